/- HeadsPlays: for every input of bulk at most 1048576 the law returns true, and each argument reads as it did. -/
import Derived.Test.YtdihoedehmfgfaaHplE
set_option linter.unusedSimpArgs false
set_option linter.unusedVariables false
namespace Go.Proofs.Ytdihoedehmfgfaa
open Go.ChangeShapes Go.WideShapes Go.ChangeAt Go.RowKit
open Go.ChangeMaps (open_string shut_string)
namespace LHeadsPlays
set_option maxRecDepth 100000 in
theorem contract (H : Type) (enc : TypeId × Value → H) (W : World) (base : Nat) (args : Array Value) (ds gs : List (DataW H)) (before : List MemPlace)
    (hval : ∀ (j : Nat) t v, Try.f11.params[j]? = some t → args[j]? = some v → Value.okWide Try.prog W .any base t v)
    (hW : DataW.Whole enc Try.prog Try.f11.params.toList Rows.headsPlaysSpec.vars false W args.toList ds gs before) (hk : Rows.uptoSmall H (ds ++ gs) = true) :
    Calls Try.prog 11 args W fun e W' => ∃ v, e = .returned v ∧ Rows.headsPlaysSpec.post enc Try.prog Try.f11 false true false false W args v W' := by
  have hA1 := hW
  obtain ⟨p, q, hA, hV, _, _, _⟩ := hA1
  obtain ⟨rfl, _⟩ := trodVars_none hV
  rw [Try.params11] at hA hval
  obtain ⟨v0, vs0, d0, ds0, p0, q0, hargs, rfl, _, h0, r0⟩ := trodAll_cons hA
  obtain ⟨v1, vs1, d1, ds1, p1, q1, rfl, rfl, _, h1, r1⟩ := trodAll_cons r0
  obtain ⟨v2, vs2, d2, ds2, p2, q2, rfl, rfl, _, h2, r2⟩ := trodAll_cons r1
  obtain ⟨v3, vs3, d3, ds3, p3, q3, rfl, rfl, _, h3, r3⟩ := trodAll_cons r2
  obtain ⟨v4, vs4, d4, ds4, p4, q4, rfl, rfl, _, h4, r4⟩ := trodAll_cons r3
  obtain ⟨v5, vs5, d5, ds5, p5, q5, rfl, rfl, _, h5, r5⟩ := trodAll_cons r4
  obtain ⟨rfl, rfl, _⟩ := trodAll_nil r5
  obtain rfl : args = #[v0, v1, v2, v3, v4, v5] := by cases args; simp_all
  have hk0 := hk
  simp only [List.append_nil] at hk0
  have hk1 : Rows.uptoBulkAll [d0, d1, d2, d3, d4, d5] ≤ 1048576 := of_decide_eq_true hk0
  simp only [Rows.uptoBulkAll] at hk1
  obtain ⟨n0, rfl, e0, _, wf0⟩ := open_int Try.underlying26 (hval 0 26 v0 rfl rfl) h0
  have bd0 := bounds_u64 wf0
  obtain ⟨z1, hz1, hx1, hl1⟩ := Tr.open_u16s Try.underlying27 Try.underlying28 (by kernel_rfl) (hval 1 27 v1 rfl rfl) h1
  obtain ⟨b1, ez1, hb1, hq1⟩ := Tr.u16s_of z1 hx1
  rw [ez1] at hz1
  obtain ⟨b2, hb2, hx2, hl2⟩ := open_int64s Try.underlying23 Try.underlying3 (by kernel_rfl) (hval 2 23 v2 rfl rfl) h2
  obtain ⟨n3, rfl, e3, _, wf3⟩ := open_int Try.underlying3 (hval 3 3 v3 rfl rfl) h3
  have bd3 := bounds_i64 wf3
  obtain ⟨n4, rfl, e4, _, wf4⟩ := open_int Try.underlying3 (hval 4 3 v4 rfl rfl) h4
  have bd4 := bounds_i64 wf4
  obtain ⟨b5, hb5⟩ := Hp.open_hacts Try.underlying70 Try.underlying72 (by kernel_rfl) rfl rfl rfl (by kernel_rfl) (by kernel_rfl) (by kernel_rfl) (by kernel_rfl) (by kernel_rfl) (by kernel_rfl) (hval 5 70 v5 rfl rfl) h5
  refine (Hp.headsplays_walk n0 (by omega) (by omega) _ _ _ b1 b2 n3 n4 b5 _ hz1 hb1 hb2 (by omega) hx2 (by omega) (by omega) hb5).mono fun e W' ⟨he, hb⟩ => ⟨_, he, law_post 4 laidOut hW rfl (by rw [Try.params11]; intro t ht; simp only [List.mem_cons, List.not_mem_nil, or_false] at ht; rcases ht with rfl | rfl | rfl | rfl | rfl | rfl <;> exact ⟨by kernel_rfl, of_decide_eq_true (by kernel_rfl)⟩) (by kernel_rfl) Try.underlying4 rfl hb⟩
set_option maxRecDepth 100000 in
theorem lifted (os : Os) (started : os.Started) (H : Type) (enc : TypeId × Value → H) (F : Stop.Interp) :
    ReturnsInHanded {} Try.checked os 11 .any ((Rows.OpenSpec.upto Rows.headsPlaysSpec).pre6 enc Try.prog Try.f11 Rows.headsPlaysUptoRow.domain false) (((Rows.OpenSpec.upto Rows.headsPlaysSpec).at F).post enc Try.prog Try.f11 false true false false) := by
  refine returnsInHanded_of_cond (C := Try.checked) (s := Rows.OpenSpec.upto Rows.headsPlaysSpec) (k := Rows.uptoSmall) rfl own started (by kernel_rfl) Try.func11
    (OpenSpec.witness (enc := enc) (C := Try.checked) (s := Rows.OpenSpec.upto Rows.headsPlaysSpec) (k := Rows.uptoSmall) rfl false ⟨#[], #[.int .u64 0, .slice none 0 0, .slice none 0 0, .int .i64 0, .int .i64 0, .slice none 0 0], []⟩ 8 (by kernel_rfl) (by kernel_rfl) (by kernel_rfl)
      (x := ([.lit (.int .u64 0), .nil, .nil, .lit (.int .i64 0), .lit (.int .i64 0), .nil], [], [])) (by kernel_rfl) rfl (by kernel_rfl)) ?_
  intro W base args ds gs before hval hW _ hk _
  exact contract H enc W base args ds gs before hval hW hk
theorem proved : Rows.HeadsPlaysUptoSaid :=
  OpenClaim.holds_of_cond 11 Try.f11 rfl rfl rfl rfl rfl rfl rfl ⟨rfl, rfl, rfl, rfl, rfl⟩ rfl rfl rfl rfl rfl (by kernel_rfl) Try.func11 (by kernel_rfl)
    (of_decide_eq_true (by kernel_rfl)) (by unfold Func.isWrapper; first | (rw [if_pos (by decide +kernel)]; kernel_rfl) | (rw [if_neg (by decide +kernel)]; exact ⟨rfl, rfl⟩))
    (fun os started H enc _ F => lifted os started H enc F)
end LHeadsPlays

end Go.Proofs.Ytdihoedehmfgfaa
