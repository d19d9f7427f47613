/- HeadsRaw: for every input of bulk at most 1048576 the law returns true, and each argument reads as it did. -/
import Derived.Test.YtdihoedehmfgfaaHplE
set_option linter.unusedSimpArgs false
set_option linter.unusedVariables false
namespace Go.Proofs.Ytdihoedehmfgfaa
open Go.ChangeShapes Go.WideShapes Go.ChangeAt Go.RowKit
open Go.ChangeMaps (open_string shut_string)
namespace LHeadsRaw
set_option maxRecDepth 100000 in
theorem contract (H : Type) (enc : TypeId × Value → H) (W : World) (base : Nat) (args : Array Value) (ds gs : List (DataW H)) (before : List MemPlace)
    (hval : ∀ (j : Nat) t v, Try.f12.params[j]? = some t → args[j]? = some v → Value.okWide Try.prog W .any base t v)
    (hW : DataW.Whole enc Try.prog Try.f12.params.toList Rows.headsRawSpec.vars false W args.toList ds gs before) (hk : Rows.uptoSmall H (ds ++ gs) = true) :
    Calls Try.prog 12 args W fun e W' => ∃ v, e = .returned v ∧ Rows.headsRawSpec.post enc Try.prog Try.f12 false true false false W args v W' := by
  have hA1 := hW
  obtain ⟨p, q, hA, hV, _, _, _⟩ := hA1
  obtain ⟨rfl, _⟩ := trodVars_none hV
  rw [Try.params12] at hA hval
  obtain ⟨v0, vs0, d0, ds0, p0, q0, hargs, rfl, _, h0, r0⟩ := trodAll_cons hA
  obtain ⟨v1, vs1, d1, ds1, p1, q1, rfl, rfl, _, h1, r1⟩ := trodAll_cons r0
  obtain ⟨v2, vs2, d2, ds2, p2, q2, rfl, rfl, _, h2, r2⟩ := trodAll_cons r1
  obtain ⟨v3, vs3, d3, ds3, p3, q3, rfl, rfl, _, h3, r3⟩ := trodAll_cons r2
  obtain ⟨v4, vs4, d4, ds4, p4, q4, rfl, rfl, _, h4, r4⟩ := trodAll_cons r3
  obtain ⟨v5, vs5, d5, ds5, p5, q5, rfl, rfl, _, h5, r5⟩ := trodAll_cons r4
  obtain ⟨v6, vs6, d6, ds6, p6, q6, rfl, rfl, _, h6, r6⟩ := trodAll_cons r5
  obtain ⟨v7, vs7, d7, ds7, p7, q7, rfl, rfl, _, h7, r7⟩ := trodAll_cons r6
  obtain ⟨v8, vs8, d8, ds8, p8, q8, rfl, rfl, _, h8, r8⟩ := trodAll_cons r7
  obtain ⟨v9, vs9, d9, ds9, p9, q9, rfl, rfl, _, h9, r9⟩ := trodAll_cons r8
  obtain ⟨v10, vs10, d10, ds10, p10, q10, rfl, rfl, _, h10, r10⟩ := trodAll_cons r9
  obtain ⟨rfl, rfl, _⟩ := trodAll_nil r10
  obtain rfl : args = #[v0, v1, v2, v3, v4, v5, v6, v7, v8, v9, v10] := by cases args; simp_all
  have hk0 := hk
  simp only [List.append_nil] at hk0
  have hk1 : Rows.uptoBulkAll [d0, d1, d2, d3, d4, d5, d6, d7, d8, d9, d10] ≤ 1048576 := of_decide_eq_true hk0
  simp only [Rows.uptoBulkAll] at hk1
  obtain ⟨b0, hb0, hl0⟩ := open_bytes Try.underlying22 Try.underlying5 (by kernel_rfl) (hval 0 22 v0 rfl rfl) h0
  obtain ⟨n1, rfl, e1, _, wf1⟩ := open_int Try.underlying26 (hval 1 26 v1 rfl rfl) h1
  have bd1 := bounds_u64 wf1
  obtain ⟨z2, hz2, hx2, hl2⟩ := Tr.open_u16s Try.underlying27 Try.underlying28 (by kernel_rfl) (hval 2 27 v2 rfl rfl) h2
  obtain ⟨b2, ez2, hb2, hq2⟩ := Tr.u16s_of z2 hx2
  rw [ez2] at hz2
  obtain ⟨n3, rfl, e3, _, wf3⟩ := open_int Try.underlying28 (hval 3 28 v3 rfl rfl) h3
  have bd3 := bounds_u16 wf3
  obtain ⟨x3, rfl, hx3⟩ := u16_of n3 bd3
  obtain ⟨n4, rfl, e4, _, wf4⟩ := open_int Try.underlying28 (hval 4 28 v4 rfl rfl) h4
  have bd4 := bounds_u16 wf4
  obtain ⟨x4, rfl, hx4⟩ := u16_of n4 bd4
  obtain ⟨n5, rfl, e5, _, wf5⟩ := open_int Try.underlying5 (hval 5 5 v5 rfl rfl) h5
  have bd5 := bounds_u8 wf5
  obtain ⟨x5, rfl⟩ := u8_of n5 bd5
  obtain ⟨b6, hb6, hl6, hx6, ht6⟩ := Lg.open_evs Try.underlying32 Try.underlying38 (by kernel_rfl) rfl rfl (by kernel_rfl) (by kernel_rfl) Try.underlying26 Try.underlying23 Try.underlying3 (by kernel_rfl) (hval 6 32 v6 rfl rfl) h6
  obtain ⟨b7, hb7, hx7, hl7⟩ := open_int64s Try.underlying23 Try.underlying3 (by kernel_rfl) (hval 7 23 v7 rfl rfl) h7
  obtain ⟨n8, rfl, e8, _, wf8⟩ := open_int Try.underlying3 (hval 8 3 v8 rfl rfl) h8
  have bd8 := bounds_i64 wf8
  obtain ⟨n9, rfl, e9, _, wf9⟩ := open_int Try.underlying3 (hval 9 3 v9 rfl rfl) h9
  have bd9 := bounds_i64 wf9
  obtain ⟨b10, hb10⟩ := Hp.open_hacts Try.underlying70 Try.underlying72 (by kernel_rfl) rfl rfl rfl (by kernel_rfl) (by kernel_rfl) (by kernel_rfl) (by kernel_rfl) (by kernel_rfl) (by kernel_rfl) (hval 10 70 v10 rfl rfl) h10
  refine (Hp.headsraw_walk _ b0 n1 (by omega) (by omega) _ _ _ _ b2 x3 x4 x5 b6 b7 n8 n9 b10 _ hb0 (by omega) hz2 hb2 hx3 hx4 hb6 ht6 hb7 (by omega) hx7 (by omega) (by omega) hb10).mono fun e W' ⟨he, hb⟩ => ⟨_, he, law_post 4 laidOut hW rfl (by rw [Try.params12]; intro t ht; simp only [List.mem_cons, List.not_mem_nil, or_false] at ht; rcases ht with rfl | rfl | rfl | rfl | rfl | rfl | rfl | rfl | rfl | rfl | rfl <;> exact ⟨by kernel_rfl, of_decide_eq_true (by kernel_rfl)⟩) (by kernel_rfl) Try.underlying4 rfl hb⟩
set_option maxRecDepth 100000 in
theorem lifted (os : Os) (started : os.Started) (H : Type) (enc : TypeId × Value → H) (F : Stop.Interp) :
    ReturnsInHanded {} Try.checked os 12 .any ((Rows.OpenSpec.upto Rows.headsRawSpec).pre6 enc Try.prog Try.f12 Rows.headsRawUptoRow.domain false) (((Rows.OpenSpec.upto Rows.headsRawSpec).at F).post enc Try.prog Try.f12 false true false false) := by
  refine returnsInHanded_of_cond (C := Try.checked) (s := Rows.OpenSpec.upto Rows.headsRawSpec) (k := Rows.uptoSmall) rfl own started (by kernel_rfl) Try.func12
    (OpenSpec.witness (enc := enc) (C := Try.checked) (s := Rows.OpenSpec.upto Rows.headsRawSpec) (k := Rows.uptoSmall) rfl false ⟨#[], #[.slice none 0 0, .int .u64 0, .slice none 0 0, .int .u16 0, .int .u16 0, .int .u8 0, .slice none 0 0, .slice none 0 0, .int .i64 0, .int .i64 0, .slice none 0 0], []⟩ 8 (by kernel_rfl) (by kernel_rfl) (by kernel_rfl)
      (x := ([.nil, .lit (.int .u64 0), .nil, .lit (.int .u16 0), .lit (.int .u16 0), .lit (.int .u8 0), .nil, .nil, .lit (.int .i64 0), .lit (.int .i64 0), .nil], [], [])) (by kernel_rfl) rfl (by kernel_rfl)) ?_
  intro W base args ds gs before hval hW _ hk _
  exact contract H enc W base args ds gs before hval hW hk
theorem proved : Rows.HeadsRawUptoSaid :=
  OpenClaim.holds_of_cond 12 Try.f12 rfl rfl rfl rfl rfl rfl rfl ⟨rfl, rfl, rfl, rfl, rfl⟩ rfl rfl rfl rfl rfl (by kernel_rfl) Try.func12 (by kernel_rfl)
    (of_decide_eq_true (by kernel_rfl)) (by unfold Func.isWrapper; first | (rw [if_pos (by decide +kernel)]; kernel_rfl) | (rw [if_neg (by decide +kernel)]; exact ⟨rfl, rfl⟩))
    (fun os started H enc _ F => lifted os started H enc F)
end LHeadsRaw

end Go.Proofs.Ytdihoedehmfgfaa
