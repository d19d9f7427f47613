/- LogTells: for every input the law returns true, and each argument reads as it did. No condition. -/
import Derived.Test.YtjelbfodkacipaaLogM
set_option linter.unusedSimpArgs false
set_option linter.unusedVariables false
namespace Go.Proofs.Ytjelbfodkacipaa
open Go.ChangeShapes Go.WideShapes Go.ChangeAt Go.RowKit
open Go.ChangeMaps (open_string shut_string)
namespace LLogTells
theorem contract (H : Type) (enc : TypeId × Value → H) (W : World) (base : Nat) (args : Array Value) (ds gs : List (DataW H)) (before : List MemPlace)
    (hval : ∀ (j : Nat) t v, Try.f15.params[j]? = some t → args[j]? = some v → Value.okWide Try.prog W .any base t v)
    (hW : DataW.Whole enc Try.prog Try.f15.params.toList Rows.logTellsSpec.vars false W args.toList ds gs before) :
    Calls Try.prog 15 args W fun e W' => ∃ v, e = .returned v ∧ Rows.logTellsSpec.post enc Try.prog Try.f15 false true false false W args v W' := by
  have hA1 := hW
  obtain ⟨p, q, hA, hV, _, _, _⟩ := hA1
  obtain ⟨rfl, _⟩ := trodVars_none hV
  rw [Try.params15] at hA hval
  obtain ⟨v0, vs0, d0, ds0, p0, q0, hargs, rfl, _, h0, r0⟩ := trodAll_cons hA
  obtain ⟨v1, vs1, d1, ds1, p1, q1, rfl, rfl, _, h1, r1⟩ := trodAll_cons r0
  obtain ⟨v2, vs2, d2, ds2, p2, q2, rfl, rfl, _, h2, r2⟩ := trodAll_cons r1
  obtain ⟨v3, vs3, d3, ds3, p3, q3, rfl, rfl, _, h3, r3⟩ := trodAll_cons r2
  obtain ⟨v4, vs4, d4, ds4, p4, q4, rfl, rfl, _, h4, r4⟩ := trodAll_cons r3
  obtain ⟨rfl, rfl, _⟩ := trodAll_nil r4
  obtain rfl : args = #[v0, v1, v2, v3, v4] := by cases args; simp_all
  obtain ⟨n0, rfl, e0, _, wf0⟩ := open_int Try.underlying33 (hval 0 33 v0 rfl rfl) h0
  have bd0 := bounds_u64 wf0
  obtain ⟨z1, hz1, hx1, hl1⟩ := Tr.open_u16s Try.underlying34 Try.underlying54 (by kernel_rfl) (hval 1 34 v1 rfl rfl) h1
  obtain ⟨b1, ez1, hb1, hq1⟩ := Tr.u16s_of z1 hx1
  rw [ez1] at hz1
  obtain ⟨n2, rfl, e2, _, wf2⟩ := open_int Try.underlying5 (hval 2 5 v2 rfl rfl) h2
  have bd2 := bounds_u8 wf2
  obtain ⟨x2, rfl⟩ := u8_of n2 bd2
  obtain ⟨n3, rfl, e3, _, wf3⟩ := open_int Try.underlying5 (hval 3 5 v3 rfl rfl) h3
  have bd3 := bounds_u8 wf3
  obtain ⟨x3, rfl⟩ := u8_of n3 bd3
  obtain ⟨n4, rfl, e4, _, wf4⟩ := open_int Try.underlying5 (hval 4 5 v4 rfl rfl) h4
  have bd4 := bounds_u8 wf4
  obtain ⟨x4, rfl⟩ := u8_of n4 bd4
  refine (Lg.tells_walk n0 (by omega) (by omega) _ b1 x2.toNat x3.toNat x4 _ hz1 hb1 (by have := x2.toNat_lt; omega) (by have := x3.toNat_lt; omega)).mono fun e W' ⟨he, hb⟩ => ⟨_, he, law_post 4 laidOut hW rfl (by rw [Try.params15]; intro t ht; simp only [List.mem_cons, List.not_mem_nil, or_false] at ht; rcases ht with rfl | rfl | rfl | rfl | rfl <;> exact ⟨by kernel_rfl, of_decide_eq_true (by kernel_rfl)⟩) (by kernel_rfl) Try.underlying4 rfl hb⟩
set_option maxRecDepth 100000 in
theorem lifted (os : Os) (started : os.Started) (H : Type) (enc : TypeId × Value → H) :
    ReturnsInHanded {} Try.checked os 15 .any (Rows.logTellsSpec.pre6 enc Try.prog Try.f15 Rows.logTellsRow.domain false) (Rows.logTellsSpec.post enc Try.prog Try.f15 false true false false) := by
  refine returnsInHanded_of_change (C := Try.checked) own started (by kernel_rfl) Try.func15
    (ChangeSpec.witness6 (enc := enc) (C := Try.checked) false ⟨#[], #[.int .u64 0, .slice none 0 0, .int .u8 0, .int .u8 0, .int .u8 0], []⟩ 8 (by kernel_rfl) (by kernel_rfl) (by kernel_rfl) (by kernel_rfl)) ?_
  intro W base args ds gs before hval hW _ _
  exact contract H enc W base args ds gs before hval hW
theorem proved : Rows.LogTellsSaid :=
  OpenClaim.holds_of_wide 15 Try.f15 rfl rfl rfl rfl rfl rfl rfl ⟨rfl, rfl, rfl, rfl, rfl⟩ rfl rfl rfl rfl rfl (by kernel_rfl) Try.func15 (by kernel_rfl)
    (of_decide_eq_true (by kernel_rfl)) (by unfold Func.isWrapper; first | (rw [if_pos (by decide +kernel)]; kernel_rfl) | (rw [if_neg (by decide +kernel)]; exact ⟨rfl, rfl⟩))
    (fun os started H enc _ => lifted os started H enc)
end LLogTells

end Go.Proofs.Ytjelbfodkacipaa
