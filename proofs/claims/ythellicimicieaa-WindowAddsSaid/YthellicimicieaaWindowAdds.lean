/- WindowAdds: for every input the law returns true, and each argument reads as it did. No condition. -/
import Derived.Test.YthellicimicieaaWinU
set_option linter.unusedSimpArgs false
set_option linter.unusedVariables false
namespace Go.Proofs.Ythellicimicieaa
open Go.ChangeShapes Go.WideShapes Go.ChangeAt Go.RowKit
open Go.ChangeMaps (open_string shut_string)
namespace LWindowAdds
set_option maxRecDepth 100000 in
theorem contract (H : Type) (enc : TypeId × Value → H) (W : World) (base : Nat) (args : Array Value) (ds gs : List (DataW H)) (before : List MemPlace)
    (hval : ∀ (j : Nat) t v, Try.f13.params[j]? = some t → args[j]? = some v → Value.okWide Try.prog W .any base t v)
    (hW : DataW.Whole enc Try.prog Try.f13.params.toList Rows.windowAddsSpec.vars false W args.toList ds gs before) :
    Calls Try.prog 13 args W fun e W' => ∃ v, e = .returned v ∧ Rows.windowAddsSpec.post enc Try.prog Try.f13 false true false false W args v W' := by
  have hA1 := hW
  obtain ⟨p, q, hA, hV, _, _, _⟩ := hA1
  obtain ⟨rfl, _⟩ := trodVars_none hV
  rw [Try.params13] at hA hval
  obtain ⟨v0, vs0, d0, ds0, p0, q0, hargs, rfl, _, h0, r0⟩ := trodAll_cons hA
  obtain ⟨v1, vs1, d1, ds1, p1, q1, rfl, rfl, _, h1, r1⟩ := trodAll_cons r0
  obtain ⟨v2, vs2, d2, ds2, p2, q2, rfl, rfl, _, h2, r2⟩ := trodAll_cons r1
  obtain ⟨v3, vs3, d3, ds3, p3, q3, rfl, rfl, _, h3, r3⟩ := trodAll_cons r2
  obtain ⟨v4, vs4, d4, ds4, p4, q4, rfl, rfl, _, h4, r4⟩ := trodAll_cons r3
  obtain ⟨rfl, rfl, _⟩ := trodAll_nil r4
  obtain rfl : args = #[v0, v1, v2, v3, v4] := by cases args; simp_all
  obtain ⟨n0, rfl, e0, _, wf0⟩ := open_int Try.underlying22 (hval 0 22 v0 rfl rfl) h0
  have bd0 := bounds_u16 wf0
  obtain ⟨x0, rfl⟩ : ∃ x : Nat, n0 = (x : Int) := ⟨n0.toNat, by omega⟩
  obtain ⟨b1, hb1, hx1⟩ := Wn.open_begun Try.underlying23 Try.underlying70 (by kernel_rfl) rfl rfl (by kernel_rfl) (by kernel_rfl) (by kernel_rfl) (by kernel_rfl) (hval 1 23 v1 rfl rfl) h1
  obtain ⟨va2, vb2, ya2, yb2, na2, rfl, rfl, rfl, ta2, tb2⟩ := Joins.open_agg2 Try.underlying70 (by kernel_rfl) (by kernel_rfl) (hval 2 70 v2 rfl rfl) h2
  obtain ⟨ci2, ea2, _, wa2⟩ := DataW.trod_int Try.underlying22 ta2
  obtain rfl : va2 = .int .u16 ci2 := by simpa using ea2
  obtain ⟨si2, eb2, _, wb2⟩ := DataW.trod_int Try.underlying24 tb2
  obtain rfl : vb2 = .int .u64 si2 := by simpa using eb2
  have ba2 := bounds_u16 wa2
  have bb2 := bounds_u64 wb2
  obtain ⟨cc2, rfl⟩ : ∃ x : Nat, ci2 = (x : Int) := ⟨ci2.toNat, by omega⟩
  obtain ⟨ss2, rfl⟩ := Wn.wd_of si2 bb2
  obtain ⟨va3, vb3, ya3, yb3, na3, rfl, rfl, rfl, ta3, tb3⟩ := Joins.open_agg2 Try.underlying70 (by kernel_rfl) (by kernel_rfl) (hval 3 70 v3 rfl rfl) h3
  obtain ⟨ci3, ea3, _, wa3⟩ := DataW.trod_int Try.underlying22 ta3
  obtain rfl : va3 = .int .u16 ci3 := by simpa using ea3
  obtain ⟨si3, eb3, _, wb3⟩ := DataW.trod_int Try.underlying24 tb3
  obtain rfl : vb3 = .int .u64 si3 := by simpa using eb3
  have ba3 := bounds_u16 wa3
  have bb3 := bounds_u64 wb3
  obtain ⟨cc3, rfl⟩ : ∃ x : Nat, ci3 = (x : Int) := ⟨ci3.toNat, by omega⟩
  obtain ⟨ss3, rfl⟩ := Wn.wd_of si3 bb3
  obtain ⟨n4, rfl, e4, _, wf4⟩ := open_int Try.underlying24 (hval 4 24 v4 rfl rfl) h4
  have bd4 := bounds_u64 wf4
  refine (Wn.adds_walk _ _ _ _ _ _ _ _ _ hb1 hx1 (by omega) (by omega) (by omega) (by omega)).mono fun e W' ⟨he, hb⟩ => ⟨_, he, law_post 4 laidOut hW rfl (by rw [Try.params13]; intro t ht; simp only [List.mem_cons, List.not_mem_nil, or_false] at ht; rcases ht with rfl | rfl | rfl | rfl | rfl <;> exact ⟨by kernel_rfl, of_decide_eq_true (by kernel_rfl)⟩) (by kernel_rfl) Try.underlying4 rfl hb⟩
set_option maxRecDepth 100000 in
theorem lifted (os : Os) (started : os.Started) (H : Type) (enc : TypeId × Value → H) :
    ReturnsInHanded {} Try.checked os 13 .any (Rows.windowAddsSpec.pre6 enc Try.prog Try.f13 Rows.windowAddsRow.domain false) (Rows.windowAddsSpec.post enc Try.prog Try.f13 false true false false) := by
  refine returnsInHanded_of_change (C := Try.checked) own started (by kernel_rfl) Try.func13
    (ChangeSpec.witness6 (enc := enc) (C := Try.checked) false ⟨#[], #[.int .u16 0, .slice none 0 0, .agg #[.int .u16 0, .int .u64 0], .agg #[.int .u16 0, .int .u64 0], .int .u64 0], []⟩ 8 (by kernel_rfl) (by kernel_rfl) (by kernel_rfl) (by kernel_rfl)) ?_
  intro W base args ds gs before hval hW _ _
  exact contract H enc W base args ds gs before hval hW
theorem proved : Rows.WindowAddsSaid :=
  OpenClaim.holds_of_wide 13 Try.f13 rfl rfl rfl rfl rfl rfl rfl ⟨rfl, rfl, rfl, rfl, rfl⟩ rfl rfl rfl rfl rfl (by kernel_rfl) Try.func13 (by kernel_rfl)
    (of_decide_eq_true (by kernel_rfl)) (by unfold Func.isWrapper; first | (rw [if_pos (by decide +kernel)]; kernel_rfl) | (rw [if_neg (by decide +kernel)]; exact ⟨rfl, rfl⟩))
    (fun os started H enc _ => lifted os started H enc)
end LWindowAdds

end Go.Proofs.Ythellicimicieaa
