/- RecordSpoilt: for every input of bulk at most 1048576 the law returns true, and each argument reads as it did. -/
import Derived.Test.YtfbokhodcgpppaaRecS
namespace Go.Proofs.Ytfbokhodcgpppaa
open Go.ChangeShapes Go.WideShapes Go.ChangeAt Go.RowKit
namespace LRecordSpoilt
theorem contract (H : Type) (enc : TypeId × Value → H) (W : World) (base : Nat) (args : Array Value) (ds gs : List (DataW H)) (before : List MemPlace)
    (hval : ∀ (j : Nat) t v, Try.f11.params[j]? = some t → args[j]? = some v → Value.okWide Try.prog W .any base t v)
    (hW : DataW.Whole enc Try.prog Try.f11.params.toList Rows.recordSpoiltSpec.vars false W args.toList ds gs before) (hk : Rows.uptoSmall H (ds ++ gs) = true) :
    Calls Try.prog 11 args W fun e W' => ∃ v, e = .returned v ∧ Rows.recordSpoiltSpec.post enc Try.prog Try.f11 false true false false W args v W' := by
  have hA1 := hW
  obtain ⟨p, q, hA, hV, _, _, _⟩ := hA1
  obtain ⟨rfl, _⟩ := trodVars_none hV
  rw [Try.params11] at hA hval
  obtain ⟨v0, vs0, d0, ds0, p0, q0, hargs, rfl, _, h0, r0⟩ := trodAll_cons hA
  obtain ⟨v1, vs1, d1, ds1, p1, q1, rfl, rfl, _, h1, r1⟩ := trodAll_cons r0
  obtain ⟨v2, vs2, d2, ds2, p2, q2, rfl, rfl, _, h2, r2⟩ := trodAll_cons r1
  obtain ⟨v3, vs3, d3, ds3, p3, q3, rfl, rfl, _, h3, r3⟩ := trodAll_cons r2
  obtain ⟨v4, vs4, d4, ds4, p4, q4, rfl, rfl, _, h4, r4⟩ := trodAll_cons r3
  obtain ⟨v5, vs5, d5, ds5, p5, q5, rfl, rfl, _, h5, r5⟩ := trodAll_cons r4
  obtain ⟨v6, vs6, d6, ds6, p6, q6, rfl, rfl, _, h6, r6⟩ := trodAll_cons r5
  obtain ⟨v7, vs7, d7, ds7, p7, q7, rfl, rfl, _, h7, r7⟩ := trodAll_cons r6
  obtain ⟨rfl, rfl, _⟩ := trodAll_nil r7
  obtain rfl : args = #[v0, v1, v2, v3, v4, v5, v6, v7] := by cases args; simp_all
  have hk0 := hk
  simp only [List.append_nil] at hk0
  have hk1 : Rows.uptoBulkAll [d0, d1, d2, d3, d4, d5, d6, d7] ≤ 1048576 := of_decide_eq_true hk0
  simp only [Rows.uptoBulkAll] at hk1
  obtain ⟨n0, rfl, e0, _, wf0⟩ := open_int Try.underlying35 (hval 0 35 v0 rfl rfl) h0
  have bd0 := bounds_u64 wf0
  obtain ⟨n1, rfl, e1, _, wf1⟩ := open_int Try.underlying35 (hval 1 35 v1 rfl rfl) h1
  have bd1 := bounds_u64 wf1
  obtain ⟨x1, rfl⟩ := wd_of n1 bd1
  obtain ⟨n2, rfl, e2, _, wf2⟩ := open_int Try.underlying3 (hval 2 3 v2 rfl rfl) h2
  have bd2 := bounds_i64 wf2
  obtain ⟨n3, rfl, e3, _, wf3⟩ := open_int Try.underlying5 (hval 3 5 v3 rfl rfl) h3
  have bd3 := bounds_u8 wf3
  obtain ⟨x3, rfl⟩ := u8_of n3 bd3
  obtain ⟨n4, rfl, e4, _, wf4⟩ := open_int Try.underlying5 (hval 4 5 v4 rfl rfl) h4
  have bd4 := bounds_u8 wf4
  obtain ⟨x4, rfl⟩ := u8_of n4 bd4
  obtain ⟨n5, rfl, e5, _, wf5⟩ := open_int Try.underlying5 (hval 5 5 v5 rfl rfl) h5
  have bd5 := bounds_u8 wf5
  obtain ⟨x5, rfl⟩ := u8_of n5 bd5
  obtain ⟨b6, hb6, hl6⟩ := open_bytes Try.underlying22 Try.underlying5 (by kernel_rfl) (hval 6 22 v6 rfl rfl) h6
  obtain ⟨b7, hb7, hl7⟩ := open_bytes Try.underlying22 Try.underlying5 (by kernel_rfl) (hval 7 22 v7 rfl rfl) h7
  refine (Rec.spoilt_walk _ _ b6 b7 _ _ x1 x3.toNat x4 x5.toNat _ hb6 hb7 (by omega) (by omega) bd2.1 bd2.2 bd0.1 (by omega) (by have := x3.toNat_lt; omega) (by have := x5.toNat_lt; omega)).mono fun e W' ⟨he, hb⟩ => ⟨_, he, law_post 4 laidOut hW rfl (by rw [Try.params11]; intro t ht; simp only [List.mem_cons, List.not_mem_nil, or_false] at ht; rcases ht with rfl | rfl | rfl | rfl | rfl | rfl | rfl | rfl <;> exact ⟨by kernel_rfl, of_decide_eq_true (by kernel_rfl)⟩) (by kernel_rfl) Try.underlying4 rfl hb⟩
set_option maxRecDepth 100000 in
theorem lifted (os : Os) (started : os.Started) (H : Type) (enc : TypeId × Value → H) (F : Stop.Interp) :
    ReturnsInHanded {} Try.checked os 11 .any ((Rows.OpenSpec.upto Rows.recordSpoiltSpec).pre6 enc Try.prog Try.f11 Rows.recordSpoiltUptoRow.domain false) (((Rows.OpenSpec.upto Rows.recordSpoiltSpec).at F).post enc Try.prog Try.f11 false true false false) := by
  refine returnsInHanded_of_cond (C := Try.checked) (s := Rows.OpenSpec.upto Rows.recordSpoiltSpec) (k := Rows.uptoSmall) rfl own started (by kernel_rfl) Try.func11
    (OpenSpec.witness (enc := enc) (C := Try.checked) (s := Rows.OpenSpec.upto Rows.recordSpoiltSpec) (k := Rows.uptoSmall) rfl false ⟨#[], #[.int .u64 0, .int .u64 0, .int .i64 0, .int .u8 0, .int .u8 0, .int .u8 0, .slice none 0 0, .slice none 0 0], []⟩ 8 (by kernel_rfl) (by kernel_rfl) (by kernel_rfl)
      (x := ([.lit (.int .u64 0), .lit (.int .u64 0), .lit (.int .i64 0), .lit (.int .u8 0), .lit (.int .u8 0), .lit (.int .u8 0), .nil, .nil], [], [])) (by kernel_rfl) rfl (by kernel_rfl)) ?_
  intro W base args ds gs before hval hW _ hk _
  exact contract H enc W base args ds gs before hval hW hk
theorem proved : Rows.RecordSpoiltUptoSaid :=
  OpenClaim.holds_of_cond 11 Try.f11 rfl rfl rfl rfl rfl rfl rfl ⟨rfl, rfl, rfl, rfl, rfl⟩ rfl rfl rfl rfl rfl (by kernel_rfl) Try.func11 (by kernel_rfl)
    (of_decide_eq_true (by kernel_rfl)) (by unfold Func.isWrapper; first | (rw [if_pos (by decide +kernel)]; kernel_rfl) | (rw [if_neg (by decide +kernel)]; exact ⟨rfl, rfl⟩))
    (fun os started H enc _ F => lifted os started H enc F)
end LRecordSpoilt

end Go.Proofs.Ytfbokhodcgpppaa
