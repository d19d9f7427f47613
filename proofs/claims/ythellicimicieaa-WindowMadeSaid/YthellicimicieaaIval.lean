/- The contracts of package ival and of the reference's intervals (all but their texts): what each call computes, for any interval, time and class. No condition but the numbers' kinds. -/
import Derived.Test.YthellicimicieaaBase
set_option linter.unusedSimpArgs false
set_option linter.unusedVariables false
namespace Go.Proofs.Ythellicimicieaa
open Go.ChangeShapes Go.WideShapes Go.ChangeAt Go.RowKit
namespace Ival
def may (lo hi : Int) : Bool := decide (0 ≤ lo ∧ lo ≤ 9999 ∧ (hi = -1 ∨ lo ≤ hi ∧ hi ≤ 9999))
def last (lo hi : Int) : Int := if hi = -1 then lo else hi
def wide (lo hi : Int) : Int := if may lo hi = true then last lo hi + 1 else 0
def has (lo hi d : Int) : Bool := decide (may lo hi = true ∧ lo ≤ d ∧ (hi = -1 ∨ d ≤ hi))
def later (lo hi c d : Int) : Int := if c < 0 ∨ wide lo hi ≤ c then -1 else if d ≤ last lo hi - c then c + d else if hi = -1 then lo else -1
def inn (lo hi c : Int) : Bool := decide (0 ≤ c ∧ lo ≤ c ∧ c < wide lo hi)
def span (lo hi : Int) : Value := .agg #[.int .i64 lo, .int .i64 hi]
theorem may_yes {lo hi : Int} (h : may lo hi = true) : 0 ≤ lo ∧ lo ≤ 9999 ∧ (hi = -1 ∨ lo ≤ hi ∧ hi ≤ 9999) := of_decide_eq_true h
theorem may_no {lo hi : Int} (h : may lo hi = false) : ¬ (0 ≤ lo ∧ lo ≤ 9999 ∧ (hi = -1 ∨ lo ≤ hi ∧ hi ≤ 9999)) := of_decide_eq_false h
theorem wide_bd (lo hi : Int) : 0 ≤ wide lo hi ∧ wide lo hi ≤ 10000 := by
  unfold wide last
  by_cases h : may lo hi = true
  · have := may_yes h; rw [if_pos h]; split <;> omega
  · rw [if_neg h]; omega
theorem later_bd (lo hi c d : Int) (h0 : 0 ≤ d) : -1 ≤ later lo hi c d ∧ later lo hi c d ≤ 9999 := by
  unfold later
  by_cases h : c < 0 ∨ wide lo hi ≤ c
  · rw [if_pos h]; omega
  · rw [if_neg h]
    by_cases hm : may lo hi = true
    · have := may_yes hm
      simp only [wide, if_pos hm] at h
      unfold last at *
      split <;> split at h <;> (try split) <;> omega
    · simp only [wide, if_neg hm] at h; omega
set_option maxHeartbeats 400000 in
theorem may_c (lo hi : Int) (w : World) : Calls Try.prog 55 #[span lo hi] w (Gives (.bool (may lo hi)) w) := by
  go_enter Try.func55, Try.ntmps55
  unfold span
  go_wp2
  all_goals
    go_ret
    exact Gives.b (by (rw [Bool.eq_iff_iff]; try simp [may]; try omega)) (by repeat (first | assumption | exact Nw.refl _ | refine Nw.alloc ?_ _ | refine Nw.drew ?_ | refine Nw.drewN2 ?_ _ | (refine Nw.trans ?_ (by assumption))))

set_option maxHeartbeats 400000 in
theorem rmay_c (lo hi : Int) (w : World) : Calls Try.prog 64 #[span lo hi] w (Gives (.bool (may lo hi)) w) := by
  go_enter Try.func64, Try.ntmps64
  unfold span
  go_wp2
  all_goals
    go_ret
    exact Gives.b (by (rw [Bool.eq_iff_iff]; try simp [may]; try omega)) (by repeat (first | assumption | exact Nw.refl _ | refine Nw.alloc ?_ _ | refine Nw.drew ?_ | refine Nw.drewN2 ?_ _ | (refine Nw.trans ?_ (by assumption))))

theorem last_c (lo hi : Int) (w : World) : Calls Try.prog 56 #[span lo hi] w (Gives (.int .i64 (last lo hi)) w) := by
  go_enter Try.func56, Try.ntmps56
  unfold span
  go_wp2
  all_goals
    go_ret
    exact Gives.i (by (try simp only [beq_iff_eq, bne_eq_false_iff_eq, beq_eq_false_iff_ne, bne_iff_ne, decide_eq_true_eq, decide_eq_false_iff_not] at *); unfold last; split <;> omega) (by repeat (first | assumption | exact Nw.refl _ | refine Nw.alloc ?_ _ | refine Nw.drew ?_ | refine Nw.drewN2 ?_ _ | (refine Nw.trans ?_ (by assumption))))
theorem last_bd {lo hi : Int} (h : may lo hi = true) : 0 ≤ last lo hi ∧ last lo hi ≤ 9999 := by
  have := may_yes h; unfold last; split <;> omega
theorem wide_yes {lo hi : Int} (h : may lo hi = true) : wide lo hi = last lo hi + 1 := if_pos h
theorem wide_no {lo hi : Int} (h : may lo hi = false) : wide lo hi = 0 := if_neg (by simp [h])
set_option maxHeartbeats 400000 in
theorem wide_c (lo hi : Int) (w : World) : Calls Try.prog 34 #[span lo hi] w (Gives (.int .i64 (wide lo hi)) w) := by
  rcases Bool.eq_false_or_eq_true (may lo hi) with hm | hm
  · obtain ⟨b1, b2, b3⟩ := may_yes hm
    have HB := hid b3
    have b4 : -1 ≤ hi := by omega
    have b5 : hi ≤ 9999 := by omega
    clear b3
    obtain ⟨l1, l2⟩ := last_bd hm
    rw [wide_yes hm]
    go_enter Try.func34, Try.ntmps34
    unfold span
    go_wp2_with (first
      | (go_at_call 55; refine (may_c _ _ _).mono ?_; rintro e w1 ⟨rfl, hn1⟩; obtain ⟨hc1, hf1, hz1⟩ := nwc hn1)
      | (go_at_call 56; refine (last_c _ _ _).mono ?_; rintro e w2 ⟨rfl, hn2⟩; obtain ⟨hc2, hf2, hz2⟩ := nwc hn2))
    all_goals
      go_ret
      exact Gives.i (by first | rfl | (have := HB.out; (try simp only [beq_iff_eq, bne_eq_false_iff_eq, beq_eq_false_iff_ne, bne_iff_ne, decide_eq_true_eq, decide_eq_false_iff_not] at *); unfold last; split <;> omega)) (by repeat (first | assumption | exact Nw.refl _ | refine Nw.alloc ?_ _ | refine Nw.drew ?_ | refine Nw.drewN2 ?_ _ | (refine Nw.trans ?_ (by assumption))))
  · rw [wide_no hm]
    go_enter Try.func34, Try.ntmps34
    unfold span
    go_wp2_with (go_at_call 55; refine (may_c _ _ _).mono ?_; rintro e w1 ⟨rfl, hn1⟩; obtain ⟨hc1, hf1, hz1⟩ := nwc hn1)
    all_goals
      go_ret
      exact Gives.i rfl (by repeat (first | assumption | exact Nw.refl _ | refine Nw.alloc ?_ _ | refine Nw.drew ?_ | refine Nw.drewN2 ?_ _ | (refine Nw.trans ?_ (by assumption))))

set_option maxHeartbeats 400000 in
theorem rwide_c (lo hi : Int) (w : World) : Calls Try.prog 42 #[span lo hi] w (Gives (.int .i64 (wide lo hi)) w) := by
  rcases Bool.eq_false_or_eq_true (may lo hi) with hm | hm
  · obtain ⟨b1, b2, b3⟩ := may_yes hm
    have HB := hid b3
    have b4 : -1 ≤ hi := by omega
    have b5 : hi ≤ 9999 := by omega
    clear b3
    obtain ⟨l1, l2⟩ := last_bd hm
    rw [wide_yes hm]
    go_enter Try.func42, Try.ntmps42
    unfold span
    go_wp2_with (first
      | (go_at_call 64; refine (rmay_c _ _ _).mono ?_; rintro e w1 ⟨rfl, hn1⟩; obtain ⟨hc1, hf1, hz1⟩ := nwc hn1)
      | (go_at_call 56; refine (last_c _ _ _).mono ?_; rintro e w2 ⟨rfl, hn2⟩; obtain ⟨hc2, hf2, hz2⟩ := nwc hn2))
    all_goals
      go_ret
      exact Gives.i (by first | rfl | (have := HB.out; (try simp only [beq_iff_eq, bne_eq_false_iff_eq, beq_eq_false_iff_ne, bne_iff_ne, decide_eq_true_eq, decide_eq_false_iff_not] at *); unfold last; split <;> omega)) (by repeat (first | assumption | exact Nw.refl _ | refine Nw.alloc ?_ _ | refine Nw.drew ?_ | refine Nw.drewN2 ?_ _ | (refine Nw.trans ?_ (by assumption))))
  · rw [wide_no hm]
    go_enter Try.func42, Try.ntmps42
    unfold span
    go_wp2_with (go_at_call 64; refine (rmay_c _ _ _).mono ?_; rintro e w1 ⟨rfl, hn1⟩; obtain ⟨hc1, hf1, hz1⟩ := nwc hn1)
    all_goals
      go_ret
      exact Gives.i rfl (by repeat (first | assumption | exact Nw.refl _ | refine Nw.alloc ?_ _ | refine Nw.drew ?_ | refine Nw.drewN2 ?_ _ | (refine Nw.trans ?_ (by assumption))))

set_option maxHeartbeats 1000000 in
theorem later_c (lo hi c d : Int) (w : World) (hc : -9223372036854775808 ≤ c ∧ c ≤ 9223372036854775807) (hd : 0 ≤ d ∧ d ≤ 18446744073709551615) (hlo : -9223372036854775808 ≤ lo ∧ lo ≤ 9223372036854775807) :
    Calls Try.prog 44 #[span lo hi, .int .i64 c, .int .u64 d] w (Gives (.int .i64 (later lo hi c d)) w) := by
  obtain ⟨c1, c2⟩ := hc
  obtain ⟨d1, d2⟩ := hd
  have hwb := wide_bd lo hi
  by_cases h0 : c < 0
  · have HL := hid (show later lo hi c d = -1 from if_pos (Or.inl h0))
    go_enter Try.func44, Try.ntmps44
    unfold span
    go_wp2_with (first
      | (go_at_call 34; refine (wide_c _ _ _).mono ?_; rintro e w1 ⟨rfl, hn1⟩; obtain ⟨hc1, hf1, hz1⟩ := nwc hn1))
    go_ret
    exact Gives.i HL.out.symm (by repeat (first | assumption | exact Nw.refl _ | refine Nw.alloc ?_ _ | refine Nw.drew ?_ | refine Nw.drewN2 ?_ _ | (refine Nw.trans ?_ (by assumption))))
  · by_cases h1 : wide lo hi ≤ c
    · have HL := hid (show later lo hi c d = -1 from if_pos (Or.inr h1))
      go_enter Try.func44, Try.ntmps44
      unfold span
      go_wp2_with (first
        | (go_at_call 34; refine (wide_c _ _ _).mono ?_; rintro e w1 ⟨rfl, hn1⟩; obtain ⟨hc1, hf1, hz1⟩ := nwc hn1))
      go_ret
      exact Gives.i HL.out.symm (by repeat (first | assumption | exact Nw.refl _ | refine Nw.alloc ?_ _ | refine Nw.drew ?_ | refine Nw.drewN2 ?_ _ | (refine Nw.trans ?_ (by assumption))))
    · have hm : may lo hi = true := by
        by_cases hm : may lo hi = true
        · exact hm
        · rw [wide_no (by simpa using hm)] at h1; omega
      have HL := hid (show later lo hi c d = if d ≤ last lo hi - c then c + d else if hi = -1 then lo else -1 from if_neg (by omega))
      have HM := hid hm
      obtain ⟨l1, l2⟩ := last_bd hm
      have hw := wide_yes hm
      rw [hw] at h1
      have h2 : c ≤ last lo hi := by omega
      have h3 : ¬ last lo hi + 1 ≤ c := by omega
      have HW := hid hw
      obtain ⟨b1, b2, b3⟩ := may_yes hm
      clear hm hw hwb h1 b3
      have R := wide_c lo hi
      rw [HW.out] at R
      have HR := hid R
      clear R
      go_enter Try.func44, Try.ntmps44
      unfold span
      go_wp2_with (first
        | (go_at_call 34; refine (HR.out _).mono ?_; rintro e w1 ⟨rfl, hn1⟩; obtain ⟨hc1, hf1, hz1⟩ := nwc hn1)
        | (go_at_call 56; refine (last_c _ _ _).mono ?_; rintro e w2 ⟨rfl, hn2⟩; obtain ⟨hc2, hf2, hz2⟩ := nwc hn2))
      all_goals
        go_ret
        exact Gives.i (by rw [HL.out]; (try simp only [beq_iff_eq, bne_eq_false_iff_eq, beq_eq_false_iff_ne, bne_iff_ne, decide_eq_true_eq, decide_eq_false_iff_not] at *); unfold last at *; split <;> (try split) <;> first | omega | (split at * <;> omega)) (by repeat (first | assumption | exact Nw.refl _ | refine Nw.alloc ?_ _ | refine Nw.drew ?_ | refine Nw.drewN2 ?_ _ | (refine Nw.trans ?_ (by assumption))))

set_option maxHeartbeats 1000000 in
theorem rlater_c (lo hi c d : Int) (w : World) (hc : -9223372036854775808 ≤ c ∧ c ≤ 9223372036854775807) (hd : 0 ≤ d ∧ d ≤ 18446744073709551615) (hlo : -9223372036854775808 ≤ lo ∧ lo ≤ 9223372036854775807) :
    Calls Try.prog 71 #[span lo hi, .int .i64 c, .int .u64 d] w (Gives (.int .i64 (later lo hi c d)) w) := by
  obtain ⟨c1, c2⟩ := hc
  obtain ⟨d1, d2⟩ := hd
  have hwb := wide_bd lo hi
  by_cases h0 : c < 0
  · have HL := hid (show later lo hi c d = -1 from if_pos (Or.inl h0))
    go_enter Try.func71, Try.ntmps71
    unfold span
    go_wp2_with (first
      | (go_at_call 42; refine (rwide_c _ _ _).mono ?_; rintro e w1 ⟨rfl, hn1⟩; obtain ⟨hc1, hf1, hz1⟩ := nwc hn1))
    go_ret
    exact Gives.i HL.out.symm (by repeat (first | assumption | exact Nw.refl _ | refine Nw.alloc ?_ _ | refine Nw.drew ?_ | refine Nw.drewN2 ?_ _ | (refine Nw.trans ?_ (by assumption))))
  · by_cases h1 : wide lo hi ≤ c
    · have HL := hid (show later lo hi c d = -1 from if_pos (Or.inr h1))
      go_enter Try.func71, Try.ntmps71
      unfold span
      go_wp2_with (first
        | (go_at_call 42; refine (rwide_c _ _ _).mono ?_; rintro e w1 ⟨rfl, hn1⟩; obtain ⟨hc1, hf1, hz1⟩ := nwc hn1))
      go_ret
      exact Gives.i HL.out.symm (by repeat (first | assumption | exact Nw.refl _ | refine Nw.alloc ?_ _ | refine Nw.drew ?_ | refine Nw.drewN2 ?_ _ | (refine Nw.trans ?_ (by assumption))))
    · have hm : may lo hi = true := by
        by_cases hm : may lo hi = true
        · exact hm
        · rw [wide_no (by simpa using hm)] at h1; omega
      have HL := hid (show later lo hi c d = if d ≤ last lo hi - c then c + d else if hi = -1 then lo else -1 from if_neg (by omega))
      have HM := hid hm
      obtain ⟨l1, l2⟩ := last_bd hm
      have hw := wide_yes hm
      rw [hw] at h1
      have h2 : c ≤ last lo hi := by omega
      have h3 : ¬ last lo hi + 1 ≤ c := by omega
      have HW := hid hw
      obtain ⟨b1, b2, b3⟩ := may_yes hm
      clear hm hw hwb h1 b3
      have R := rwide_c lo hi
      rw [HW.out] at R
      have HR := hid R
      clear R
      go_enter Try.func71, Try.ntmps71
      unfold span
      go_wp2_with (first
        | (go_at_call 42; refine (HR.out _).mono ?_; rintro e w1 ⟨rfl, hn1⟩; obtain ⟨hc1, hf1, hz1⟩ := nwc hn1)
        | (go_at_call 56; refine (last_c _ _ _).mono ?_; rintro e w2 ⟨rfl, hn2⟩; obtain ⟨hc2, hf2, hz2⟩ := nwc hn2))
      all_goals
        go_ret
        exact Gives.i (by rw [HL.out]; (try simp only [beq_iff_eq, bne_eq_false_iff_eq, beq_eq_false_iff_ne, bne_iff_ne, decide_eq_true_eq, decide_eq_false_iff_not] at *); unfold last at *; split <;> (try split) <;> first | omega | (split at * <;> omega)) (by repeat (first | assumption | exact Nw.refl _ | refine Nw.alloc ?_ _ | refine Nw.drew ?_ | refine Nw.drewN2 ?_ _ | (refine Nw.trans ?_ (by assumption))))

end Ival
end Go.Proofs.Ythellicimicieaa
