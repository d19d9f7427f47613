/- The contracts of package ival's Class, Has and In and of the reference's, for any interval, time and class. -/
import Derived.Test.YteglnekgnbjkoaaDoorIval
namespace Go.Proofs.YteglnekgnbjkoaaDoor
open Go.ChangeShapes Go.WideShapes Go.ChangeAt Go.RowKit
namespace Ival
def cls (lo hi d : Int) : Int := later lo hi 0 d
theorem cls_eq (lo hi d : Int) (hd : 0 ≤ d) : cls lo hi d = if may lo hi = true then (if hi = -1 then min d lo else if hi < d then -1 else d) else -1 := by
  unfold cls later
  by_cases hm : may lo hi = true
  · have := may_yes hm
    have h := wide_yes hm
    obtain ⟨l1, l2⟩ := last_bd hm
    rw [if_neg (by omega), if_pos hm]
    unfold last at *
    repeat' split
    all_goals omega
  · rw [if_neg hm, wide_no (by simpa using hm), if_pos (by omega)]
theorem cls_c (lo hi d : Int) (w : World) (hd : 0 ≤ d ∧ d ≤ 18446744073709551615) (hlo : -9223372036854775808 ≤ lo ∧ lo ≤ 9223372036854775807) :
    Calls Tryd.prog 35 #[span lo hi, .int .u64 d] w (Gives (.int .i64 (cls lo hi d)) w) := by
  go_enter Tryd.func35, Tryd.ntmps35
  unfold span
  go_wp2_with (go_at_call 36; refine (later_c _ _ _ _ _ (by omega) hd hlo).mono ?_; rintro e w1 ⟨rfl, hn1⟩; obtain ⟨hc1, hf1, hz1⟩ := nwc hn1)
  go_ret
  exact Gives.i rfl (by repeat (first | assumption | exact Nw.refl _ | refine Nw.alloc ?_ _ | refine Nw.drew ?_ | refine Nw.drewN2 ?_ _ | (refine Nw.trans ?_ (by assumption))))
set_option maxHeartbeats 1000000 in
theorem rcls_c (lo hi d : Int) (w : World) (hd : 0 ≤ d ∧ d ≤ 18446744073709551615) :
    Calls Tryd.prog 45 #[span lo hi, .int .u64 d] w (Gives (.int .i64 (cls lo hi d)) w) := by
  have hL := cls_eq lo hi d hd.1
  obtain ⟨d1, d2⟩ := hd
  rcases Bool.eq_false_or_eq_true (may lo hi) with hm | hm
  · rw [if_pos hm] at hL
    have HL := hid hL
    obtain ⟨b1, b2, b3⟩ := may_yes hm
    clear hL
    by_cases hh : hi = -1
    · subst hh
      clear b3
      go_enter Tryd.func45, Tryd.ntmps45
      unfold span
      go_wp2_with (go_at_call 40; refine (rmay_c _ _ _).mono ?_; rintro e w1 ⟨rfl, hn1⟩; obtain ⟨hc1, hf1, hz1⟩ := nwc hn1)
      all_goals
        go_ret
        exact Gives.i (by rw [HL.out]; first | rfl | (simp; omega)) (by repeat (first | assumption | exact Nw.refl _ | refine Nw.alloc ?_ _ | refine Nw.drew ?_ | refine Nw.drewN2 ?_ _ | (refine Nw.trans ?_ (by assumption))))
    · have hb : (hi == -1) = false := by simpa using hh
      have b4 : 0 ≤ hi := by omega
      have b5 : hi ≤ 9999 := by omega
      clear b3 hh
      go_enter Tryd.func45, Tryd.ntmps45
      unfold span
      go_wp2_with (go_at_call 40; refine (rmay_c _ _ _).mono ?_; rintro e w1 ⟨rfl, hn1⟩; obtain ⟨hc1, hf1, hz1⟩ := nwc hn1)
      all_goals
        go_ret
        exact Gives.i (by rw [HL.out]; (try simp only [beq_iff_eq, bne_eq_false_iff_eq, beq_eq_false_iff_ne, bne_iff_ne, decide_eq_true_eq, decide_eq_false_iff_not] at *); repeat' split <;> omega) (by repeat (first | assumption | exact Nw.refl _ | refine Nw.alloc ?_ _ | refine Nw.drew ?_ | refine Nw.drewN2 ?_ _ | (refine Nw.trans ?_ (by assumption))))
  · have HL := hid (show cls lo hi d = -1 by rw [hL]; simp [hm])
    clear hL
    go_enter Tryd.func45, Tryd.ntmps45
    unfold span
    go_wp2_with (go_at_call 40; refine (rmay_c _ _ _).mono ?_; rintro e w1 ⟨rfl, hn1⟩; obtain ⟨hc1, hf1, hz1⟩ := nwc hn1)
    go_ret
    exact Gives.i HL.out.symm (by repeat (first | assumption | exact Nw.refl _ | refine Nw.alloc ?_ _ | refine Nw.drew ?_ | refine Nw.drewN2 ?_ _ | (refine Nw.trans ?_ (by assumption))))
set_option maxHeartbeats 1000000 in
theorem has_c (lo hi d : Int) (w : World) (hd : 0 ≤ d ∧ d ≤ 18446744073709551615) :
    Calls Tryd.prog 38 #[span lo hi, .int .u64 d] w (Gives (.bool (has lo hi d)) w) := by
  obtain ⟨d1, d2⟩ := hd
  rcases Bool.eq_false_or_eq_true (may lo hi) with hm | hm
  · have HL := hid (show has lo hi d = decide (lo ≤ d ∧ (hi = -1 ∨ d ≤ hi)) by simp [has, hm])
    obtain ⟨b1, b2, b3⟩ := may_yes hm
    by_cases hh : hi = -1
    · subst hh
      clear b3
      go_enter Tryd.func38, Tryd.ntmps38
      unfold span
      go_wp2_with (go_at_call 39; refine (may_c _ _ _).mono ?_; rintro e w1 ⟨rfl, hn1⟩; obtain ⟨hc1, hf1, hz1⟩ := nwc hn1)
      all_goals
        go_ret
        exact Gives.b (by rw [HL.out]; (rw [Bool.eq_iff_iff]; try simp []; try omega)) (by repeat (first | assumption | exact Nw.refl _ | refine Nw.alloc ?_ _ | refine Nw.drew ?_ | refine Nw.drewN2 ?_ _ | (refine Nw.trans ?_ (by assumption))))
    · have hb : (hi == -1) = false := by simpa using hh
      have b4 : 0 ≤ hi := by omega
      have b5 : hi ≤ 9999 := by omega
      clear b3 hh
      go_enter Tryd.func38, Tryd.ntmps38
      unfold span
      go_wp2_with (go_at_call 39; refine (may_c _ _ _).mono ?_; rintro e w1 ⟨rfl, hn1⟩; obtain ⟨hc1, hf1, hz1⟩ := nwc hn1)
      all_goals
        go_ret
        exact Gives.b (by rw [HL.out]; (try simp only [beq_iff_eq, bne_eq_false_iff_eq, beq_eq_false_iff_ne, bne_iff_ne, decide_eq_true_eq, decide_eq_false_iff_not] at *); (rw [Bool.eq_iff_iff]; try simp []; try omega)) (by repeat (first | assumption | exact Nw.refl _ | refine Nw.alloc ?_ _ | refine Nw.drew ?_ | refine Nw.drewN2 ?_ _ | (refine Nw.trans ?_ (by assumption))))
  · have HL := hid (show has lo hi d = false by simp [has, hm])
    go_enter Tryd.func38, Tryd.ntmps38
    unfold span
    go_wp2_with (go_at_call 39; refine (may_c _ _ _).mono ?_; rintro e w1 ⟨rfl, hn1⟩; obtain ⟨hc1, hf1, hz1⟩ := nwc hn1)
    go_ret
    exact Gives.b HL.out.symm (by repeat (first | assumption | exact Nw.refl _ | refine Nw.alloc ?_ _ | refine Nw.drew ?_ | refine Nw.drewN2 ?_ _ | (refine Nw.trans ?_ (by assumption))))

set_option maxHeartbeats 1000000 in
theorem rhas_c (lo hi d : Int) (w : World) (hd : 0 ≤ d ∧ d ≤ 18446744073709551615) :
    Calls Tryd.prog 41 #[span lo hi, .int .u64 d] w (Gives (.bool (has lo hi d)) w) := by
  obtain ⟨d1, d2⟩ := hd
  rcases Bool.eq_false_or_eq_true (may lo hi) with hm | hm
  · have HL := hid (show has lo hi d = decide (lo ≤ d ∧ (hi = -1 ∨ d ≤ hi)) by simp [has, hm])
    obtain ⟨b1, b2, b3⟩ := may_yes hm
    by_cases hh : hi = -1
    · subst hh
      clear b3
      go_enter Tryd.func41, Tryd.ntmps41
      unfold span
      go_wp2_with (go_at_call 40; refine (rmay_c _ _ _).mono ?_; rintro e w1 ⟨rfl, hn1⟩; obtain ⟨hc1, hf1, hz1⟩ := nwc hn1)
      all_goals
        go_ret
        exact Gives.b (by rw [HL.out]; (rw [Bool.eq_iff_iff]; try simp []; try omega)) (by repeat (first | assumption | exact Nw.refl _ | refine Nw.alloc ?_ _ | refine Nw.drew ?_ | refine Nw.drewN2 ?_ _ | (refine Nw.trans ?_ (by assumption))))
    · have hb : (hi == -1) = false := by simpa using hh
      have b4 : 0 ≤ hi := by omega
      have b5 : hi ≤ 9999 := by omega
      clear b3 hh
      go_enter Tryd.func41, Tryd.ntmps41
      unfold span
      go_wp2_with (go_at_call 40; refine (rmay_c _ _ _).mono ?_; rintro e w1 ⟨rfl, hn1⟩; obtain ⟨hc1, hf1, hz1⟩ := nwc hn1)
      all_goals
        go_ret
        exact Gives.b (by rw [HL.out]; (try simp only [beq_iff_eq, bne_eq_false_iff_eq, beq_eq_false_iff_ne, bne_iff_ne, decide_eq_true_eq, decide_eq_false_iff_not] at *); (rw [Bool.eq_iff_iff]; try simp []; try omega)) (by repeat (first | assumption | exact Nw.refl _ | refine Nw.alloc ?_ _ | refine Nw.drew ?_ | refine Nw.drewN2 ?_ _ | (refine Nw.trans ?_ (by assumption))))
  · have HL := hid (show has lo hi d = false by simp [has, hm])
    go_enter Tryd.func41, Tryd.ntmps41
    unfold span
    go_wp2_with (go_at_call 40; refine (rmay_c _ _ _).mono ?_; rintro e w1 ⟨rfl, hn1⟩; obtain ⟨hc1, hf1, hz1⟩ := nwc hn1)
    go_ret
    exact Gives.b HL.out.symm (by repeat (first | assumption | exact Nw.refl _ | refine Nw.alloc ?_ _ | refine Nw.drew ?_ | refine Nw.drewN2 ?_ _ | (refine Nw.trans ?_ (by assumption))))

theorem inn_c (lo hi c : Int) (w : World) : Calls Tryd.prog 46 #[span lo hi, .int .i64 c] w (Gives (.bool (inn lo hi c)) w) := by
  have HL := hid (show inn lo hi c = decide (0 ≤ c ∧ lo ≤ c ∧ c < wide lo hi) from rfl)
  go_enter Tryd.func46, Tryd.ntmps46
  unfold span
  go_wp2_with (go_at_call 34; refine (wide_c _ _ _).mono ?_; rintro e w1 ⟨rfl, hn1⟩; obtain ⟨hc1, hf1, hz1⟩ := nwc hn1)
  all_goals
    go_ret
    exact Gives.b (by rw [HL.out]; (try simp only [beq_iff_eq, bne_eq_false_iff_eq, beq_eq_false_iff_ne, bne_iff_ne, decide_eq_true_eq, decide_eq_false_iff_not] at *); (rw [Bool.eq_iff_iff]; try simp []; try omega)) (by repeat (first | assumption | exact Nw.refl _ | refine Nw.alloc ?_ _ | refine Nw.drew ?_ | refine Nw.drewN2 ?_ _ | (refine Nw.trans ?_ (by assumption))))

theorem rinn_c (lo hi c : Int) (w : World) : Calls Tryd.prog 47 #[span lo hi, .int .i64 c] w (Gives (.bool (inn lo hi c)) w) := by
  have HL := hid (show inn lo hi c = decide (0 ≤ c ∧ lo ≤ c ∧ c < wide lo hi) from rfl)
  go_enter Tryd.func47, Tryd.ntmps47
  unfold span
  go_wp2_with (go_at_call 44; refine (rwide_c _ _ _).mono ?_; rintro e w1 ⟨rfl, hn1⟩; obtain ⟨hc1, hf1, hz1⟩ := nwc hn1)
  all_goals
    go_ret
    exact Gives.b (by rw [HL.out]; (try simp only [beq_iff_eq, bne_eq_false_iff_eq, beq_eq_false_iff_ne, bne_iff_ne, decide_eq_true_eq, decide_eq_false_iff_not] at *); (rw [Bool.eq_iff_iff]; try simp []; try omega)) (by repeat (first | assumption | exact Nw.refl _ | refine Nw.alloc ?_ _ | refine Nw.drew ?_ | refine Nw.drewN2 ?_ _ | (refine Nw.trans ?_ (by assumption))))

end Ival
end Go.Proofs.YteglnekgnbjkoaaDoor
