/- The contracts of package ival's Class, Has and In and of the reference's, for any interval, time and class. -/
import Derived.Test.YthellicimicieaaIval
set_option linter.unusedSimpArgs false
set_option linter.unusedVariables false
namespace Go.Proofs.Ythellicimicieaa
open Go.ChangeShapes Go.WideShapes Go.ChangeAt Go.RowKit
namespace Ival
def cls (lo hi d : Int) : Int := later lo hi 0 d
theorem cls_eq (lo hi d : Int) (hd : 0 ≤ d) : cls lo hi d = if may lo hi = true then (if hi = -1 then min d lo else if hi < d then -1 else d) else -1 := by
  unfold cls later
  by_cases hm : may lo hi = true
  · have := may_yes hm
    have h := wide_yes hm
    obtain ⟨l1, l2⟩ := last_bd hm
    rw [if_neg (by omega), if_pos hm]
    unfold last at *
    repeat' split
    all_goals omega
  · rw [if_neg hm, wide_no (by simpa using hm), if_pos (by omega)]
theorem inn_c (lo hi c : Int) (w : World) : Calls Try.prog 35 #[span lo hi, .int .i64 c] w (Gives (.bool (inn lo hi c)) w) := by
  have HL := hid (show inn lo hi c = decide (0 ≤ c ∧ lo ≤ c ∧ c < wide lo hi) from rfl)
  go_enter Try.func35, Try.ntmps35
  unfold span
  go_wp2_with (go_at_call 34; refine (wide_c _ _ _).mono ?_; rintro e w1 ⟨rfl, hn1⟩; obtain ⟨hc1, hf1, hz1⟩ := nwc hn1)
  all_goals
    go_ret
    exact Gives.b (by rw [HL.out]; (try simp only [beq_iff_eq, bne_eq_false_iff_eq, beq_eq_false_iff_ne, bne_iff_ne, decide_eq_true_eq, decide_eq_false_iff_not] at *); (rw [Bool.eq_iff_iff]; try simp []; try omega)) (by repeat (first | assumption | exact Nw.refl _ | refine Nw.alloc ?_ _ | refine Nw.drew ?_ | refine Nw.drewN2 ?_ _ | (refine Nw.trans ?_ (by assumption))))

theorem rinn_c (lo hi c : Int) (w : World) : Calls Try.prog 72 #[span lo hi, .int .i64 c] w (Gives (.bool (inn lo hi c)) w) := by
  have HL := hid (show inn lo hi c = decide (0 ≤ c ∧ lo ≤ c ∧ c < wide lo hi) from rfl)
  go_enter Try.func72, Try.ntmps72
  unfold span
  go_wp2_with (go_at_call 42; refine (rwide_c _ _ _).mono ?_; rintro e w1 ⟨rfl, hn1⟩; obtain ⟨hc1, hf1, hz1⟩ := nwc hn1)
  all_goals
    go_ret
    exact Gives.b (by rw [HL.out]; (try simp only [beq_iff_eq, bne_eq_false_iff_eq, beq_eq_false_iff_ne, bne_iff_ne, decide_eq_true_eq, decide_eq_false_iff_not] at *); (rw [Bool.eq_iff_iff]; try simp []; try omega)) (by repeat (first | assumption | exact Nw.refl _ | refine Nw.alloc ?_ _ | refine Nw.drew ?_ | refine Nw.drewN2 ?_ _ | (refine Nw.trans ?_ (by assumption))))

end Ival
end Go.Proofs.Ythellicimicieaa
