/- The reference's text of an interval. -/
import Derived.Test.YteglnekgnbjkoaaDoorIvalText
namespace Go.Proofs.YteglnekgnbjkoaaDoor
open Go.ChangeShapes Go.WideShapes Go.ChangeAt Go.RowKit
namespace Ival
set_option maxHeartbeats 400000 in
theorem rtext_c (lo hi : Int) (w : World) (hlo : -9223372036854775808 ≤ lo ∧ lo ≤ 9223372036854775807) (ht : Tab w) :
    Calls Tryd.prog 43 #[span lo hi] w (Gives (.string ⟨(text lo hi).toArray⟩) w) := by
  rcases Bool.eq_false_or_eq_true (may lo hi) with hm | hm
  · obtain ⟨b1, b2, b3⟩ := may_yes hm
    have b4 : -1 ≤ hi := by omega
    have b5 : hi ≤ 9999 := by omega
    have la := Lib.itoa_length_le lo (by omega) (by omega)
    have lb := Lib.itoa_length_le hi (by omega) (by omega)
    clear b3
    by_cases hh : hi = -1
    · subst hh
      have HL := hid (show text lo (-1) = [91] ++ Lib.itoa lo ++ [44, 42, 93] by unfold text; rw [if_pos hm]; simp)
      go_enter Tryd.func43, Tryd.ntmps43
      unfold span
      go_wp2_with (first
        | (go_at_call 40; refine (rmay_c _ _ _).mono ?_; rintro e w1 ⟨rfl, hn1⟩; obtain ⟨hc1, hf1, hz1⟩ := nwc hn1)
        | (go_at_call 55; refine (itoa_c _ _ (by omega) (by omega) (ht.nw (by repeat (first | assumption | exact Nw.refl _ | refine Nw.alloc ?_ _ | refine Nw.drew ?_ | refine Nw.drewN2 ?_ _ | (refine Nw.trans ?_ (by assumption)))))).mono ?_; rintro e w1 ⟨rfl, hn1⟩; obtain ⟨hc1, hf1, hz1⟩ := nwc hn1))
      go_ret
      refine ⟨?_, (by repeat (first | assumption | exact Nw.refl _ | refine Nw.alloc ?_ _ | refine Nw.drew ?_ | refine Nw.drewN2 ?_ _ | (refine Nw.trans ?_ (by assumption))))⟩
      rw [HL.out]
      exact string_eq (by simp only [bapp]; try simp)
    · have hb : (hi == -1) = false := by simpa using hh
      have HL := hid (show text lo hi = [91] ++ Lib.itoa lo ++ [44] ++ Lib.itoa hi ++ [93] by unfold text; rw [if_pos hm, if_neg hh])
      clear hh
      go_enter Tryd.func43, Tryd.ntmps43
      unfold span
      go_wp2_with (go_at_call 40; refine (rmay_c _ _ _).mono ?_; rintro e w1 ⟨rfl, hn1⟩; obtain ⟨hc1, hf1, hz1⟩ := nwc hn1)
      refine wp_region_stairs (by kernel_rfl) (by kernel_rfl) (by kernel_rfl) ?_
      iterate 11
        refine Stairs.is ?_ ?_ ?_
        rotate_left 1
        · intro x wR hR hd K hK
          simp only [Act.put, List.setIfInBounds_toArray, List.set_cons_zero, List.set_cons_succ, Nat.reduceAdd, List.length_nil, List.length_cons, List.nil_append, List.cons_append, Say.ok] at hK ⊢
          clear hd
          change Hid _ at hK
          obtain ⟨hcR, hfR, hzR⟩ := nwc hR
          first | (refine wanted_yes ?_ ?_; rfl) | (refine wanted_no ?_ ?_; rfl)
          go_wp2_with (first | (go_at_call 55; refine (itoa_c _ _ (by omega) (by omega) (ht.nw (by repeat (first | assumption | exact Nw.refl _ | refine Nw.alloc ?_ _ | refine Nw.drew ?_ | refine Nw.drewN2 ?_ _ | (refine Nw.trans ?_ (by assumption)))))).mono ?_; rintro e w2 ⟨rfl, hn2⟩))
          all_goals (refine hK.out _ _ ?_ ?_ <;> first | (solve | (repeat (first | assumption | exact Nw.refl _ | refine Nw.alloc ?_ _ | refine Nw.drew ?_ | refine Nw.drewN2 ?_ _ | (refine Nw.trans ?_ (by assumption))))) | exact rfl)
        try simp only [Act.put, List.setIfInBounds_toArray, List.set_cons_zero, List.set_cons_succ, Nat.reduceAdd, List.length_nil, List.length_cons, List.nil_append, List.cons_append]
      refine Stairs.nil ?_
      intro x wR hR hx
      clear hx
      obtain ⟨hcR, hfR, hzR⟩ := nwc hR
      go_wp2
      go_ret
      refine ⟨?_, (by repeat (first | assumption | exact Nw.refl _ | refine Nw.alloc ?_ _ | refine Nw.drew ?_ | refine Nw.drewN2 ?_ _ | (refine Nw.trans ?_ (by assumption))))⟩
      rw [HL.out]
      exact string_eq (by simp only [bapp]; try simp)
  · have HL := hid (show text lo hi = [] from if_neg (by simp [hm]))
    go_enter Tryd.func43, Tryd.ntmps43
    unfold span
    go_wp2_with (go_at_call 40; refine (rmay_c _ _ _).mono ?_; rintro e w1 ⟨rfl, hn1⟩; obtain ⟨hc1, hf1, hz1⟩ := nwc hn1)
    go_ret
    exact ⟨by rw [HL.out]; rfl, (by repeat (first | assumption | exact Nw.refl _ | refine Nw.alloc ?_ _ | refine Nw.drew ?_ | refine Nw.drewN2 ?_ _ | (refine Nw.trans ?_ (by assumption))))⟩
end Ival
end Go.Proofs.YteglnekgnbjkoaaDoor
