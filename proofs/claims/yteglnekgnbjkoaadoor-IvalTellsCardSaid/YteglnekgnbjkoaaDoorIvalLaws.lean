/- The laws of layer 3 walked: for any numbers each returns true. -/
import Derived.Test.YteglnekgnbjkoaaDoorIvalAwake
namespace Go.Proofs.YteglnekgnbjkoaaDoor
open Go.ChangeShapes Go.WideShapes Go.ChangeAt Go.RowKit
namespace Ival
def in64 (n : Int) : Prop := -9223372036854775808 ≤ n ∧ n ≤ 9223372036854775807
set_option maxRecDepth 20000 in
set_option maxHeartbeats 4000000 in
theorem tells_walk (lo hi d c : Int) (w : World) (ht : Tab w) (hlo : in64 lo) (hhi : in64 hi) (hd : 0 ≤ d ∧ d ≤ 18446744073709551615) (hc : in64 c) :
    Calls Tryd.prog 10 #[span lo hi, .int .u64 d, .int .i64 c] w (Gives (.bool true) w) := by
  have HD := hid hd
  have HC := hid hc
  have HLO := hid hlo
  clear hd hc hlo hhi
  go_enter Tryd.func10, Tryd.ntmps10
  unfold span
  go_wp2
  refine wp_region_stairs (by kernel_rfl) (by kernel_rfl) (by kernel_rfl) ?_
  iterate 61
    refine Stairs.is ?_ ?_ ?_
    rotate_left 1
    · intro x wR hR hd K hK
      simp only [Act.put, List.setIfInBounds_toArray, List.set_cons_zero, List.set_cons_succ, Nat.reduceAdd, List.length_nil, List.length_cons, List.nil_append, List.cons_append, Say.ok] at hK ⊢
      clear hd
      change Hid _ at hK
      obtain ⟨hcR, hfR, hzR⟩ := nwc hR
      first | (refine wanted_yes ?_ ?_; rfl) | (refine wanted_no ?_ ?_; rfl)
      go_wp2_with (first 
    | (go_at_call 39; refine (may_c _ _ _).mono ?_; rintro e w2 ⟨rfl, hn2⟩)
    | (go_at_call 40; refine (rmay_c _ _ _).mono ?_; rintro e w2 ⟨rfl, hn2⟩)
    | (go_at_call 38; refine (has_c _ _ _ _ HD.out).mono ?_; rintro e w2 ⟨rfl, hn2⟩)
    | (go_at_call 41; refine (rhas_c _ _ _ _ HD.out).mono ?_; rintro e w2 ⟨rfl, hn2⟩)
    | (go_at_call 42; refine (text_c _ _ _ HLO.out (ht.nw (by repeat (first | assumption | exact Nw.refl _ | refine Nw.alloc ?_ _ | refine Nw.drew ?_ | (refine Nw.trans ?_ (by assumption)))))).mono ?_; rintro e w2 ⟨rfl, hn2⟩)
    | (go_at_call 43; refine (rtext_c _ _ _ HLO.out (ht.nw (by repeat (first | assumption | exact Nw.refl _ | refine Nw.alloc ?_ _ | refine Nw.drew ?_ | (refine Nw.trans ?_ (by assumption)))))).mono ?_; rintro e w2 ⟨rfl, hn2⟩)
    | (go_at_call 34; refine (wide_c _ _ _).mono ?_; rintro e w2 ⟨rfl, hn2⟩)
    | (go_at_call 44; refine (rwide_c _ _ _).mono ?_; rintro e w2 ⟨rfl, hn2⟩)
    | (go_at_call 35; refine (cls_c _ _ _ _ HD.out HLO.out).mono ?_; rintro e w2 ⟨rfl, hn2⟩)
    | (go_at_call 45; refine (rcls_c _ _ _ _ HD.out).mono ?_; rintro e w2 ⟨rfl, hn2⟩)
    | (go_at_call 46; refine (inn_c _ _ _ _).mono ?_; rintro e w2 ⟨rfl, hn2⟩)
    | (go_at_call 47; refine (rinn_c _ _ _ _).mono ?_; rintro e w2 ⟨rfl, hn2⟩)
    | (go_at_call 36; refine (later_c _ _ _ _ _ HC.out HD.out HLO.out).mono ?_; rintro e w2 ⟨rfl, hn2⟩)
    | (go_at_call 48; refine (rlater_c _ _ _ _ _ HC.out HD.out HLO.out).mono ?_; rintro e w2 ⟨rfl, hn2⟩)
    | (go_at_call 37; refine (awake_c _ (ht.nw (by repeat (first | assumption | exact Nw.refl _ | refine Nw.alloc ?_ _ | refine Nw.drew ?_ | (refine Nw.trans ?_ (by assumption)))))).mono ?_; rintro e w2 ⟨rfl, hn2⟩))
      all_goals (refine hK.out _ _ ?_ ?_ <;> first | (solve | (repeat (first | assumption | exact Nw.refl _ | refine Nw.alloc ?_ _ | refine Nw.drew ?_ | (refine Nw.trans ?_ (by assumption))))) | exact rfl)
    try simp only [Act.put, List.setIfInBounds_toArray, List.set_cons_zero, List.set_cons_succ, Nat.reduceAdd, List.length_nil, List.length_cons, List.nil_append, List.cons_append]
  refine Stairs.nil ?_
  intro x wR hR hx
  clear hx
  obtain ⟨hcR, hfR, hzR⟩ := nwc hR
  go_wp2
  go_ret
  exact Gives.b rfl (by repeat (first | assumption | exact Nw.refl _ | refine Nw.alloc ?_ _ | refine Nw.drew ?_ | (refine Nw.trans ?_ (by assumption))))
end Ival
end Go.Proofs.YteglnekgnbjkoaaDoor
