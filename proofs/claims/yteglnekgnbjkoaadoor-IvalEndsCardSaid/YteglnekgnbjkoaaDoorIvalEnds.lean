/- IvalEnds walked: for any numbers it returns true. -/
import Derived.Test.YteglnekgnbjkoaaDoorIvalClasses
namespace Go.Proofs.YteglnekgnbjkoaaDoor
open Go.ChangeShapes Go.WideShapes Go.ChangeAt Go.RowKit
namespace Ival
theorem has_yes (L H d : Int) (hm : may L H = true) (h1 : L ≤ d) (h2 : H = -1 ∨ d ≤ H) : has L H d = true := decide_eq_true ⟨hm, h1, h2⟩
theorem has_low (L H d : Int) (h : d < L) : has L H d = false := decide_eq_false (fun ⟨_, h1, _⟩ => by omega)
theorem has_high (L H d : Int) (h0 : H ≠ -1) (h : H < d) : has L H d = false := decide_eq_false (fun ⟨_, _, h1⟩ => by omega)
set_option maxRecDepth 20000 in
set_option maxHeartbeats 4000000 in
theorem ends_core (L H : Int) (lo more : Int) (w : World) (ht : Tab w) (hm : may L H = true) (hm2 : may L (-1) = true) (hH : L ≤ H ∧ H ≤ 9999)
    (R1 : ∀ w, Calls Tryd.prog 33 #[.int .u16 lo, .int .u16 more, .bool false] w (Gives (.agg #[.int .i64 L, .int .i64 H]) w))
    (R2 : ∀ w, Calls Tryd.prog 33 #[.int .u16 lo, .int .u16 0, .bool true] w (Gives (.agg #[.int .i64 L, .int .i64 (-1)]) w)) :
    Calls Tryd.prog 9 #[.int .u16 lo, .int .u16 more] w (Gives (.bool true) w) := by
  obtain ⟨b1, b2, _⟩ := may_yes hm
  obtain ⟨b3, b4⟩ := hH
  have c1 := fun w => has_c L H L w (by omega)
  rw [has_yes L H L hm (by omega) (by omega)] at c1
  have c2 := fun w => has_c L H H w (by omega)
  rw [has_yes L H H hm (by omega) (by omega)] at c2
  have c3 := fun w => has_c L H (H + 1) w (by omega)
  rw [has_high L H (H + 1) (by omega) (by omega)] at c3
  have c5 := fun w => has_c L (-1) 18446744073709551615 w (by omega)
  rw [has_yes L (-1) 18446744073709551615 hm2 (by omega) (by omega)] at c5
  have w1' : wide L H = H + 1 := by rw [wide_yes hm]; unfold last; rw [if_neg (by omega)]
  have w2' : wide L (-1) = L + 1 := by rw [wide_yes hm2]; rfl
  have m1 : may (H + 1) H = false := decide_eq_false (by omega)
  have m2 : may 0 10000 = false := decide_eq_false (by omega)
  have m3 : may L (-2) = false := decide_eq_false (by omega)
  have HR1 := hid R1
  have HR2 := hid R2
  have A1 := hid c1
  have A2 := hid c2
  have A3 := hid c3
  have A5 := hid c5
  clear R1 R2 c1 c2 c3 c5
  by_cases hL : 0 < L
  · have c4 := fun w => has_c L H (L - 1) w (by omega)
    rw [has_low L H (L - 1) (by omega)] at c4
    have A4 := hid c4
    have hd : decide (0 < L) = true := decide_eq_true hL
    clear c4 hm hm2
    go_enter Tryd.func9, Tryd.ntmps9
    go_wp2_with fail
    refine (HR1.out _).mono ?_
    rintro e w1 ⟨rfl, hn1⟩
    obtain ⟨hc1, hf1, hz1⟩ := nwc hn1
    go_wp2_with fail
    refine (HR2.out _).mono ?_
    rintro e w2 ⟨rfl, hn2⟩
    obtain ⟨hc2, hf2, hz2⟩ := nwc hn2
    have g1 : w1.heap.size < w2.heap.size := hz2 _ (by simp)
    have g2 : w1.heap.size < w2.heap.size + 1 := by omega
    have g3 : w1.heap.size ≠ w2.heap.size := by omega
    go_wp2_with fail
    refine (A1.out _).mono ?_
    rintro e w3 ⟨rfl, hn3⟩
    obtain ⟨hc3, hf3, hz3⟩ := nwc hn3
    go_wp2_with fail
    refine (A2.out _).mono ?_
    rintro e w4 ⟨rfl, hn4⟩
    have hn4b := hn3.trans hn4
    obtain ⟨hc4, hf4, hz4⟩ := nwc hn4b
    go_wp2_with fail
    refine (A3.out _).mono ?_
    rintro e w5 ⟨rfl, hn5⟩
    have hn5b := hn4b.trans hn5
    obtain ⟨hc5, hf5, hz5⟩ := nwc hn5b
    go_wp2_with fail
    refine (A4.out _).mono ?_
    rintro e w6 ⟨rfl, hn6⟩
    have hn6b := hn5b.trans hn6
    obtain ⟨hc6, hf6, hz6⟩ := nwc hn6b
    go_wp2_with fail
    refine (A5.out _).mono ?_
    rintro e w7 ⟨rfl, hn7⟩
    have hn7b := hn6b.trans hn7
    obtain ⟨hc7, hf7, hz7⟩ := nwc hn7b
    go_wp2_with fail
    clear A1 A2 A3 A5 HR1 HR2
    clear A4 hc6 hf6 hz6
    clear hc1 hf1 hz1 hc3 hf3 hz3 hc4 hf4 hz4 hc5 hf5 hz5
    refine wp_region_stairs (by kernel_rfl) (by kernel_rfl) (by kernel_rfl) ?_
    iterate 40
      refine Stairs.is ?_ ?_ ?_
      rotate_left 1
      · intro x wR hR hd K hK
        simp only [Act.put, List.setIfInBounds_toArray, List.set_cons_zero, List.set_cons_succ, Nat.reduceAdd, List.length_nil, List.length_cons, List.nil_append, List.cons_append, Say.ok] at hK ⊢
        clear hd
        change Hid _ at hK
        obtain ⟨hcR, hfR, hzR⟩ := nwc hR
        first | (refine wanted_yes ?_ ?_; rfl) | (refine wanted_no ?_ ?_; rfl)
        go_wp2_with (first 
      | (go_at_call 34; refine (wide_c _ _ _).mono ?_; rintro e w8 ⟨rfl, hn8⟩)
      | (go_at_call 39; refine (may_c _ _ _).mono ?_; rintro e w8 ⟨rfl, hn8⟩)
      | (go_at_call 37; refine (awake_c _ (ht.nw (by repeat (first | assumption | exact Nw.refl _ | refine Nw.alloc ?_ _ | refine Nw.drew ?_ | refine Nw.drewN2 ?_ _ | (refine Nw.trans ?_ (by assumption)))))).mono ?_; rintro e w8 ⟨rfl, hn8⟩))
        all_goals (refine hK.out _ _ ?_ ?_ <;> first | (solve | (repeat (first | assumption | exact Nw.refl _ | refine Nw.alloc ?_ _ | refine Nw.drew ?_ | refine Nw.drewN2 ?_ _ | (refine Nw.trans ?_ (by assumption))))) | exact rfl)
      try simp only [Act.put, List.setIfInBounds_toArray, List.set_cons_zero, List.set_cons_succ, Nat.reduceAdd, List.length_nil, List.length_cons, List.nil_append, List.cons_append]
    refine Stairs.nil ?_
    intro x wR hR hx
    clear hx
    obtain ⟨hcR, hfR, hzR⟩ := nwc hR
    go_wp2
    go_ret
    exact Gives.b rfl (by repeat (first | assumption | exact Nw.refl _ | refine Nw.alloc ?_ _ | refine Nw.drew ?_ | refine Nw.drewN2 ?_ _ | (refine Nw.trans ?_ (by assumption))))
  · have hd : decide (0 < L) = false := decide_eq_false hL
    clear hm hm2
    go_enter Tryd.func9, Tryd.ntmps9
    go_wp2_with fail
    refine (HR1.out _).mono ?_
    rintro e w1 ⟨rfl, hn1⟩
    obtain ⟨hc1, hf1, hz1⟩ := nwc hn1
    go_wp2_with fail
    refine (HR2.out _).mono ?_
    rintro e w2 ⟨rfl, hn2⟩
    obtain ⟨hc2, hf2, hz2⟩ := nwc hn2
    have g1 : w1.heap.size < w2.heap.size := hz2 _ (by simp)
    have g2 : w1.heap.size < w2.heap.size + 1 := by omega
    have g3 : w1.heap.size ≠ w2.heap.size := by omega
    go_wp2_with fail
    refine (A1.out _).mono ?_
    rintro e w3 ⟨rfl, hn3⟩
    obtain ⟨hc3, hf3, hz3⟩ := nwc hn3
    go_wp2_with fail
    refine (A2.out _).mono ?_
    rintro e w4 ⟨rfl, hn4⟩
    have hn4b := hn3.trans hn4
    obtain ⟨hc4, hf4, hz4⟩ := nwc hn4b
    go_wp2_with fail
    refine (A3.out _).mono ?_
    rintro e w5 ⟨rfl, hn5⟩
    have hn5b := hn4b.trans hn5
    obtain ⟨hc5, hf5, hz5⟩ := nwc hn5b
    go_wp2_with fail
    refine (A5.out _).mono ?_
    rintro e w7 ⟨rfl, hn7⟩
    have hn7b := hn5b.trans hn7
    obtain ⟨hc7, hf7, hz7⟩ := nwc hn7b
    go_wp2_with fail
    clear A1 A2 A3 A5 HR1 HR2
    clear hd
    clear hc1 hf1 hz1 hc3 hf3 hz3 hc4 hf4 hz4 hc5 hf5 hz5
    refine wp_region_stairs (by kernel_rfl) (by kernel_rfl) (by kernel_rfl) ?_
    iterate 40
      refine Stairs.is ?_ ?_ ?_
      rotate_left 1
      · intro x wR hR hd K hK
        simp only [Act.put, List.setIfInBounds_toArray, List.set_cons_zero, List.set_cons_succ, Nat.reduceAdd, List.length_nil, List.length_cons, List.nil_append, List.cons_append, Say.ok] at hK ⊢
        clear hd
        change Hid _ at hK
        obtain ⟨hcR, hfR, hzR⟩ := nwc hR
        first | (refine wanted_yes ?_ ?_; rfl) | (refine wanted_no ?_ ?_; rfl)
        go_wp2_with (first 
      | (go_at_call 34; refine (wide_c _ _ _).mono ?_; rintro e w8 ⟨rfl, hn8⟩)
      | (go_at_call 39; refine (may_c _ _ _).mono ?_; rintro e w8 ⟨rfl, hn8⟩)
      | (go_at_call 37; refine (awake_c _ (ht.nw (by repeat (first | assumption | exact Nw.refl _ | refine Nw.alloc ?_ _ | refine Nw.drew ?_ | refine Nw.drewN2 ?_ _ | (refine Nw.trans ?_ (by assumption)))))).mono ?_; rintro e w8 ⟨rfl, hn8⟩))
        all_goals (refine hK.out _ _ ?_ ?_ <;> first | (solve | (repeat (first | assumption | exact Nw.refl _ | refine Nw.alloc ?_ _ | refine Nw.drew ?_ | refine Nw.drewN2 ?_ _ | (refine Nw.trans ?_ (by assumption))))) | exact rfl)
      try simp only [Act.put, List.setIfInBounds_toArray, List.set_cons_zero, List.set_cons_succ, Nat.reduceAdd, List.length_nil, List.length_cons, List.nil_append, List.cons_append]
    refine Stairs.nil ?_
    intro x wR hR hx
    clear hx
    obtain ⟨hcR, hfR, hzR⟩ := nwc hR
    go_wp2
    go_ret
    exact Gives.b rfl (by repeat (first | assumption | exact Nw.refl _ | refine Nw.alloc ?_ _ | refine Nw.drew ?_ | refine Nw.drewN2 ?_ _ | (refine Nw.trans ?_ (by assumption))))
end Ival
end Go.Proofs.YteglnekgnbjkoaaDoor
