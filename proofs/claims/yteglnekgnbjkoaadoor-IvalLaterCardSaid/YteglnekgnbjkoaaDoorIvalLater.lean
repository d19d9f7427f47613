/- IvalLater walked: for any numbers it returns true. -/
import Derived.Test.YteglnekgnbjkoaaDoorIvalClasses
namespace Go.Proofs.YteglnekgnbjkoaaDoor
open Go.ChangeShapes Go.WideShapes Go.ChangeAt Go.RowKit
namespace Ival
/-! ### The plain laws -/
theorem cls_self (L H c : Int) (hm : may L H = true) (h0 : 0 ≤ c) (h1 : c < wide L H) : cls L H c = c := by
  have h := cls_eq L H c h0
  rw [if_pos hm] at h
  have := may_yes hm
  rw [wide_yes hm] at h1
  unfold last at *
  rw [h]
  repeat' split
  all_goals (repeat' split at *) <;> omega
theorem later_zero (L H c : Int) (hm : may L H = true) (h0 : 0 ≤ c) (h1 : c < wide L H) : later L H c 0 = c := by
  have := may_yes hm
  have hw := wide_yes hm
  unfold later
  simp only [hw] at h1 ⊢
  clear hw
  unfold last at *
  repeat' split
  all_goals (repeat' split at *) <;> omega
theorem later_later (L H c d e : Int) (hm : may L H = true) (h0 : 0 ≤ c) (h1 : c < wide L H) (hd : 0 ≤ d) (he : 0 ≤ e) : later L H (later L H c d) e = later L H c (d + e) := by
  have := may_yes hm
  have hw := wide_yes hm
  unfold later
  simp only [hw] at h1 ⊢
  clear hw
  unfold last at *
  repeat' split
  all_goals (repeat' split at *) <;> omega
theorem later_open (L c d : Int) (hm : may L (-1) = true) (h0 : 0 ≤ c) (h1 : c < wide L (-1)) (hd : 0 ≤ d) : 0 ≤ later L (-1) c d := by
  have := may_yes hm
  have hl : last L (-1) = L := if_pos rfl
  unfold later
  rw [if_neg (by omega), hl, if_pos rfl]
  split <;> omega
set_option maxRecDepth 20000 in
set_option maxHeartbeats 4000000 in
theorem later_core (L H c d e : Int) (lo more : Int) (o : Bool) (w : World) (ht : Tab w) (hm : may L H = true) (ho : o = true → H = -1)
    (R : ∀ w, Calls Tryd.prog 33 #[.int .u16 lo, .int .u16 more, .bool o] w (Gives (.agg #[.int .i64 L, .int .i64 H]) w))
    (hd : 0 ≤ d ∧ d ≤ 18446744073709551615) (he : 0 ≤ e ∧ e ≤ 18446744073709551615) :
    Calls Tryd.prog 8 #[.int .u16 lo, .int .u16 more, .bool o, .int .i64 c, .int .u64 d, .int .u64 e] w (Gives (.bool true) w) := by
  have hy := may_yes hm
  have hwy := wide_yes hm
  have hlb := last_bd hm
  have hW1 : 1 ≤ wide L H := by omega
  have hW2 : wide L H ≤ 10000 := by omega
  have hmx : max 1 (wide L H) = wide L H := by omega
  have hu0 : 0 ≤ IntKind.u64.wrap c ∧ IntKind.u64.wrap c ≤ 18446744073709551615 := by rw [IntKind.wrap_u64]; omega
  obtain ⟨u, hu⟩ : ∃ u, IntKind.u64.wrap c = u := ⟨_, rfl⟩
  rw [hu] at hu0
  obtain ⟨u1, u2⟩ := hu0
  obtain ⟨c1, hc1⟩ : ∃ c1, u % wide L H = c1 := ⟨_, rfl⟩
  have k0 : 0 ≤ c1 := by rw [← hc1]; exact Int.emod_nonneg _ (by omega)
  have k1 : c1 < wide L H := by rw [← hc1]; exact Int.emod_lt_of_pos _ (by omega)
  have k2 : c1 ≤ 9999 := by omega
  have HLO := hid (show -9223372036854775808 ≤ L ∧ L ≤ 9223372036854775807 by omega)
  have HK := hid (show -9223372036854775808 ≤ c1 ∧ c1 ≤ 9223372036854775807 by omega)
  have HKd := hid (show 0 ≤ c1 ∧ c1 ≤ 18446744073709551615 by omega)
  have R1 := fun w => cls_c L H c1 w HKd.out HLO.out
  rw [cls_self L H c1 hm k0 k1] at R1
  have R2 := fun w => later_c L H c1 0 w HK.out (by omega) HLO.out
  rw [later_zero L H c1 hm k0 k1] at R2
  have HR := hid R
  have H1 := hid R1
  have H2 := hid R2
  have HD := hid hd
  have HE := hid he
  have HM := hid hm
  obtain ⟨d1, d2⟩ := hd
  obtain ⟨e1, e2⟩ := he
  clear R R1 R2 hy hwy hlb
  by_cases hov : 18446744073709551615 < d + e
  · have hwr0 : IntKind.u64.wrap (d + e) < d := by rw [IntKind.wrap_u64]; omega
    obtain ⟨sm, hwr⟩ : ∃ sm, IntKind.u64.wrap (d + e) = sm := ⟨_, rfl⟩
    rw [hwr] at hwr0
    have hovd : decide (sm < d) = true := decide_eq_true hwr0
    clear hm ho hov
    go_enter Tryd.func8, Tryd.ntmps8
    go_wp2_with fail
    refine (HR.out _).mono ?_
    rintro e w1 ⟨rfl, hn1⟩
    obtain ⟨hc1x, hf1, hz1⟩ := nwc hn1
    go_wp2_with fail
    refine (wide_c _ _ _).mono ?_
    rintro e w2 ⟨rfl, hn2⟩
    obtain ⟨hc2, hf2, hz2⟩ := nwc hn2
    go_wp2_with fail
    refine (H1.out _).mono ?_
    rintro e w3 ⟨rfl, hn3⟩
    have hn3b := hn2.trans hn3
    obtain ⟨hc3, hf3, hz3⟩ := nwc hn3b
    go_wp2_with fail
    refine (H2.out _).mono ?_
    rintro e w4 ⟨rfl, hn4⟩
    have hn4b := hn3b.trans hn4
    obtain ⟨hc4, hf4, hz4⟩ := nwc hn4b
    go_wp2_with fail
    refine (H1.out _).mono ?_
    rintro e w5 ⟨rfl, hn5⟩
    have hn5b := hn4b.trans hn5
    obtain ⟨hc5, hf5, hz5⟩ := nwc hn5b
    go_wp2_with fail
    refine (H2.out _).mono ?_
    rintro e w6 ⟨rfl, hn6⟩
    have hn6b := hn5b.trans hn6
    obtain ⟨hc6, hf6, hz6⟩ := nwc hn6b
    go_wp2_with fail
    refine (awake_c _ (ht.nw (by repeat (first | assumption | exact Nw.refl _ | refine Nw.alloc ?_ _ | refine Nw.drew ?_ | (refine Nw.trans ?_ (by assumption)))))).mono ?_
    rintro e w7 ⟨rfl, hn7⟩
    go_wp2_with fail
    go_ret
    exact Gives.b rfl (by repeat (first | assumption | exact Nw.refl _ | refine Nw.alloc ?_ _ | refine Nw.drew ?_ | (refine Nw.trans ?_ (by assumption))))
  · have hle : d + e ≤ 18446744073709551615 := by omega
    have hovd : decide (d + e < d) = false := decide_eq_false (by omega)
    have HS := hid (show 0 ≤ d + e ∧ d + e ≤ 18446744073709551615 by omega)
    have hll := later_later L H c1 d e hm k0 k1 d1 e1
    have hbd := later_bd L H c1 d d1
    have HX := hid (show -9223372036854775808 ≤ later L H c1 d ∧ later L H c1 d ≤ 9223372036854775807 by omega)
    have R3 := fun w => later_c L H (later L H c1 d) e w HX.out HE.out HLO.out
    rw [hll] at R3
    have H3 := hid R3
    have R4 := fun w => later_c L H c1 (d + e) w HK.out HS.out HLO.out
    have H4 := hid R4
    have hx : o = true → decide (later L H c1 d < 0) = false := fun h => by
      have hH := ho h
      have hm2 := hm
      have k12 := k1
      rw [hH] at hm2 k12
      have := later_open L c1 d hm2 k0 k12 d1
      rw [hH]
      exact decide_eq_false (by omega)
    clear R3 R4 hll hbd hov hm ho
    cases o
    all_goals
      try have hx2 := hx rfl
      clear hx
      go_enter Tryd.func8, Tryd.ntmps8
      go_wp2_with fail
      refine (HR.out _).mono ?_
      rintro e w1 ⟨rfl, hn1⟩
      obtain ⟨hc1x, hf1, hz1⟩ := nwc hn1
      go_wp2_with fail
      refine (wide_c _ _ _).mono ?_
      rintro e w2 ⟨rfl, hn2⟩
      obtain ⟨hc2, hf2, hz2⟩ := nwc hn2
      go_wp2_with fail
      refine (H1.out _).mono ?_
      rintro e w3 ⟨rfl, hn3⟩
      have hn3b := hn2.trans hn3
      obtain ⟨hc3, hf3, hz3⟩ := nwc hn3b
      go_wp2_with fail
      refine (H2.out _).mono ?_
      rintro e w4 ⟨rfl, hn4⟩
      have hn4b := hn3b.trans hn4
      obtain ⟨hc4, hf4, hz4⟩ := nwc hn4b
      go_wp2_with fail
      refine (later_c _ _ _ _ _ HK.out HD.out HLO.out).mono ?_
      rintro e w5 ⟨rfl, hn5⟩
      have hn5b := hn4b.trans hn5
      obtain ⟨hc5, hf5, hz5⟩ := nwc hn5b
      go_wp2
      refine wp_region_stairs (by kernel_rfl) (by kernel_rfl) (by kernel_rfl) ?_
      iterate 15
        refine Stairs.is ?_ ?_ ?_
        rotate_left 1
        · intro x wR hR hd K hK
          simp only [Act.put, List.setIfInBounds_toArray, List.set_cons_zero, List.set_cons_succ, Nat.reduceAdd, List.length_nil, List.length_cons, List.nil_append, List.cons_append, Say.ok] at hK ⊢
          clear hd
          change Hid _ at hK
          obtain ⟨hcR, hfR, hzR⟩ := nwc hR
          first | (refine wanted_yes ?_ ?_; rfl) | (refine wanted_no ?_ ?_; rfl)
          go_wp2_with (first 
        | (go_at_call_of 36 (Value.int .u64 e); refine (H3.out _).mono ?_; rintro e w6 ⟨rfl, hn6⟩)
        | (go_at_call 36; refine (H4.out _).mono ?_; rintro e w6 ⟨rfl, hn6⟩)
        | (go_at_call 37; refine (awake_c _ (ht.nw (by repeat (first | assumption | exact Nw.refl _ | refine Nw.alloc ?_ _ | refine Nw.drew ?_ | (refine Nw.trans ?_ (by assumption)))))).mono ?_; rintro e w6 ⟨rfl, hn6⟩))
          all_goals (refine hK.out _ _ ?_ ?_ <;> first | (solve | (repeat (first | assumption | exact Nw.refl _ | refine Nw.alloc ?_ _ | refine Nw.drew ?_ | (refine Nw.trans ?_ (by assumption))))) | exact rfl)
        try simp only [Act.put, List.setIfInBounds_toArray, List.set_cons_zero, List.set_cons_succ, Nat.reduceAdd, List.length_nil, List.length_cons, List.nil_append, List.cons_append]
      refine Stairs.nil ?_
      intro x wR hR hx
      clear hx
      obtain ⟨hcR, hfR, hzR⟩ := nwc hR
      go_wp2
      go_ret
      exact Gives.b rfl (by repeat (first | assumption | exact Nw.refl _ | refine Nw.alloc ?_ _ | refine Nw.drew ?_ | (refine Nw.trans ?_ (by assumption))))
end Ival
end Go.Proofs.YteglnekgnbjkoaaDoor
