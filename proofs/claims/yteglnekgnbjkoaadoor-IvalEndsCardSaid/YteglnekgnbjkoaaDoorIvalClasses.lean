/- IvalClasses walked: for any numbers it returns true. -/
import Derived.Test.YteglnekgnbjkoaaDoorIvalAwake
namespace Go.Proofs.YteglnekgnbjkoaaDoor
open Go.ChangeShapes Go.WideShapes Go.ChangeAt Go.RowKit
namespace Ival
/-! ### The plain laws -/
theorem mod_bd (lo : Int) (h : 0 ≤ lo) : 0 ≤ lo % 10000 ∧ lo % 10000 ≤ 9999 := by omega
theorem may_made (L more : Int) (o : Bool) (h0 : 0 ≤ L ∧ L ≤ 9999) (h1 : 0 ≤ more) : may L (if o = true then -1 else min 9999 (L + more)) = true := by
  unfold may
  rw [decide_eq_true_eq]
  cases o
  · simp; omega
  · simp; omega
theorem in_cls (L H d : Int) (hm : may L H = true) (hd : 0 ≤ d) : inn L H (cls L H d) = has L H d := by
  have hc := cls_eq L H d hd
  rw [if_pos hm] at hc
  have := may_yes hm
  have hw := wide_yes hm
  have hl := last_bd hm
  unfold inn has
  rw [hw, Bool.eq_iff_iff, decide_eq_true_eq, decide_eq_true_eq, hc]
  unfold last at *
  simp only [hm, true_and]
  repeat' split
  all_goals (repeat' split at *) <;> omega
theorem later_cls (L H d e : Int) (hm : may L H = true) (hd : 0 ≤ d) (he : 0 ≤ e) (hc : 0 ≤ cls L H d) : later L H (cls L H d) e = cls L H (d + e) := by
  have h1 := cls_eq L H d hd
  have h2 := cls_eq L H (d + e) (by omega)
  rw [if_pos hm] at h1 h2
  have := may_yes hm
  have hw := wide_yes hm
  have hl := last_bd hm
  rw [h2]
  unfold later
  rw [hw]
  rw [h1] at hc ⊢
  unfold last at *
  repeat' split
  all_goals (repeat' split at *) <;> omega
theorem cls_bd (L H d : Int) (hm : may L H = true) (hd : 0 ≤ d) : -1 ≤ cls L H d ∧ cls L H d < wide L H := by
  have h1 := cls_eq L H d hd
  rw [if_pos hm] at h1
  have := may_yes hm
  have hw := wide_yes hm
  unfold last at *
  rw [h1, hw]
  repeat' split
  all_goals (repeat' split at *) <;> omega
set_option maxRecDepth 20000 in
set_option maxHeartbeats 4000000 in
theorem classes_core (L H d e : Int) (lo more : Int) (o : Bool) (w : World) (ht : Tab w) (hm : may L H = true)
    (R : ∀ w, Calls Tryd.prog 33 #[.int .u16 lo, .int .u16 more, .bool o] w (Gives (.agg #[.int .i64 L, .int .i64 H]) w))
    (hd : 0 ≤ d ∧ d ≤ 18446744073709551615) (he : 0 ≤ e ∧ e ≤ 18446744073709551615) :
    Calls Tryd.prog 11 #[.int .u16 lo, .int .u16 more, .bool o, .int .u64 d, .int .u64 e] w (Gives (.bool true) w) := by
  have hy := may_yes hm
  have hin := in_cls L H d hm hd.1
  have hbd := cls_bd L H d hm hd.1
  have hge : decide (wide L H ≤ cls L H d) = false := decide_eq_false (by omega)
  have hlt : decide (cls L H d < -1) = false := decide_eq_false (by omega)
  have HR := hid R
  have HD := hid hd
  have HE := hid he
  have HM := hid hm
  have HLO := hid (show -9223372036854775808 ≤ L ∧ L ≤ 9223372036854775807 by omega)
  have HC := hid (show -9223372036854775808 ≤ cls L H d ∧ cls L H d ≤ 9223372036854775807 by have := wide_bd L H; omega)
  by_cases hov : 18446744073709551615 < d + e
  · have hwr0 : IntKind.u64.wrap (d + e) < d := by rw [IntKind.wrap_u64]; omega
    obtain ⟨sm, hwr⟩ : ∃ sm, IntKind.u64.wrap (d + e) = sm := ⟨_, rfl⟩
    rw [hwr] at hwr0
    have hovd : decide (sm < d) = true := decide_eq_true hwr0
    clear R hy hbd hov
    obtain ⟨d1, d2⟩ := hd
    obtain ⟨e1, e2⟩ := he
    go_enter Tryd.func11, Tryd.ntmps11
    go_wp2_with (first
      | (go_at_call 33; refine (HR.out _).mono ?_; rintro e w1 ⟨rfl, hn1⟩; obtain ⟨hc1, hf1, hz1⟩ := nwc hn1)
      | (go_at_call 35; refine (cls_c _ _ _ _ HD.out HLO.out).mono ?_; rintro e w2 ⟨rfl, hn2⟩; obtain ⟨hc2, hf2, hz2⟩ := nwc hn2))
    refine wp_region_stairs (by kernel_rfl) (by kernel_rfl) (by kernel_rfl) ?_
    iterate 22
      refine Stairs.is ?_ ?_ ?_
      rotate_left 1
      · intro x wR hR hd K hK
        simp only [Act.put, List.setIfInBounds_toArray, List.set_cons_zero, List.set_cons_succ, Nat.reduceAdd, List.length_nil, List.length_cons, List.nil_append, List.cons_append, Say.ok] at hK ⊢
        clear hd
        change Hid _ at hK
        obtain ⟨hcR, hfR, hzR⟩ := nwc hR
        first | (refine wanted_yes ?_ ?_; rfl) | (refine wanted_no ?_ ?_; rfl)
        go_wp2_with (first 
      | (go_at_call 39; refine (may_c _ _ _).mono ?_; rintro e w3 ⟨rfl, hn3⟩)
      | (go_at_call 46; refine (inn_c _ _ _ _).mono ?_; rintro e w3 ⟨rfl, hn3⟩)
      | (go_at_call 38; refine (has_c _ _ _ _ HD.out).mono ?_; rintro e w3 ⟨rfl, hn3⟩)
      | (go_at_call 34; refine (wide_c _ _ _).mono ?_; rintro e w3 ⟨rfl, hn3⟩))
        all_goals (refine hK.out _ _ ?_ ?_ <;> first | (solve | (repeat (first | assumption | exact Nw.refl _ | refine Nw.alloc ?_ _ | refine Nw.drew ?_ | refine Nw.drewN2 ?_ _ | (refine Nw.trans ?_ (by assumption))))) | exact rfl)
      try simp only [Act.put, List.setIfInBounds_toArray, List.set_cons_zero, List.set_cons_succ, Nat.reduceAdd, List.length_nil, List.length_cons, List.nil_append, List.cons_append]
    refine Stairs.nil ?_
    intro x wR hR hx
    clear hx
    obtain ⟨hcR, hfR, hzR⟩ := nwc hR
    go_wp2_with (go_at_call 37; refine (awake_c _ (ht.nw (by repeat (first | assumption | exact Nw.refl _ | refine Nw.alloc ?_ _ | refine Nw.drew ?_ | refine Nw.drewN2 ?_ _ | (refine Nw.trans ?_ (by assumption)))))).mono ?_; rintro e w5 ⟨rfl, hn5⟩)
    go_ret
    exact Gives.b rfl (by repeat (first | assumption | exact Nw.refl _ | refine Nw.alloc ?_ _ | refine Nw.drew ?_ | refine Nw.drewN2 ?_ _ | (refine Nw.trans ?_ (by assumption))))
  · have hle : d + e ≤ 18446744073709551615 := by omega
    have hovd : decide (d + e < d) = false := decide_eq_false (by omega)
    have hin2 := in_cls L H (d + e) hm (by omega)
    have HS := hid (show 0 ≤ d + e ∧ d + e ≤ 18446744073709551615 by omega)
    have hlc := later_cls L H d e hm hd.1 he.1
    by_cases hneg : cls L H d < 0
    · have hn0 : decide (cls L H d < 0) = true := decide_eq_true hneg
      clear R hy hbd hov hlc hneg
      obtain ⟨d1, d2⟩ := hd
      obtain ⟨e1, e2⟩ := he
      go_enter Tryd.func11, Tryd.ntmps11
      go_wp2_with (first
        | (go_at_call 33; refine (HR.out _).mono ?_; rintro e w1 ⟨rfl, hn1⟩; obtain ⟨hc1, hf1, hz1⟩ := nwc hn1)
        | (go_at_call 35; refine (cls_c _ _ _ _ HD.out HLO.out).mono ?_; rintro e w2 ⟨rfl, hn2⟩; obtain ⟨hc2, hf2, hz2⟩ := nwc hn2))
      refine wp_region_stairs (by kernel_rfl) (by kernel_rfl) (by kernel_rfl) ?_
      iterate 22
        refine Stairs.is ?_ ?_ ?_
        rotate_left 1
        · intro x wR hR hd K hK
          simp only [Act.put, List.setIfInBounds_toArray, List.set_cons_zero, List.set_cons_succ, Nat.reduceAdd, List.length_nil, List.length_cons, List.nil_append, List.cons_append, Say.ok] at hK ⊢
          clear hd
          change Hid _ at hK
          obtain ⟨hcR, hfR, hzR⟩ := nwc hR
          first | (refine wanted_yes ?_ ?_; rfl) | (refine wanted_no ?_ ?_; rfl)
          go_wp2_with (first 
        | (go_at_call 39; refine (may_c _ _ _).mono ?_; rintro e w3 ⟨rfl, hn3⟩)
        | (go_at_call 46; refine (inn_c _ _ _ _).mono ?_; rintro e w3 ⟨rfl, hn3⟩)
        | (go_at_call 38; refine (has_c _ _ _ _ HD.out).mono ?_; rintro e w3 ⟨rfl, hn3⟩)
        | (go_at_call 34; refine (wide_c _ _ _).mono ?_; rintro e w3 ⟨rfl, hn3⟩))
          all_goals (refine hK.out _ _ ?_ ?_ <;> first | (solve | (repeat (first | assumption | exact Nw.refl _ | refine Nw.alloc ?_ _ | refine Nw.drew ?_ | refine Nw.drewN2 ?_ _ | (refine Nw.trans ?_ (by assumption))))) | exact rfl)
        try simp only [Act.put, List.setIfInBounds_toArray, List.set_cons_zero, List.set_cons_succ, Nat.reduceAdd, List.length_nil, List.length_cons, List.nil_append, List.cons_append]
      refine Stairs.nil ?_
      intro x wR hR hx
      clear hx
      obtain ⟨hcR, hfR, hzR⟩ := nwc hR
      have hR2 := hn2.trans hR
      obtain ⟨hcR2, hfR2, hzR2⟩ := nwc hR2
      clear hcR hfR hzR
      go_wp2
      refine wp_region_stairs (by kernel_rfl) (by kernel_rfl) (by kernel_rfl) ?_
      iterate 33
        refine Stairs.is ?_ ?_ ?_
        rotate_left 1
        · intro x wR hR hd K hK
          simp only [Act.put, List.setIfInBounds_toArray, List.set_cons_zero, List.set_cons_succ, Nat.reduceAdd, List.length_nil, List.length_cons, List.nil_append, List.cons_append, Say.ok] at hK ⊢
          clear hd
          change Hid _ at hK
          obtain ⟨hcR, hfR, hzR⟩ := nwc hR
          first | (refine wanted_yes ?_ ?_; rfl) | (refine wanted_no ?_ ?_; rfl)
          go_wp2_with (first 
        | (go_at_call 36; refine (later_c _ _ _ _ _ HC.out HE.out HLO.out).mono ?_; rintro e w3 ⟨rfl, hn3⟩)
        | (go_at_call 35; refine (cls_c _ _ _ _ HS.out HLO.out).mono ?_; rintro e w3 ⟨rfl, hn3⟩)
        | (go_at_call 46; refine (inn_c _ _ _ _).mono ?_; rintro e w3 ⟨rfl, hn3⟩)
        | (go_at_call 38; refine (has_c _ _ _ _ HS.out).mono ?_; rintro e w3 ⟨rfl, hn3⟩)
        | (go_at_call 37; refine (awake_c _ (ht.nw (by repeat (first | assumption | exact Nw.refl _ | refine Nw.alloc ?_ _ | refine Nw.drew ?_ | refine Nw.drewN2 ?_ _ | (refine Nw.trans ?_ (by assumption)))))).mono ?_; rintro e w3 ⟨rfl, hn3⟩))
          all_goals (refine hK.out _ _ ?_ ?_ <;> first | (solve | (repeat (first | assumption | exact Nw.refl _ | refine Nw.alloc ?_ _ | refine Nw.drew ?_ | refine Nw.drewN2 ?_ _ | (refine Nw.trans ?_ (by assumption))))) | exact rfl)
        try simp only [Act.put, List.setIfInBounds_toArray, List.set_cons_zero, List.set_cons_succ, Nat.reduceAdd, List.length_nil, List.length_cons, List.nil_append, List.cons_append]
      refine Stairs.nil ?_
      intro x wR hR hx
      clear hx
      obtain ⟨hcR, hfR, hzR⟩ := nwc hR
      go_wp2
      go_ret
      exact Gives.b rfl (by repeat (first | assumption | exact Nw.refl _ | refine Nw.alloc ?_ _ | refine Nw.drew ?_ | refine Nw.drewN2 ?_ _ | (refine Nw.trans ?_ (by assumption))))
    · have hn0 : decide (cls L H d < 0) = false := decide_eq_false hneg
      have hlc2 := hlc (by omega)
      clear R hy hbd hov hlc hneg
      obtain ⟨d1, d2⟩ := hd
      obtain ⟨e1, e2⟩ := he
      go_enter Tryd.func11, Tryd.ntmps11
      go_wp2_with (first
        | (go_at_call 33; refine (HR.out _).mono ?_; rintro e w1 ⟨rfl, hn1⟩; obtain ⟨hc1, hf1, hz1⟩ := nwc hn1)
        | (go_at_call 35; refine (cls_c _ _ _ _ HD.out HLO.out).mono ?_; rintro e w2 ⟨rfl, hn2⟩; obtain ⟨hc2, hf2, hz2⟩ := nwc hn2))
      refine wp_region_stairs (by kernel_rfl) (by kernel_rfl) (by kernel_rfl) ?_
      iterate 22
        refine Stairs.is ?_ ?_ ?_
        rotate_left 1
        · intro x wR hR hd K hK
          simp only [Act.put, List.setIfInBounds_toArray, List.set_cons_zero, List.set_cons_succ, Nat.reduceAdd, List.length_nil, List.length_cons, List.nil_append, List.cons_append, Say.ok] at hK ⊢
          clear hd
          change Hid _ at hK
          obtain ⟨hcR, hfR, hzR⟩ := nwc hR
          first | (refine wanted_yes ?_ ?_; rfl) | (refine wanted_no ?_ ?_; rfl)
          go_wp2_with (first 
        | (go_at_call 39; refine (may_c _ _ _).mono ?_; rintro e w3 ⟨rfl, hn3⟩)
        | (go_at_call 46; refine (inn_c _ _ _ _).mono ?_; rintro e w3 ⟨rfl, hn3⟩)
        | (go_at_call 38; refine (has_c _ _ _ _ HD.out).mono ?_; rintro e w3 ⟨rfl, hn3⟩)
        | (go_at_call 34; refine (wide_c _ _ _).mono ?_; rintro e w3 ⟨rfl, hn3⟩))
          all_goals (refine hK.out _ _ ?_ ?_ <;> first | (solve | (repeat (first | assumption | exact Nw.refl _ | refine Nw.alloc ?_ _ | refine Nw.drew ?_ | refine Nw.drewN2 ?_ _ | (refine Nw.trans ?_ (by assumption))))) | exact rfl)
        try simp only [Act.put, List.setIfInBounds_toArray, List.set_cons_zero, List.set_cons_succ, Nat.reduceAdd, List.length_nil, List.length_cons, List.nil_append, List.cons_append]
      refine Stairs.nil ?_
      intro x wR hR hx
      clear hx
      obtain ⟨hcR, hfR, hzR⟩ := nwc hR
      have hR2 := hn2.trans hR
      obtain ⟨hcR2, hfR2, hzR2⟩ := nwc hR2
      clear hcR hfR hzR
      go_wp2
      refine wp_region_stairs (by kernel_rfl) (by kernel_rfl) (by kernel_rfl) ?_
      iterate 33
        refine Stairs.is ?_ ?_ ?_
        rotate_left 1
        · intro x wR hR hd K hK
          simp only [Act.put, List.setIfInBounds_toArray, List.set_cons_zero, List.set_cons_succ, Nat.reduceAdd, List.length_nil, List.length_cons, List.nil_append, List.cons_append, Say.ok] at hK ⊢
          clear hd
          change Hid _ at hK
          obtain ⟨hcR, hfR, hzR⟩ := nwc hR
          first | (refine wanted_yes ?_ ?_; rfl) | (refine wanted_no ?_ ?_; rfl)
          go_wp2_with (first 
        | (go_at_call 36; refine (later_c _ _ _ _ _ HC.out HE.out HLO.out).mono ?_; rintro e w3 ⟨rfl, hn3⟩)
        | (go_at_call 35; refine (cls_c _ _ _ _ HS.out HLO.out).mono ?_; rintro e w3 ⟨rfl, hn3⟩)
        | (go_at_call 46; refine (inn_c _ _ _ _).mono ?_; rintro e w3 ⟨rfl, hn3⟩)
        | (go_at_call 38; refine (has_c _ _ _ _ HS.out).mono ?_; rintro e w3 ⟨rfl, hn3⟩)
        | (go_at_call 37; refine (awake_c _ (ht.nw (by repeat (first | assumption | exact Nw.refl _ | refine Nw.alloc ?_ _ | refine Nw.drew ?_ | refine Nw.drewN2 ?_ _ | (refine Nw.trans ?_ (by assumption)))))).mono ?_; rintro e w3 ⟨rfl, hn3⟩))
          all_goals (refine hK.out _ _ ?_ ?_ <;> first | (solve | (repeat (first | assumption | exact Nw.refl _ | refine Nw.alloc ?_ _ | refine Nw.drew ?_ | refine Nw.drewN2 ?_ _ | (refine Nw.trans ?_ (by assumption))))) | exact rfl)
        try simp only [Act.put, List.setIfInBounds_toArray, List.set_cons_zero, List.set_cons_succ, Nat.reduceAdd, List.length_nil, List.length_cons, List.nil_append, List.cons_append]
      refine Stairs.nil ?_
      intro x wR hR hx
      clear hx
      obtain ⟨hcR, hfR, hzR⟩ := nwc hR
      go_wp2
      go_ret
      exact Gives.b rfl (by repeat (first | assumption | exact Nw.refl _ | refine Nw.alloc ?_ _ | refine Nw.drew ?_ | refine Nw.drewN2 ?_ _ | (refine Nw.trans ?_ (by assumption))))
end Ival
end Go.Proofs.YteglnekgnbjkoaaDoor
