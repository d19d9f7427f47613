/- BitsLaws walked: for any three sets it returns true. -/
import Derived.Test.YteglnekgnbjkoaaDoorBitsArms
namespace Go.Proofs.YteglnekgnbjkoaaDoor
open Go.ChangeShapes Go.WideShapes Go.ChangeAt Go.RowKit
namespace Words
theorem count_le {s : List Wd} (h : Small s) : count s ≤ 64000 := by
  have := lis_len s s.length
  unfold Small at h
  exact Nat.le_trans this (by omega)
theorem same_yes {a b : List Wd} (h : ∀ i, wd a i = wd b i) : same a b = true := decide_eq_true (trim_ext h)
theorem wd_ext {x y : Wd} (h : ∀ i, i < 64 → x.getLsbD i = y.getLsbD i) : x = y := BitVec.eq_of_getLsbD_eq fun i hi => h i hi
theorem same_left (a b : List Wd) : same (or (less a b) (and a b)) a = true := same_yes fun i => by
  rw [wd_or, wd_less, wd_and]
  refine wd_ext fun j hj => ?_
  simp only [BitVec.getLsbD_or, BitVec.getLsbD_and, BitVec.getLsbD_not, hj, decide_true, Bool.true_and]
  cases (wd a i).getLsbD j <;> cases (wd b i).getLsbD j <;> rfl
theorem same_dist1 (a b c : List Wd) : same (and a (or b c)) (or (and a b) (and a c)) = true := same_yes fun i => by
  simp only [wd_or, wd_and]
  refine wd_ext fun j hj => ?_
  simp only [BitVec.getLsbD_or, BitVec.getLsbD_and, BitVec.getLsbD_not, hj, decide_true, Bool.true_and]
  cases (wd a i).getLsbD j <;> cases (wd b i).getLsbD j <;> cases (wd c i).getLsbD j <;> rfl
theorem same_dist2 (a b c : List Wd) : same (or a (and b c)) (and (or a b) (or a c)) = true := same_yes fun i => by
  simp only [wd_or, wd_and]
  refine wd_ext fun j hj => ?_
  simp only [BitVec.getLsbD_or, BitVec.getLsbD_and, BitVec.getLsbD_not, hj, decide_true, Bool.true_and]
  cases (wd a i).getLsbD j <;> cases (wd b i).getLsbD j <;> cases (wd c i).getLsbD j <;> rfl
theorem count_none (a b : List Wd) : count (and (less a b) b) = 0 := by
  have h : ∀ i, wd (and (less a b) b) i = wd [] i := fun i => by
    rw [wd_and, wd_less]
    refine wd_ext fun j hj => ?_
    simp only [BitVec.getLsbD_and, BitVec.getLsbD_not, hj, decide_true, Bool.true_and]
    rw [show wd [] i = 0 from rfl, show (0 : Wd).getLsbD j = false by simp]
    cases (wd a i).getLsbD j <;> cases (wd b i).getLsbD j <;> rfl
  rw [count_ext h]; rfl
theorem within_same (a b : List Wd) : within a b = same (or a b) b := by
  rw [Bool.eq_iff_iff, within_iff]
  unfold same
  rw [decide_eq_true_iff, trim_iff]
  constructor
  · intro h i
    rw [wd_or]
    have := h i
    refine wd_ext fun j hj => ?_
    have := congrArg (·.getLsbD j) this
    simp [hj] at this ⊢
    exact this
  · intro h i
    have := h i
    rw [wd_or] at this
    refine wd_ext fun j hj => ?_
    have := congrArg (·.getLsbD j) this
    simp [hj] at this ⊢
    exact this
set_option maxRecDepth 20000 in
set_option maxHeartbeats 16000000 in
theorem laws_walk (u v x : Value) (a b c : List Wd) (w : World) (ht : Tz w) (hu : Set w u a) (hv : Set w v b) (hx : Set w x c) :
    Calls Tryd.prog 6 #[u, v, x] w (Gives (.bool true) w) := by
  obtain ⟨p, cap, rfl, hcap, hmx, _, _⟩ := hu.open
  obtain ⟨p2, cap2, rfl, hcap2, hmx2, _, _⟩ := hv.open
  obtain ⟨p3, cap3, rfl, hcap3, hmx3, _, _⟩ := hx.open
  unfold maxLen at hmx hmx2 hmx3
  by_cases hl : a.length ≤ 100
  · have hd : decide ((100 : Int) < a.length) = false := decide_eq_false (by omega)
    by_cases hs : b.length ≤ 100
    · have hd2 : decide ((100 : Int) < b.length) = false := decide_eq_false (by omega)
      by_cases hr : c.length ≤ 100
      · have hd3 : decide ((100 : Int) < c.length) = false := decide_eq_false (by omega)
        have HA : Small a := Nat.le_trans hl (by decide)
        have HB : Small b := Nat.le_trans hs (by decide)
        have HC : Small c := Nat.le_trans hr (by decide)
        have h1 : same (or a b) (or b a) = true := same_yes fun i => by simp only [wd_or]; exact BitVec.or_comm _ _
        have h2 : same (and a b) (and b a) = true := same_yes fun i => by simp only [wd_and]; exact BitVec.and_comm _ _
        have h3 : same (or (or a b) c) (or a (or b c)) = true := same_yes fun i => by simp only [wd_or]; exact BitVec.or_assoc _ _ _
        have h4 : same (and (and a b) c) (and a (and b c)) = true := same_yes fun i => by simp only [wd_and]; exact BitVec.and_assoc _ _ _
        have h5 := same_dist1 a b c
        have h6 := same_dist2 a b c
        have h7 := same_left a b
        have h8 := count_none a b
        have h9 : ((count (or a b) : Int) + (count (and a b) : Int)) = (count a : Int) + (count b : Int) := by have := count_both a b; omega
        have h10 : (within a b == same (or a b) b) = true := by rw [within_same]; exact beq_self_eq_true _
        have k1 : count (or a b) ≤ 64000 := count_le (or_small HA HB)
        have k2 : count (and a b) ≤ 64000 := count_le (and_small HA HB)
        have k3 : count a ≤ 64000 := count_le HA
        have k4 : count b ≤ 64000 := count_le HB
        go_enter Tryd.func6, Tryd.ntmps6
        go_wp2_with (first
          | (go_at_call 24; refine (or_c _ _ _ _ _ (Set.nw (by assumption) (by repeat (first | assumption | exact Nw.refl _ | refine Nw.alloc ?_ _ | refine Nw.drew ?_ | refine Nw.drewN2 ?_ _ | (refine Nw.trans ?_ (by assumption))))) (Set.nw (by assumption) (by repeat (first | assumption | exact Nw.refl _ | refine Nw.alloc ?_ _ | refine Nw.drew ?_ | refine Nw.drewN2 ?_ _ | (refine Nw.trans ?_ (by assumption))))) (small_le (by repeat (first | assumption | refine or_small ?_ ?_ | refine and_small ?_ ?_ | refine less_small ?_ | refine cut_small ?_ | exact of_small _))) (small_le (by repeat (first | assumption | refine or_small ?_ ?_ | refine and_small ?_ ?_ | refine less_small ?_ | refine cut_small ?_ | exact of_small _)))).mono ?_; rintro e wB ⟨vB, rfl, hsB, hfB, hnB⟩; obtain ⟨pB, cB, rfl, _⟩ := hsB.open)
                  | (go_at_call 26; refine (and_c _ _ _ _ _ (Set.nw (by assumption) (by repeat (first | assumption | exact Nw.refl _ | refine Nw.alloc ?_ _ | refine Nw.drew ?_ | refine Nw.drewN2 ?_ _ | (refine Nw.trans ?_ (by assumption))))) (Set.nw (by assumption) (by repeat (first | assumption | exact Nw.refl _ | refine Nw.alloc ?_ _ | refine Nw.drew ?_ | refine Nw.drewN2 ?_ _ | (refine Nw.trans ?_ (by assumption))))) (small_le (by repeat (first | assumption | refine or_small ?_ ?_ | refine and_small ?_ ?_ | refine less_small ?_ | refine cut_small ?_ | exact of_small _))) (small_le (by repeat (first | assumption | refine or_small ?_ ?_ | refine and_small ?_ ?_ | refine less_small ?_ | refine cut_small ?_ | exact of_small _)))).mono ?_; rintro e wB ⟨vB, rfl, hsB, hfB, hnB⟩; obtain ⟨pB, cB, rfl, _⟩ := hsB.open)
                  | (go_at_call 28; refine (less_c _ _ _ _ _ (Set.nw (by assumption) (by repeat (first | assumption | exact Nw.refl _ | refine Nw.alloc ?_ _ | refine Nw.drew ?_ | refine Nw.drewN2 ?_ _ | (refine Nw.trans ?_ (by assumption))))) (Set.nw (by assumption) (by repeat (first | assumption | exact Nw.refl _ | refine Nw.alloc ?_ _ | refine Nw.drew ?_ | refine Nw.drewN2 ?_ _ | (refine Nw.trans ?_ (by assumption))))) (small_le (by repeat (first | assumption | refine or_small ?_ ?_ | refine and_small ?_ ?_ | refine less_small ?_ | refine cut_small ?_ | exact of_small _))) (small_le (by repeat (first | assumption | refine or_small ?_ ?_ | refine and_small ?_ ?_ | refine less_small ?_ | refine cut_small ?_ | exact of_small _)))).mono ?_; rintro e wB ⟨vB, rfl, hsB, hfB, hnB⟩; obtain ⟨pB, cB, rfl, _⟩ := hsB.open)
                  | (go_at_call 25; refine (ror_c _ _ _ _ _ (Set.nw (by assumption) (by repeat (first | assumption | exact Nw.refl _ | refine Nw.alloc ?_ _ | refine Nw.drew ?_ | refine Nw.drewN2 ?_ _ | (refine Nw.trans ?_ (by assumption))))) (Set.nw (by assumption) (by repeat (first | assumption | exact Nw.refl _ | refine Nw.alloc ?_ _ | refine Nw.drew ?_ | refine Nw.drewN2 ?_ _ | (refine Nw.trans ?_ (by assumption))))) (small_le (by repeat (first | assumption | refine or_small ?_ ?_ | refine and_small ?_ ?_ | refine less_small ?_ | refine cut_small ?_ | exact of_small _))) (small_le (by repeat (first | assumption | refine or_small ?_ ?_ | refine and_small ?_ ?_ | refine less_small ?_ | refine cut_small ?_ | exact of_small _)))).mono ?_; rintro e wB ⟨vB, rfl, hsB, hfB, hnB⟩; obtain ⟨pB, cB, rfl, _⟩ := hsB.open)
                  | (go_at_call 27; refine (rand_c _ _ _ _ _ (Set.nw (by assumption) (by repeat (first | assumption | exact Nw.refl _ | refine Nw.alloc ?_ _ | refine Nw.drew ?_ | refine Nw.drewN2 ?_ _ | (refine Nw.trans ?_ (by assumption))))) (Set.nw (by assumption) (by repeat (first | assumption | exact Nw.refl _ | refine Nw.alloc ?_ _ | refine Nw.drew ?_ | refine Nw.drewN2 ?_ _ | (refine Nw.trans ?_ (by assumption))))) (small_le (by repeat (first | assumption | refine or_small ?_ ?_ | refine and_small ?_ ?_ | refine less_small ?_ | refine cut_small ?_ | exact of_small _))) (small_le (by repeat (first | assumption | refine or_small ?_ ?_ | refine and_small ?_ ?_ | refine less_small ?_ | refine cut_small ?_ | exact of_small _)))).mono ?_; rintro e wB ⟨vB, rfl, hsB, hfB, hnB⟩; obtain ⟨pB, cB, rfl, _⟩ := hsB.open)
                  | (go_at_call 22; refine (rless_c _ _ _ _ _ (Set.nw (by assumption) (by repeat (first | assumption | exact Nw.refl _ | refine Nw.alloc ?_ _ | refine Nw.drew ?_ | refine Nw.drewN2 ?_ _ | (refine Nw.trans ?_ (by assumption))))) (Set.nw (by assumption) (by repeat (first | assumption | exact Nw.refl _ | refine Nw.alloc ?_ _ | refine Nw.drew ?_ | refine Nw.drewN2 ?_ _ | (refine Nw.trans ?_ (by assumption))))) (small_le (by repeat (first | assumption | refine or_small ?_ ?_ | refine and_small ?_ ?_ | refine less_small ?_ | refine cut_small ?_ | exact of_small _))) (small_le (by repeat (first | assumption | refine or_small ?_ ?_ | refine and_small ?_ ?_ | refine less_small ?_ | refine cut_small ?_ | exact of_small _)))).mono ?_; rintro e wB ⟨vB, rfl, hsB, hfB, hnB⟩; obtain ⟨pB, cB, rfl, _⟩ := hsB.open)
                  | (go_at_call 31; refine (cut_c _ _ _ _ (Set.nw (by assumption) (by repeat (first | assumption | exact Nw.refl _ | refine Nw.alloc ?_ _ | refine Nw.drew ?_ | refine Nw.drewN2 ?_ _ | (refine Nw.trans ?_ (by assumption))))) (small_le (by repeat (first | assumption | refine or_small ?_ ?_ | refine and_small ?_ ?_ | refine less_small ?_ | refine cut_small ?_ | exact of_small _))) (by omega)).mono ?_; rintro e wB ⟨vB, rfl, hsB, hfB, hnB⟩; obtain ⟨pB, cB, rfl, _⟩ := hsB.open)
                  | (go_at_call 32; refine (rcut_c _ _ _ _ (Set.nw (by assumption) (by repeat (first | assumption | exact Nw.refl _ | refine Nw.alloc ?_ _ | refine Nw.drew ?_ | refine Nw.drewN2 ?_ _ | (refine Nw.trans ?_ (by assumption))))) (small_le (by repeat (first | assumption | refine or_small ?_ ?_ | refine and_small ?_ ?_ | refine less_small ?_ | refine cut_small ?_ | exact of_small _))) (by omega)).mono ?_; rintro e wB ⟨vB, rfl, hsB, hfB, hnB⟩; obtain ⟨pB, cB, rfl, _⟩ := hsB.open)
                  | (go_at_call 23; refine (rtrim_c _ _ _ (Set.nw (by assumption) (by repeat (first | assumption | exact Nw.refl _ | refine Nw.alloc ?_ _ | refine Nw.drew ?_ | refine Nw.drewN2 ?_ _ | (refine Nw.trans ?_ (by assumption))))) (small_le (by repeat (first | assumption | refine or_small ?_ ?_ | refine and_small ?_ ?_ | refine less_small ?_ | refine cut_small ?_ | exact of_small _)))).mono ?_; rintro e wB ⟨vB, rfl, hsB, hfB, hnB⟩; obtain ⟨pB, cB, rfl, _⟩ := hsB.open)
                  | (go_at_call 13; refine (of_c _ _ _ (Sl.nw (by assumption) (by repeat (first | assumption | exact Nw.refl _ | refine Nw.alloc ?_ _ | refine Nw.drew ?_ | refine Nw.drewN2 ?_ _ | (refine Nw.trans ?_ (by assumption)))))).mono ?_; rintro e wB ⟨vB, rfl, hsB, hfB, hnB⟩; obtain ⟨pB, cB, rfl, _⟩ := hsB.open)
                  | (go_at_call 15; refine (rof_c _ _ _ (Sl.nw (by assumption) (by repeat (first | assumption | exact Nw.refl _ | refine Nw.alloc ?_ _ | refine Nw.drew ?_ | refine Nw.drewN2 ?_ _ | (refine Nw.trans ?_ (by assumption)))))).mono ?_; rintro e wB ⟨vB, rfl, hsB, hfB, hnB⟩; obtain ⟨pB, cB, rfl, _⟩ := hsB.open)
                  | (go_at_call 16; refine (has_c _ _ _ _ (Set.nw (by assumption) (by repeat (first | assumption | exact Nw.refl _ | refine Nw.alloc ?_ _ | refine Nw.drew ?_ | refine Nw.drewN2 ?_ _ | (refine Nw.trans ?_ (by assumption))))) (by omega)).mono ?_; rintro e wB ⟨rfl, hnB⟩)
                  | (go_at_call 17; refine (rhas_c _ _ _ _ (Set.nw (by assumption) (by repeat (first | assumption | exact Nw.refl _ | refine Nw.alloc ?_ _ | refine Nw.drew ?_ | refine Nw.drewN2 ?_ _ | (refine Nw.trans ?_ (by assumption))))) (by omega)).mono ?_; rintro e wB ⟨rfl, hnB⟩)
                  | (go_at_call 14; refine (samewords_c _ _ _ _ _ (Set.nw (by assumption) (by repeat (first | assumption | exact Nw.refl _ | refine Nw.alloc ?_ _ | refine Nw.drew ?_ | refine Nw.drewN2 ?_ _ | (refine Nw.trans ?_ (by assumption))))) (Set.nw (by assumption) (by repeat (first | assumption | exact Nw.refl _ | refine Nw.alloc ?_ _ | refine Nw.drew ?_ | refine Nw.drewN2 ?_ _ | (refine Nw.trans ?_ (by assumption)))))).mono ?_; rintro e wB ⟨rfl, hnB⟩)
                  | (go_at_call 29; refine (within_c _ _ _ _ _ (Set.nw (by assumption) (by repeat (first | assumption | exact Nw.refl _ | refine Nw.alloc ?_ _ | refine Nw.drew ?_ | refine Nw.drewN2 ?_ _ | (refine Nw.trans ?_ (by assumption))))) (Set.nw (by assumption) (by repeat (first | assumption | exact Nw.refl _ | refine Nw.alloc ?_ _ | refine Nw.drew ?_ | refine Nw.drewN2 ?_ _ | (refine Nw.trans ?_ (by assumption)))))).mono ?_; rintro e wB ⟨rfl, hnB⟩)
                  | (go_at_call 30; refine (same_c _ _ _ _ _ (Set.nw (by assumption) (by repeat (first | assumption | exact Nw.refl _ | refine Nw.alloc ?_ _ | refine Nw.drew ?_ | refine Nw.drewN2 ?_ _ | (refine Nw.trans ?_ (by assumption))))) (Set.nw (by assumption) (by repeat (first | assumption | exact Nw.refl _ | refine Nw.alloc ?_ _ | refine Nw.drew ?_ | refine Nw.drewN2 ?_ _ | (refine Nw.trans ?_ (by assumption)))))).mono ?_; rintro e wB ⟨rfl, hnB⟩)
                  | (go_at_call 21; refine (count_c _ _ _ (Set.nw (by assumption) (by repeat (first | assumption | exact Nw.refl _ | refine Nw.alloc ?_ _ | refine Nw.drew ?_ | refine Nw.drewN2 ?_ _ | (refine Nw.trans ?_ (by assumption))))) (small_le (by repeat (first | assumption | refine or_small ?_ ?_ | refine and_small ?_ ?_ | refine less_small ?_ | refine cut_small ?_ | exact of_small _)))).mono ?_; rintro e wB ⟨rfl, hnB⟩)
                  | (go_at_call 19; refine (list_c _ _ _ (Set.nw (by assumption) (by repeat (first | assumption | exact Nw.refl _ | refine Nw.alloc ?_ _ | refine Nw.drew ?_ | refine Nw.drewN2 ?_ _ | (refine Nw.trans ?_ (by assumption))))) (small_le (by repeat (first | assumption | refine or_small ?_ ?_ | refine and_small ?_ ?_ | refine less_small ?_ | refine cut_small ?_ | exact of_small _))) (ht.nw (by repeat (first | assumption | exact Nw.refl _ | refine Nw.alloc ?_ _ | refine Nw.drew ?_ | refine Nw.drewN2 ?_ _ | (refine Nw.trans ?_ (by assumption)))))).mono ?_; rintro e wB ⟨vB, rfl, hsB, hfB, hnB⟩; obtain ⟨pB, cB, rfl, _⟩ := nums_open hsB)
                  | (go_at_call 20; refine (rlist_c _ _ _ (Set.nw (by assumption) (by repeat (first | assumption | exact Nw.refl _ | refine Nw.alloc ?_ _ | refine Nw.drew ?_ | refine Nw.drewN2 ?_ _ | (refine Nw.trans ?_ (by assumption))))) (small_le (by repeat (first | assumption | refine or_small ?_ ?_ | refine and_small ?_ ?_ | refine less_small ?_ | refine cut_small ?_ | exact of_small _)))).mono ?_; rintro e wB ⟨vB, rfl, hsB, hfB, hnB⟩; obtain ⟨pB, cB, rfl, _⟩ := nums_open hsB)
                  | (go_at_call 18; refine (equal_c _ _ _ _ _ (Sl.nw (by assumption) (by repeat (first | assumption | exact Nw.refl _ | refine Nw.alloc ?_ _ | refine Nw.drew ?_ | refine Nw.drewN2 ?_ _ | (refine Nw.trans ?_ (by assumption))))) (Sl.nw (by assumption) (by repeat (first | assumption | exact Nw.refl _ | refine Nw.alloc ?_ _ | refine Nw.drew ?_ | refine Nw.drewN2 ?_ _ | (refine Nw.trans ?_ (by assumption)))))).mono ?_; rintro e wB ⟨rfl, hnB⟩)
                  | (go_at_call 12; refine (awake_c _ (ht.nw (by repeat (first | assumption | exact Nw.refl _ | refine Nw.alloc ?_ _ | refine Nw.drew ?_ | refine Nw.drewN2 ?_ _ | (refine Nw.trans ?_ (by assumption)))))).mono ?_; rintro e wB ⟨rfl, hnB⟩)
        )
        go_ret
        exact Gives.b rfl (by repeat (first | assumption | exact Nw.refl _ | refine Nw.alloc ?_ _ | refine Nw.drew ?_ | refine Nw.drewN2 ?_ _ | (refine Nw.trans ?_ (by assumption))))
      · have hd3 : decide ((100 : Int) < c.length) = true := decide_eq_true (by omega)
        go_enter Tryd.func6, Tryd.ntmps6
        go_wp2_with (go_at_call 12; refine (awake_c _ (ht.nw (by repeat (first | assumption | exact Nw.refl _ | refine Nw.alloc ?_ _ | refine Nw.drew ?_ | refine Nw.drewN2 ?_ _ | (refine Nw.trans ?_ (by assumption)))))).mono ?_; rintro e wB ⟨rfl, hnB⟩)
        go_ret
        exact Gives.b rfl (by repeat (first | assumption | exact Nw.refl _ | refine Nw.alloc ?_ _ | refine Nw.drew ?_ | refine Nw.drewN2 ?_ _ | (refine Nw.trans ?_ (by assumption))))
    · have hd2 : decide ((100 : Int) < b.length) = true := decide_eq_true (by omega)
      go_enter Tryd.func6, Tryd.ntmps6
      go_wp2_with (go_at_call 12; refine (awake_c _ (ht.nw (by repeat (first | assumption | exact Nw.refl _ | refine Nw.alloc ?_ _ | refine Nw.drew ?_ | refine Nw.drewN2 ?_ _ | (refine Nw.trans ?_ (by assumption)))))).mono ?_; rintro e wB ⟨rfl, hnB⟩)
      go_ret
      exact Gives.b rfl (by repeat (first | assumption | exact Nw.refl _ | refine Nw.alloc ?_ _ | refine Nw.drew ?_ | refine Nw.drewN2 ?_ _ | (refine Nw.trans ?_ (by assumption))))
  · have hd : decide ((100 : Int) < a.length) = true := decide_eq_true (by omega)
    go_enter Tryd.func6, Tryd.ntmps6
    go_wp2_with (go_at_call 12; refine (awake_c _ (ht.nw (by repeat (first | assumption | exact Nw.refl _ | refine Nw.alloc ?_ _ | refine Nw.drew ?_ | refine Nw.drewN2 ?_ _ | (refine Nw.trans ?_ (by assumption)))))).mono ?_; rintro e wB ⟨rfl, hnB⟩)
    go_ret
    exact Gives.b rfl (by repeat (first | assumption | exact Nw.refl _ | refine Nw.alloc ?_ _ | refine Nw.drew ?_ | refine Nw.drewN2 ?_ _ | (refine Nw.trans ?_ (by assumption))))
end Words
end Go.Proofs.YteglnekgnbjkoaaDoor
