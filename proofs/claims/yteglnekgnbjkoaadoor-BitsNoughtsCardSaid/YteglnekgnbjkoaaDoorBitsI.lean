/- The contract of slices.Equal for rows of numbers, and of layer 2's awake: it returns true. -/
import Derived.Test.YteglnekgnbjkoaaDoorBitsH
import Derived.Test.YteglnekgnbjkoaaDoorShelf
namespace Go.Proofs.YteglnekgnbjkoaaDoor
open Go.ChangeShapes Go.WideShapes Go.ChangeAt Go.RowKit
namespace Words
def zs (l : List Nat) : List Int := l.map fun n : Nat => (n : Int)
theorem zs_inj {a b : List Nat} (h : zs a = zs b) : a = b := by
  induction a generalizing b with
  | nil => cases b with
    | nil => rfl
    | cons y t => simp [zs] at h
  | cons x r ih => cases b with
    | nil => simp [zs] at h
    | cons y t =>
      simp only [zs, List.map_cons, List.cons.injEq] at h
      rw [show x = y by omega, ih h.2]
theorem nums_open {w : World} {v : Value} {l : List Nat} (h : Sl w v (nums l)) : ∃ p cap, v = .slice p l.length cap ∧ l.length ≤ cap ∧ cap ≤ maxLen ∧ (p = none → cap = 0) ∧ Cells w p (nums l) := h.open (nums_length l)
theorem equal_c (u v : Value) (a b : List Nat) (w : World) (hu : Sl w u (nums a)) (hv : Sl w v (nums b)) : Calls Tryd.prog 18 #[u, v] w (Gives (.bool (decide (a = b))) w) := by
  obtain ⟨p, cap, rfl, hcap, hmx, _, hc⟩ := nums_open hu
  obtain ⟨p2, cap2, rfl, hcap2, hmx2, _, hc2⟩ := nums_open hv
  unfold maxLen at hmx hmx2
  by_cases hl : a.length = b.length
  · by_cases h0 : a.length = 0
    · have ha : a = [] := List.length_eq_zero_iff.1 h0
      have hb : b = [] := List.length_eq_zero_iff.1 (by omega)
      subst ha hb
      refine (Tryd.slices_Equal_int_empty p p2 cap 0 cap2 w (by omega)).mono ?_
      rintro e w' ⟨rfl, rfl⟩
      exact Gives.b (by simp) (Nw.refl _)
    · obtain ⟨b1, o1, rfl⟩ := hc.place (by rw [nums_length]; omega)
      obtain ⟨b2, o2, rfl⟩ := hc2.place (by rw [nums_length]; omega)
      have cell : ∀ {b o : Nat} {l : List Nat}, Cells w (some ⟨b, o, none⟩) (nums l) → ∀ j, j < (zs l).length → w.cell? ⟨b, o + j, none⟩ = some (.int .i64 ((zs l).getD j 0)) := fun {b o l} h j hj => by
        have hj' : j < l.length := by simpa [zs] using hj
        obtain ⟨b', o', e, hcell⟩ := h j (by rw [nums_length]; exact hj')
        cases e
        rw [hcell]
        simp [nums, i64s, zs, hj']
      refine (Tryd.slices_Equal_int b1 o1 a.length cap b2 o2 b.length cap2 (zs a) (zs b) w (by simp [zs]) (by simp [zs]) (by omega) (by omega) (cell hc) (cell hc2)).mono ?_
      rintro e w' ⟨rfl, q, rfl⟩
      refine Gives.b ?_ (by repeat (first | assumption | exact Nw.refl _ | refine Nw.alloc ?_ _ | refine Nw.drew ?_ | refine Nw.drewN2 ?_ _ | (refine Nw.trans ?_ (by assumption))))
      rw [List.take_of_length_le (by simp [zs]), List.take_of_length_le (by simp [zs])]
      rw [Bool.eq_iff_iff, beq_iff_eq, decide_eq_true_iff]
      exact ⟨zs_inj, fun h => by rw [h]⟩
  · refine (Tryd.slices_Equal_int_lens p p2 a.length cap b.length cap2 w hl).mono ?_
    rintro e w' ⟨rfl, rfl⟩
    exact Gives.b (decide_eq_false (fun h => hl (by rw [h]))).symm (Nw.refl _)
theorem aw1 : decide (of [0, 2, -1] = [5]) = true := by decide +kernel
theorem aw2 : decide (list [0, 1] = [64]) = true := by decide +kernel
set_option maxHeartbeats 800000 in
theorem awake_c (w : World) (ht : Tz w) : Calls Tryd.prog 12 #[] w (Gives (.bool true) w) := by
  have HA1 := hid aw1
  have HA2 := hid aw2
  go_enter Tryd.func12, Tryd.ntmps12
  go_wp2_with (first
    | (go_at_call 13; refine (of_c _ [0, 2, -1] _ (Sl.new w _ _ _ (by simp [maxLen, i64s]))).mono ?_; rintro e w1 ⟨v1, rfl, hs1, hf1, hn1⟩)
    | (go_at_call 14; refine (samewords_c _ _ _ [5] _ (hs1.nw (by repeat (first | assumption | exact Nw.refl _ | refine Nw.alloc ?_ _ | refine Nw.drew ?_ | refine Nw.drewN2 ?_ _ | (refine Nw.trans ?_ (by assumption))))) (Sl.new w1 _ _ _ (by simp [maxLen, ws]))).mono ?_; rw [HA1.out]; rintro e w2 ⟨rfl, hn2⟩)
    | (go_at_call 19; refine (list_c _ [0, 1] _ (Sl.new w2 _ _ _ (by simp [maxLen, ws])) (by simp) (ht.nw (by repeat (first | assumption | exact Nw.refl _ | refine Nw.alloc ?_ _ | refine Nw.drew ?_ | refine Nw.drewN2 ?_ _ | (refine Nw.trans ?_ (by assumption)))))).mono ?_; rintro e w3 ⟨v3, rfl, hs3, hf3, hn3⟩)
    | (go_at_call 18; refine (equal_c _ _ _ [64] _ (hs3.nw (by repeat (first | assumption | exact Nw.refl _ | refine Nw.alloc ?_ _ | refine Nw.drew ?_ | refine Nw.drewN2 ?_ _ | (refine Nw.trans ?_ (by assumption))))) (Sl.new w3 _ _ _ (by simp [maxLen, nums, i64s]))).mono ?_; rw [HA2.out]; rintro e w4 ⟨rfl, hn4⟩))
  go_ret
  exact Gives.b rfl (by repeat (first | assumption | exact Nw.refl _ | refine Nw.alloc ?_ _ | refine Nw.drew ?_ | refine Nw.drewN2 ?_ _ | (refine Nw.trans ?_ (by assumption))))
end Words
end Go.Proofs.YteglnekgnbjkoaaDoor
