/- The contract of the reference's item. No condition but the length that any string has. -/
import Derived.Test.YtlimhggkimnddaaDoorVerI
set_option linter.unusedSimpArgs false
set_option linter.unusedVariables false
namespace Go.Proofs.YtlimhggkimnddaaDoor
open Go.ChangeShapes Go.WideShapes Go.ChangeAt Go.RowKit
namespace Vd
theorem rnum_le (s : List UInt8) : (rnum s).2 ≤ s.length := by
  unfold rnum
  split
  · exact Nat.zero_le _
  · exact (List.takeWhile_sublist dg).length_le
theorem ext_drop (s : List UInt8) (k : Nat) : (⟨s.toArray⟩ : ByteArray).extract k s.length = ⟨(s.drop k).toArray⟩ := by
  rw [ByteArray.extract_mk]
  have : List.take (s.length - k) (List.drop k s) = List.drop k s := List.take_of_length_le (by rw [List.length_drop]; exact Nat.le_refl _)
  simp [this]
theorem ext_cut (s : List UInt8) (k : Nat) : (⟨s.toArray⟩ : ByteArray).extract k (k + 3) = ⟨((s.drop k).take 3).toArray⟩ := by
  rw [ByteArray.extract_mk]
  simp
theorem hands_no {s : List UInt8} {I : Option It} (h : ritem s = none) (hI : item s = I) : I.isSome = false ∧ ∀ y, I = some y → y = (0, 0, false, 0) := by
  rw [← hI, ← item_ritem, h]
  exact ⟨rfl, fun y hy => by cases hy⟩
theorem hands_yes {s : List UInt8} {I : Option It} {x : It} (h : ritem s = some x) (hI : item s = I) : I.isSome = true ∧ ∀ y, I = some y → y = x := by
  rw [← hI, ← item_ritem, h]
  exact ⟨rfl, fun y hy => by cases hy; rfl⟩
set_option maxRecDepth 20000 in
set_option maxHeartbeats 2000000 in
theorem ritem_c (s : List UInt8) (w : World) (hs : s.length ≤ 1000000000) : Calls Tryd.prog 31 #[.string ⟨s.toArray⟩] w (HandsI w s) := by
  have HN1 := hid (fun w' => rnumber_c s w' hs)
  unfold HandsR at HN1
  have hk := rnum_le s
  have hR := ext_drop s (rnum s).2
  have hT := ext_cut s (rnum s).2
  have hU := ext_drop s ((rnum s).2 + 3)
  have HN2 := hid (fun w' => rnumber_c (s.drop ((rnum s).2 + 3)) w' (by rw [List.length_drop]; omega))
  unfold HandsR at HN2
  have hk2 := rnum_le (s.drop ((rnum s).2 + 3))
  rw [List.length_drop] at hk2
  have hno : ritem s = none → (item s).isSome = false ∧ ∀ y, item s = some y → y = (0, 0, false, 0) := fun h => hands_no h rfl
  have hyes : ∀ x, ritem s = some x → (item s).isSome = true ∧ ∀ y, item s = some y → y = x := fun x h => hands_yes h rfl
  have hit : ritem s = _ := ritem.eq_1 s
  unfold HandsI
  generalize item s = I at *
  generalize ritem s = J at *
  generalize rnum (s.drop ((rnum s).2 + 3)) = p2 at *
  generalize s.drop ((rnum s).2 + 3) = U at *
  generalize (s.drop (rnum s).2).take 3 = T at *
  generalize s.drop (rnum s).2 = R at *
  generalize rnum s = p1 at *
  obtain ⟨n, k⟩ := p1
  obtain ⟨n2, k2⟩ := p2
  simp only at *
  by_cases h0 : k = 0
  · have hres := hno (hit.trans (if_pos h0))
    subst h0
    have HY := hid hres.2
    rw [hres.1]
    clear hres hit hno hyes
    go_enter Tryd.func31, Tryd.ntmps31
    go_wp2_with (first
      | (go_at_call 37; (with_reducible refine (HN1.out _).mono ?_); rintro e w1 ⟨rfl, hn1⟩; have hnz := hn1; obtain ⟨g0, g1, g2, g3, f0, f1, f2, f3⟩ := it_cells (hnz.heap (heap_new w _)))
      | (go_at_call 37; (with_reducible refine (HN2.out _).mono ?_); rintro e w2 ⟨rfl, hn2⟩; have hnz := hnz.trans hn2; obtain ⟨g0, g1, g2, g3, f0, f1, f2, f3⟩ := it_cells (hnz.heap (heap_new w _)))
      | fail)
    have hfh := four_heap (hnz.heap (heap_new w _)) (by repeat (first | assumption | exact Nw.refl _ | refine Nw.alloc ?_ _ | refine Nw.drew ?_ | refine Nw.drewN2 ?_ _ | (refine Nw.trans ?_ (by assumption)))) (Nat.le_refl _) (.int .i64 0) (.int .i64 0) (.bool false) (.int .i64 0)
    ((try simp only [Exit.inBlock, Exit.then]); refine bodyPost_ret (results_cell2 rfl _ _ _ _ _ _ _ rfl hfh.1 Tryd.underlying30 rfl (by kernel_rfl)) rfl ?_)
    exact ⟨(0, 0, false, 0), rfl, HY.out, hfh.2⟩
  · have q0 : ((k : Int) == 0) = false := by simpa using h0
    replace hit := hit.trans (if_neg h0)
    by_cases h1 : R = 32 :: fb true
    · have hres := hyes _ (hit.trans (if_pos h1))
      have q1 : (R == [32, 116, 114, 117, 101]) = true := by rw [h1]; rfl
      have HY := hid hres.2
      rw [hres.1]
      clear hres hit hno hyes h0 h1
      go_enter Tryd.func31, Tryd.ntmps31
      go_wp2_with (first
        | (go_at_call 37; (with_reducible refine (HN1.out _).mono ?_); rintro e w1 ⟨rfl, hn1⟩; have hnz := hn1; obtain ⟨g0, g1, g2, g3, f0, f1, f2, f3⟩ := it_cells (hnz.heap (heap_new w _)))
        | (go_at_call 37; (with_reducible refine (HN2.out _).mono ?_); rintro e w2 ⟨rfl, hn2⟩; have hnz := hnz.trans hn2; obtain ⟨g0, g1, g2, g3, f0, f1, f2, f3⟩ := it_cells (hnz.heap (heap_new w _)))
        | fail)
      have hfh := four_heap (hnz.heap (heap_new w _)) (by repeat (first | assumption | exact Nw.refl _ | refine Nw.alloc ?_ _ | refine Nw.drew ?_ | refine Nw.drewN2 ?_ _ | (refine Nw.trans ?_ (by assumption)))) (Nat.le_refl _) (.int .i64 1) (.int .i64 n) (.bool true) (.int .i64 0)
      ((try simp only [Exit.inBlock, Exit.then]); refine bodyPost_ret (results_cell2 rfl _ _ _ _ _ _ _ rfl hfh.1 Tryd.underlying30 rfl (by kernel_rfl)) rfl ?_)
      exact ⟨(1, n, true, 0), rfl, HY.out, hfh.2⟩
    · have q1 : (R == [32, 116, 114, 117, 101]) = false := beq_eq_false_iff_ne.2 h1
      replace hit := hit.trans (if_neg h1)
      by_cases h2 : R = 32 :: fb false
      · have hres := hyes _ (hit.trans (if_pos h2))
        have q2 : (R == [32, 102, 97, 108, 115, 101]) = true := by rw [h2]; rfl
        have HY := hid hres.2
        rw [hres.1]
        clear hres hit hno hyes h0 h1 h2
        go_enter Tryd.func31, Tryd.ntmps31
        go_wp2_with (first
          | (go_at_call 37; (with_reducible refine (HN1.out _).mono ?_); rintro e w1 ⟨rfl, hn1⟩; have hnz := hn1; obtain ⟨g0, g1, g2, g3, f0, f1, f2, f3⟩ := it_cells (hnz.heap (heap_new w _)))
          | (go_at_call 37; (with_reducible refine (HN2.out _).mono ?_); rintro e w2 ⟨rfl, hn2⟩; have hnz := hnz.trans hn2; obtain ⟨g0, g1, g2, g3, f0, f1, f2, f3⟩ := it_cells (hnz.heap (heap_new w _)))
          | fail)
        have hfh := four_heap (hnz.heap (heap_new w _)) (by repeat (first | assumption | exact Nw.refl _ | refine Nw.alloc ?_ _ | refine Nw.drew ?_ | refine Nw.drewN2 ?_ _ | (refine Nw.trans ?_ (by assumption)))) (Nat.le_refl _) (.int .i64 1) (.int .i64 n) (.bool false) (.int .i64 0)
        ((try simp only [Exit.inBlock, Exit.then]); refine bodyPost_ret (results_cell2 rfl _ _ _ _ _ _ _ rfl hfh.1 Tryd.underlying30 rfl (by kernel_rfl)) rfl ?_)
        exact ⟨(1, n, false, 0), rfl, HY.out, hfh.2⟩
      · have q2 : (R == [32, 102, 97, 108, 115, 101]) = false := beq_eq_false_iff_ne.2 h2
        replace hit := hit.trans (if_neg h2)
        clear h1 h2
        by_cases h3 : s.length < k + 4
        · have hres := hno (hit.trans (if_pos (Or.inl h3)))
          have q3 : decide ((s.length : Int) < k + 4) = true := decide_eq_true (by omega)
          have q4 : decide (s.length < k + 4) = true := decide_eq_true h3
          have HY := hid hres.2
          rw [hres.1]
          clear hres hit hno hyes h0 h3
          go_enter Tryd.func31, Tryd.ntmps31
          go_wp2_with (first
            | (go_at_call 37; (with_reducible refine (HN1.out _).mono ?_); rintro e w1 ⟨rfl, hn1⟩; have hnz := hn1; obtain ⟨g0, g1, g2, g3, f0, f1, f2, f3⟩ := it_cells (hnz.heap (heap_new w _)))
            | (go_at_call 37; (with_reducible refine (HN2.out _).mono ?_); rintro e w2 ⟨rfl, hn2⟩; have hnz := hnz.trans hn2; obtain ⟨g0, g1, g2, g3, f0, f1, f2, f3⟩ := it_cells (hnz.heap (heap_new w _)))
            | fail)
          have hfh := four_heap (hnz.heap (heap_new w _)) (by repeat (first | assumption | exact Nw.refl _ | refine Nw.alloc ?_ _ | refine Nw.drew ?_ | refine Nw.drewN2 ?_ _ | (refine Nw.trans ?_ (by assumption)))) (Nat.le_refl _) (.int .i64 0) (.int .i64 0) (.bool false) (.int .i64 0)
          ((try simp only [Exit.inBlock, Exit.then]); refine bodyPost_ret (results_cell2 rfl _ _ _ _ _ _ _ rfl hfh.1 Tryd.underlying30 rfl (by kernel_rfl)) rfl ?_)
          exact ⟨(0, 0, false, 0), rfl, HY.out, hfh.2⟩
        · have q3 : decide ((s.length : Int) < k + 4) = false := decide_eq_false (by omega)
          have q4 : decide (s.length < k + 4) = false := decide_eq_false h3
          have hk3 : k + 3 ≤ s.length := by omega
          have hki : (k : Int) + 3 ≤ s.length := by omega
          by_cases h4 : T = [32, 61, 32]
          · have q5 : (T == [32, 61, 32]) = true := by rw [h4]; rfl
            have q6 : (T != [32, 61, 32]) = false := by rw [h4]; rfl
            replace hit := hit.trans (if_neg (by rintro (q | q); exact h3 q; exact q h4))
            clear h3 h4
            by_cases h5 : k2 = 0
            · have hres := hno (hit.trans (if_pos (Or.inl h5)))
              subst h5
              have HY := hid hres.2
              rw [hres.1]
              clear hres hit hno hyes h0
              go_enter Tryd.func31, Tryd.ntmps31
              go_wp2_with (first
                | (go_at_call 37; (with_reducible refine (HN1.out _).mono ?_); rintro e w1 ⟨rfl, hn1⟩; have hnz := hn1; obtain ⟨g0, g1, g2, g3, f0, f1, f2, f3⟩ := it_cells (hnz.heap (heap_new w _)))
                | (go_at_call 37; (with_reducible refine (HN2.out _).mono ?_); rintro e w2 ⟨rfl, hn2⟩; have hnz := hnz.trans hn2; obtain ⟨g0, g1, g2, g3, f0, f1, f2, f3⟩ := it_cells (hnz.heap (heap_new w _)))
                | fail)
              have hfh := four_heap (hnz.heap (heap_new w _)) (by repeat (first | assumption | exact Nw.refl _ | refine Nw.alloc ?_ _ | refine Nw.drew ?_ | refine Nw.drewN2 ?_ _ | (refine Nw.trans ?_ (by assumption)))) (Nat.le_refl _) (.int .i64 0) (.int .i64 0) (.bool false) (.int .i64 0)
              ((try simp only [Exit.inBlock, Exit.then]); refine bodyPost_ret (results_cell2 rfl _ _ _ _ _ _ _ rfl hfh.1 Tryd.underlying30 rfl (by kernel_rfl)) rfl ?_)
              exact ⟨(0, 0, false, 0), rfl, HY.out, hfh.2⟩
            · have q7 : ((k2 : Int) == 0) = false := by simpa using h5
              by_cases h6 : k + 3 + k2 = s.length
              · have hres := hyes _ (hit.trans (if_neg (by rintro (q | q); exact h5 q; exact q h6)))
                have q8 : ((k : Int) + 3 + k2 == s.length) = true := by simpa using (by omega : (k : Int) + 3 + k2 = s.length)
                have q9 : ((k : Int) + 3 + k2 != s.length) = false := by simpa using (by omega : (k : Int) + 3 + k2 = s.length)
                have HY := hid hres.2
                rw [hres.1]
                clear hres hit hno hyes h0 h5 h6
                go_enter Tryd.func31, Tryd.ntmps31
                go_wp2_with (first
                  | (go_at_call 37; (with_reducible refine (HN1.out _).mono ?_); rintro e w1 ⟨rfl, hn1⟩; have hnz := hn1; obtain ⟨g0, g1, g2, g3, f0, f1, f2, f3⟩ := it_cells (hnz.heap (heap_new w _)))
                  | (go_at_call 37; (with_reducible refine (HN2.out _).mono ?_); rintro e w2 ⟨rfl, hn2⟩; have hnz := hnz.trans hn2; obtain ⟨g0, g1, g2, g3, f0, f1, f2, f3⟩ := it_cells (hnz.heap (heap_new w _)))
                  | fail)
                have hfh := four_heap (hnz.heap (heap_new w _)) (by repeat (first | assumption | exact Nw.refl _ | refine Nw.alloc ?_ _ | refine Nw.drew ?_ | refine Nw.drewN2 ?_ _ | (refine Nw.trans ?_ (by assumption)))) (Nat.le_refl _) (.int .i64 2) (.int .i64 n) (.bool false) (.int .i64 n2)
                ((try simp only [Exit.inBlock, Exit.then]); refine bodyPost_ret (results_cell2 rfl _ _ _ _ _ _ _ rfl hfh.1 Tryd.underlying30 rfl (by kernel_rfl)) rfl ?_)
                exact ⟨(2, n, false, n2), rfl, HY.out, hfh.2⟩
              · have hres := hno (hit.trans (if_pos (Or.inr h6)))
                have q8 : ((k : Int) + 3 + k2 == s.length) = false := by simpa using (by omega : ¬ (k : Int) + 3 + k2 = s.length)
                have q9 : ((k : Int) + 3 + k2 != s.length) = true := by simpa using (by omega : ¬ (k : Int) + 3 + k2 = s.length)
                have HY := hid hres.2
                rw [hres.1]
                clear hres hit hno hyes h0 h5 h6
                go_enter Tryd.func31, Tryd.ntmps31
                go_wp2_with (first
                  | (go_at_call 37; (with_reducible refine (HN1.out _).mono ?_); rintro e w1 ⟨rfl, hn1⟩; have hnz := hn1; obtain ⟨g0, g1, g2, g3, f0, f1, f2, f3⟩ := it_cells (hnz.heap (heap_new w _)))
                  | (go_at_call 37; (with_reducible refine (HN2.out _).mono ?_); rintro e w2 ⟨rfl, hn2⟩; have hnz := hnz.trans hn2; obtain ⟨g0, g1, g2, g3, f0, f1, f2, f3⟩ := it_cells (hnz.heap (heap_new w _)))
                  | fail)
                have hfh := four_heap (hnz.heap (heap_new w _)) (by repeat (first | assumption | exact Nw.refl _ | refine Nw.alloc ?_ _ | refine Nw.drew ?_ | refine Nw.drewN2 ?_ _ | (refine Nw.trans ?_ (by assumption)))) (Nat.le_refl _) (.int .i64 0) (.int .i64 0) (.bool false) (.int .i64 0)
                ((try simp only [Exit.inBlock, Exit.then]); refine bodyPost_ret (results_cell2 rfl _ _ _ _ _ _ _ rfl hfh.1 Tryd.underlying30 rfl (by kernel_rfl)) rfl ?_)
                exact ⟨(0, 0, false, 0), rfl, HY.out, hfh.2⟩
          · have q5 : (T == [32, 61, 32]) = false := beq_eq_false_iff_ne.2 h4
            have q6 : (T != [32, 61, 32]) = true := by simpa using h4
            have hres := hno (hit.trans (if_pos (Or.inr h4)))
            have HY := hid hres.2
            rw [hres.1]
            clear hres hit hno hyes h0 h3 h4
            go_enter Tryd.func31, Tryd.ntmps31
            go_wp2_with (first
              | (go_at_call 37; (with_reducible refine (HN1.out _).mono ?_); rintro e w1 ⟨rfl, hn1⟩; have hnz := hn1; obtain ⟨g0, g1, g2, g3, f0, f1, f2, f3⟩ := it_cells (hnz.heap (heap_new w _)))
              | (go_at_call 37; (with_reducible refine (HN2.out _).mono ?_); rintro e w2 ⟨rfl, hn2⟩; have hnz := hnz.trans hn2; obtain ⟨g0, g1, g2, g3, f0, f1, f2, f3⟩ := it_cells (hnz.heap (heap_new w _)))
              | fail)
            have hfh := four_heap (hnz.heap (heap_new w _)) (by repeat (first | assumption | exact Nw.refl _ | refine Nw.alloc ?_ _ | refine Nw.drew ?_ | refine Nw.drewN2 ?_ _ | (refine Nw.trans ?_ (by assumption)))) (Nat.le_refl _) (.int .i64 0) (.int .i64 0) (.bool false) (.int .i64 0)
            ((try simp only [Exit.inBlock, Exit.then]); refine bodyPost_ret (results_cell2 rfl _ _ _ _ _ _ _ rfl hfh.1 Tryd.underlying30 rfl (by kernel_rfl)) rfl ?_)
            exact ⟨(0, 0, false, 0), rfl, HY.out, hfh.2⟩
end Vd
end Go.Proofs.YtlimhggkimnddaaDoor
