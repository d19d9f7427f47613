/- The contract of trace.Add, whole, and of watchglassref8.Add where it tells an error. No condition but lengths. -/
import Derived.Test.YtjelbfodkacipaaTrS
set_option linter.unusedSimpArgs false
set_option linter.unusedVariables false
namespace Go.Proofs.Ytjelbfodkacipaa
open Go.ChangeShapes Go.WideShapes Go.ChangeAt Go.RowKit
namespace Tr
open Go.Proofs.Ytjelbfodkacipaa.Lx (isIn nameB strs_open strs_cell contains_c)
open Go.Proofs.Ytjelbfodkacipaa.Rec (rises i64s_open i64_cell)
def addP (t : T) (tk : Int) (l : List Int) : T × Int :=
  if mayP t = true then (if rises l t.names.length = true then (if t.evs.length = 0 ∨ ¬ tk < tm t.evs (t.evs.length - 1) then (⟨t.names, t.evs ++ [(tk, l)]⟩, 0) else (none_, 8)) else (none_, 9)) else (none_, 1)
set_option maxRecDepth 20000 in
set_option maxHeartbeats 3200000 in
theorem add_no (vn ve vi : Value) (t : T) (tk : Int) (l : List Int) (w : World) (hvn : Sl w vn (Lx.strs t.names)) (hve : Evs w ve t.evs) (hvi : Sl w vi (i64s l)) (hsm : Small t) (hll : l.length ≤ 1000000000) (r : T × Int) (hr : r = addP t tk l) (hno : r.2 ≠ 0) :
    Calls Try.prog 29 #[.agg #[vn, ve], .agg #[.int .u64 tk, vi]] w (HandsTE w r) := by
  have HMY := hid (fun w' (h : Nw w w') => may_c vn ve t w' (hvn.nw h) (hve.nw h) hsm.s)
  have HID := hid (fun w' (h : Nw w w') => Rec.tids_c vi l t.names.length w' (hvi.nw h))
  obtain ⟨names, es⟩ := t
  have hle := hsm.e
  dsimp only at *
  obtain ⟨pn, kn, rfl, _, _, _, _⟩ := strs_open hvn
  obtain ⟨p, cap, rfl, hcap, hmx, _, hec⟩ := hve
  obtain ⟨q, c, rfl, hcq, hmq, _, _⟩ := i64s_open hvi
  have HE := hid hec
  unfold maxLen at hmx hmq
  clear hec hvn hsm
  go_enter Try.func29, Try.ntmps29
  go_upto_region 1 with fail
  obtain ⟨x0, x1, b0, b1, y4, hn, hsz⟩ := boxes3 w (.slice pn names.length kn) (.slice p es.length cap) (.int .u64 tk) (.slice q l.length c) (.slice none 0 0) (.slice none 0 0) 26 39 26
  generalize (((w.alloc (.cells #[.slice pn names.length kn, .slice p es.length cap] 26)).alloc (.cells #[.int .u64 tk, .slice q l.length c] 39)).alloc (.cells #[.slice none 0 0, .slice none 0 0] 26)) = w0 at *
  have hz0 : w.heap.size < w0.heap.size := by omega
  have hz1 : w.heap.size + 1 < w0.heap.size := by omega
  have hzr : w.heap.size + 1 + 1 < w0.heap.size := by omega
  have hw0 : Nw w0 w0 := Nw.refl _
  clear hsz
  unfold addP at hr
  by_cases hM : mayP ⟨names, es⟩ = true
  · rw [if_pos hM] at hr
    by_cases hr2 : rises l names.length = true
    · rw [if_pos hr2] at hr
      by_cases ht : es.length = 0 ∨ ¬ tk < tm es (es.length - 1)
      · rw [if_pos ht] at hr
        exact absurd (by rw [hr]) hno
      · rw [if_neg ht] at hr
        subst hr
        clear hno
        have hpos : 0 < es.length := by omega
        have hd2 : decide ((0 : Int) < es.length) = true := decide_eq_true (by omega)
        have hd2n : decide (0 < es.length) = true := decide_eq_true hpos
        obtain ⟨b7, o7, vj, rfl, d0, _, _⟩ := HE.out (es.length - 1) (by omega)
        have ek : ((es.length : Int) - 1).toNat = es.length - 1 := by omega
        have hd3 : decide (tk < tm es (es.length - 1)) = true := decide_eq_true (by omega)
        clear ht
        generalize tm es (es.length - 1) = tj at *
        go_upto_region 6 with (first
          | (go_at_call 24; refine (HMY.out _ (by repeat (first | assumption | exact Nw.refl _ | refine Nw.alloc ?_ _ | refine Nw.drew ?_ | refine Nw.drewN2 ?_ _ | (refine Nw.trans ?_ (by assumption))))).mono ?_; rintro e w1 ⟨rfl, hn1⟩; have x0 := hn1.cell x0; have x1 := hn1.cell x1; have b0 := hn1.cell b0; have b1 := hn1.cell b1; have hz0 := Nat.lt_of_lt_of_le hz0 hn1.size; have hz1 := Nat.lt_of_lt_of_le hz1 hn1.size; have hw0 := hw0.trans hn1; have y4 := hn1.heap y4; have dz0 := heap_cell y4 0; have dz1 := heap_cell y4 1; simp only [List.getElem?_toArray, List.getElem?_cons_succ, List.getElem?_cons_zero] at dz0 dz1; have fz0 := heap_frozen y4 0; have fz1 := heap_frozen y4 1)
          | (go_at_call 20; refine (HID.out _ (by repeat (first | assumption | exact Nw.refl _ | refine Nw.alloc ?_ _ | refine Nw.drew ?_ | refine Nw.drewN2 ?_ _ | (refine Nw.trans ?_ (by assumption))))).mono ?_; rintro e w1 ⟨rfl, hn1⟩; have x0 := hn1.cell x0; have x1 := hn1.cell x1; have b0 := hn1.cell b0; have b1 := hn1.cell b1; have hz0 := Nat.lt_of_lt_of_le hz0 hn1.size; have hz1 := Nat.lt_of_lt_of_le hz1 hn1.size; have hw0 := hw0.trans hn1; have y4 := hn1.heap y4; have dz0 := heap_cell y4 0; have dz1 := heap_cell y4 1; simp only [List.getElem?_toArray, List.getElem?_cons_succ, List.getElem?_cons_zero] at dz0 dz1; have fz0 := heap_frozen y4 0; have fz1 := heap_frozen y4 1)
          | fail)
        have d0 := (hn.trans hw0).cell d0
        have gd := World.block_lt_of_cell? w1 _ d0
        simp only at gd
        refine wp_region_stairs (by kernel_rfl) (by kernel_rfl) (by kernel_rfl) ?_
        iterate 15
          refine Stairs.is ?_ ?_ ?_
          rotate_left 1
          · intro x wR hR hd K hK
            simp only [Act.put, List.setIfInBounds_toArray, List.set_cons_zero, List.set_cons_succ, Nat.reduceAdd, List.length_nil, List.length_cons, List.nil_append, List.cons_append, Say.ok] at hK ⊢
            clear hd
            change Hid _ at hK
            obtain ⟨hcR, hfR, hzR⟩ := nwc hR
            first | (refine wanted_yes ?_ ?_; rfl) | (refine wanted_no ?_ ?_; rfl)
            go_wp2_with (first | fail)
            all_goals (refine hK.out _ _ ?_ ?_ <;> first | (solve | (repeat (first | assumption | exact Nw.refl _ | refine Nw.alloc ?_ _ | refine Nw.drew ?_ | refine Nw.drewN2 ?_ _ | (refine Nw.trans ?_ (by assumption))))) | exact rfl)
          try simp only [Act.put, List.setIfInBounds_toArray, List.set_cons_zero, List.set_cons_succ, Nat.reduceAdd, List.length_nil, List.length_cons, List.nil_append, List.cons_append]
        refine Stairs.nil ?_
        intro x wR hR hx
        clear hx
        obtain ⟨hcR, hfR, hzR⟩ := nwc hR
        have hw0 := hw0.trans hR
        have y4 := hR.heap y4
        have dz0 := heap_cell y4 0
        have dz1 := heap_cell y4 1
        simp only [List.getElem?_toArray, List.getElem?_cons_succ, List.getElem?_cons_zero] at dz0 dz1
        have fz0 := heap_frozen y4 0
        have fz1 := heap_frozen y4 1
        clear hcR hfR hzR
        go_wp2
        ((try simp only [Exit.inBlock, Exit.then]); refine bodyPost_ret (results_cell2 rfl _ _ _ _ _ _ _ rfl (heap_set (heap_set y4 0 (.slice none 0 0)) 1 (.slice none 0 0)) Try.underlying26 rfl (by kernel_rfl)) rfl ?_)
        exact ⟨_, rfl, TrR.none_ _, ((hn.trans hw0).setCell (p := ⟨w.heap.size + 1 + 1, 0, none⟩) (show w.heap.size ≤ w.heap.size + 1 + 1 by omega) _).setCell (p := ⟨w.heap.size + 1 + 1, 1, none⟩) (show w.heap.size ≤ w.heap.size + 1 + 1 by omega) _⟩
    · rw [if_neg hr2] at hr
      subst hr
      rw [Bool.not_eq_true] at hr2
      clear hno
      go_wp2_with (first
        | (go_at_call 24; refine (HMY.out _ (by repeat (first | assumption | exact Nw.refl _ | refine Nw.alloc ?_ _ | refine Nw.drew ?_ | refine Nw.drewN2 ?_ _ | (refine Nw.trans ?_ (by assumption))))).mono ?_; rintro e w1 ⟨rfl, hn1⟩; have x0 := hn1.cell x0; have x1 := hn1.cell x1; have b0 := hn1.cell b0; have b1 := hn1.cell b1; have hz0 := Nat.lt_of_lt_of_le hz0 hn1.size; have hz1 := Nat.lt_of_lt_of_le hz1 hn1.size; have hw0 := hw0.trans hn1; have y4 := hn1.heap y4; have dz0 := heap_cell y4 0; have dz1 := heap_cell y4 1; simp only [List.getElem?_toArray, List.getElem?_cons_succ, List.getElem?_cons_zero] at dz0 dz1; have fz0 := heap_frozen y4 0; have fz1 := heap_frozen y4 1)
        | (go_at_call 20; refine (HID.out _ (by repeat (first | assumption | exact Nw.refl _ | refine Nw.alloc ?_ _ | refine Nw.drew ?_ | refine Nw.drewN2 ?_ _ | (refine Nw.trans ?_ (by assumption))))).mono ?_; rintro e w1 ⟨rfl, hn1⟩; have x0 := hn1.cell x0; have x1 := hn1.cell x1; have b0 := hn1.cell b0; have b1 := hn1.cell b1; have hz0 := Nat.lt_of_lt_of_le hz0 hn1.size; have hz1 := Nat.lt_of_lt_of_le hz1 hn1.size; have hw0 := hw0.trans hn1; have y4 := hn1.heap y4; have dz0 := heap_cell y4 0; have dz1 := heap_cell y4 1; simp only [List.getElem?_toArray, List.getElem?_cons_succ, List.getElem?_cons_zero] at dz0 dz1; have fz0 := heap_frozen y4 0; have fz1 := heap_frozen y4 1)
        | fail)
      ((try simp only [Exit.inBlock, Exit.then]); refine bodyPost_ret (results_cell2 rfl _ _ _ _ _ _ _ rfl (heap_set (heap_set y4 0 (.slice none 0 0)) 1 (.slice none 0 0)) Try.underlying26 rfl (by kernel_rfl)) rfl ?_)
      exact ⟨_, rfl, TrR.none_ _, ((hn.trans hw0).setCell (p := ⟨w.heap.size + 1 + 1, 0, none⟩) (show w.heap.size ≤ w.heap.size + 1 + 1 by omega) _).setCell (p := ⟨w.heap.size + 1 + 1, 1, none⟩) (show w.heap.size ≤ w.heap.size + 1 + 1 by omega) _⟩
  · rw [if_neg hM] at hr
    subst hr
    rw [Bool.not_eq_true] at hM
    clear hno
    go_wp2_with (first
      | (go_at_call 24; refine (HMY.out _ (by repeat (first | assumption | exact Nw.refl _ | refine Nw.alloc ?_ _ | refine Nw.drew ?_ | refine Nw.drewN2 ?_ _ | (refine Nw.trans ?_ (by assumption))))).mono ?_; rintro e w1 ⟨rfl, hn1⟩; have x0 := hn1.cell x0; have x1 := hn1.cell x1; have b0 := hn1.cell b0; have b1 := hn1.cell b1; have hz0 := Nat.lt_of_lt_of_le hz0 hn1.size; have hz1 := Nat.lt_of_lt_of_le hz1 hn1.size; have hw0 := hw0.trans hn1; have y4 := hn1.heap y4; have dz0 := heap_cell y4 0; have dz1 := heap_cell y4 1; simp only [List.getElem?_toArray, List.getElem?_cons_succ, List.getElem?_cons_zero] at dz0 dz1; have fz0 := heap_frozen y4 0; have fz1 := heap_frozen y4 1)
      | (go_at_call 20; refine (HID.out _ (by repeat (first | assumption | exact Nw.refl _ | refine Nw.alloc ?_ _ | refine Nw.drew ?_ | refine Nw.drewN2 ?_ _ | (refine Nw.trans ?_ (by assumption))))).mono ?_; rintro e w1 ⟨rfl, hn1⟩; have x0 := hn1.cell x0; have x1 := hn1.cell x1; have b0 := hn1.cell b0; have b1 := hn1.cell b1; have hz0 := Nat.lt_of_lt_of_le hz0 hn1.size; have hz1 := Nat.lt_of_lt_of_le hz1 hn1.size; have hw0 := hw0.trans hn1; have y4 := hn1.heap y4; have dz0 := heap_cell y4 0; have dz1 := heap_cell y4 1; simp only [List.getElem?_toArray, List.getElem?_cons_succ, List.getElem?_cons_zero] at dz0 dz1; have fz0 := heap_frozen y4 0; have fz1 := heap_frozen y4 1)
      | fail)
    ((try simp only [Exit.inBlock, Exit.then]); refine bodyPost_ret (results_cell2 rfl _ _ _ _ _ _ _ rfl (heap_set (heap_set y4 0 (.slice none 0 0)) 1 (.slice none 0 0)) Try.underlying26 rfl (by kernel_rfl)) rfl ?_)
    exact ⟨_, rfl, TrR.none_ _, ((hn.trans hw0).setCell (p := ⟨w.heap.size + 1 + 1, 0, none⟩) (show w.heap.size ≤ w.heap.size + 1 + 1 by omega) _).setCell (p := ⟨w.heap.size + 1 + 1, 1, none⟩) (show w.heap.size ≤ w.heap.size + 1 + 1 by omega) _⟩

set_option maxRecDepth 20000 in
set_option maxHeartbeats 3200000 in
theorem radd_no (vn ve vi : Value) (t : T) (tk : Int) (l : List Int) (w : World) (hvn : Sl w vn (Lx.strs t.names)) (hve : Evs w ve t.evs) (hvi : Sl w vi (i64s l)) (hsm : Small t) (hll : l.length ≤ 1000000000) (r : T × Int) (hr : r = addP t tk l) (hno : r.2 ≠ 0) :
    Calls Try.prog 30 #[.agg #[vn, ve], .agg #[.int .u64 tk, vi]] w (HandsTE w r) := by
  have HMY := hid (fun w' (h : Nw w w') => rmay_c vn ve t w' (hvn.nw h) (hve.nw h) hsm.s)
  have HID := hid (fun w' (h : Nw w w') => Rec.rids_c vi l t.names.length w' (hvi.nw h))
  obtain ⟨names, es⟩ := t
  have hle := hsm.e
  dsimp only at *
  obtain ⟨pn, kn, rfl, _, _, _, _⟩ := strs_open hvn
  obtain ⟨p, cap, rfl, hcap, hmx, _, hec⟩ := hve
  obtain ⟨q, c, rfl, hcq, hmq, _, _⟩ := i64s_open hvi
  have HE := hid hec
  unfold maxLen at hmx hmq
  clear hec hvn hsm
  go_enter Try.func30, Try.ntmps30
  go_upto_region 1 with fail
  obtain ⟨x0, x1, b0, b1, y4, hn, hsz⟩ := boxes3 w (.slice pn names.length kn) (.slice p es.length cap) (.int .u64 tk) (.slice q l.length c) (.slice none 0 0) (.slice none 0 0) 26 39 26
  generalize (((w.alloc (.cells #[.slice pn names.length kn, .slice p es.length cap] 26)).alloc (.cells #[.int .u64 tk, .slice q l.length c] 39)).alloc (.cells #[.slice none 0 0, .slice none 0 0] 26)) = w0 at *
  have hz0 : w.heap.size < w0.heap.size := by omega
  have hz1 : w.heap.size + 1 < w0.heap.size := by omega
  have hzr : w.heap.size + 1 + 1 < w0.heap.size := by omega
  have hw0 : Nw w0 w0 := Nw.refl _
  clear hsz
  unfold addP at hr
  by_cases hM : mayP ⟨names, es⟩ = true
  · rw [if_pos hM] at hr
    by_cases hr2 : rises l names.length = true
    · rw [if_pos hr2] at hr
      by_cases ht : es.length = 0 ∨ ¬ tk < tm es (es.length - 1)
      · rw [if_pos ht] at hr
        exact absurd (by rw [hr]) hno
      · rw [if_neg ht] at hr
        subst hr
        clear hno
        have hpos : 0 < es.length := by omega
        have hd2 : decide ((0 : Int) < es.length) = true := decide_eq_true (by omega)
        have hd2n : decide (0 < es.length) = true := decide_eq_true hpos
        obtain ⟨b7, o7, vj, rfl, d0, _, _⟩ := HE.out (es.length - 1) (by omega)
        have ek : ((es.length : Int) - 1).toNat = es.length - 1 := by omega
        have hd3 : decide (tk < tm es (es.length - 1)) = true := decide_eq_true (by omega)
        clear ht
        generalize tm es (es.length - 1) = tj at *
        go_upto_region 5 with (first
          | (go_at_call 40; refine (HMY.out _ (by repeat (first | assumption | exact Nw.refl _ | refine Nw.alloc ?_ _ | refine Nw.drew ?_ | refine Nw.drewN2 ?_ _ | (refine Nw.trans ?_ (by assumption))))).mono ?_; rintro e w1 ⟨rfl, hn1⟩; have x0 := hn1.cell x0; have x1 := hn1.cell x1; have b0 := hn1.cell b0; have b1 := hn1.cell b1; have hz0 := Nat.lt_of_lt_of_le hz0 hn1.size; have hz1 := Nat.lt_of_lt_of_le hz1 hn1.size; have hw0 := hw0.trans hn1; have y4 := hn1.heap y4; have dz0 := heap_cell y4 0; have dz1 := heap_cell y4 1; simp only [List.getElem?_toArray, List.getElem?_cons_succ, List.getElem?_cons_zero] at dz0 dz1; have fz0 := heap_frozen y4 0; have fz1 := heap_frozen y4 1)
          | (go_at_call 21; refine (HID.out _ (by repeat (first | assumption | exact Nw.refl _ | refine Nw.alloc ?_ _ | refine Nw.drew ?_ | refine Nw.drewN2 ?_ _ | (refine Nw.trans ?_ (by assumption))))).mono ?_; rintro e w1 ⟨rfl, hn1⟩; have x0 := hn1.cell x0; have x1 := hn1.cell x1; have b0 := hn1.cell b0; have b1 := hn1.cell b1; have hz0 := Nat.lt_of_lt_of_le hz0 hn1.size; have hz1 := Nat.lt_of_lt_of_le hz1 hn1.size; have hw0 := hw0.trans hn1; have y4 := hn1.heap y4; have dz0 := heap_cell y4 0; have dz1 := heap_cell y4 1; simp only [List.getElem?_toArray, List.getElem?_cons_succ, List.getElem?_cons_zero] at dz0 dz1; have fz0 := heap_frozen y4 0; have fz1 := heap_frozen y4 1)
          | fail)
        have d0 := (hn.trans hw0).cell d0
        have gd := World.block_lt_of_cell? w1 _ d0
        simp only at gd
        refine wp_region_stairs (by kernel_rfl) (by kernel_rfl) (by kernel_rfl) ?_
        iterate 19
          refine Stairs.is ?_ ?_ ?_
          rotate_left 1
          · intro x wR hR hd K hK
            simp only [Act.put, List.setIfInBounds_toArray, List.set_cons_zero, List.set_cons_succ, Nat.reduceAdd, List.length_nil, List.length_cons, List.nil_append, List.cons_append, Say.ok] at hK ⊢
            clear hd
            change Hid _ at hK
            obtain ⟨hcR, hfR, hzR⟩ := nwc hR
            first | (refine wanted_yes ?_ ?_; rfl) | (refine wanted_no ?_ ?_; rfl)
            go_wp2_with (first | fail)
            all_goals (refine hK.out _ _ ?_ ?_ <;> first | (solve | (repeat (first | assumption | exact Nw.refl _ | refine Nw.alloc ?_ _ | refine Nw.drew ?_ | refine Nw.drewN2 ?_ _ | (refine Nw.trans ?_ (by assumption))))) | exact rfl)
          try simp only [Act.put, List.setIfInBounds_toArray, List.set_cons_zero, List.set_cons_succ, Nat.reduceAdd, List.length_nil, List.length_cons, List.nil_append, List.cons_append]
        refine Stairs.nil ?_
        intro x wR hR hx
        clear hx
        obtain ⟨hcR, hfR, hzR⟩ := nwc hR
        have hw0 := hw0.trans hR
        have y4 := hR.heap y4
        have dz0 := heap_cell y4 0
        have dz1 := heap_cell y4 1
        simp only [List.getElem?_toArray, List.getElem?_cons_succ, List.getElem?_cons_zero] at dz0 dz1
        have fz0 := heap_frozen y4 0
        have fz1 := heap_frozen y4 1
        clear hcR hfR hzR
        go_wp2
        ((try simp only [Exit.inBlock, Exit.then]); refine bodyPost_ret (results_cell2 rfl _ _ _ _ _ _ _ rfl (heap_set (heap_set y4 0 (.slice none 0 0)) 1 (.slice none 0 0)) Try.underlying26 rfl (by kernel_rfl)) rfl ?_)
        exact ⟨_, rfl, TrR.none_ _, ((hn.trans hw0).setCell (p := ⟨w.heap.size + 1 + 1, 0, none⟩) (show w.heap.size ≤ w.heap.size + 1 + 1 by omega) _).setCell (p := ⟨w.heap.size + 1 + 1, 1, none⟩) (show w.heap.size ≤ w.heap.size + 1 + 1 by omega) _⟩
    · rw [if_neg hr2] at hr
      subst hr
      rw [Bool.not_eq_true] at hr2
      clear hno
      go_wp2_with (first
        | (go_at_call 40; refine (HMY.out _ (by repeat (first | assumption | exact Nw.refl _ | refine Nw.alloc ?_ _ | refine Nw.drew ?_ | refine Nw.drewN2 ?_ _ | (refine Nw.trans ?_ (by assumption))))).mono ?_; rintro e w1 ⟨rfl, hn1⟩; have x0 := hn1.cell x0; have x1 := hn1.cell x1; have b0 := hn1.cell b0; have b1 := hn1.cell b1; have hz0 := Nat.lt_of_lt_of_le hz0 hn1.size; have hz1 := Nat.lt_of_lt_of_le hz1 hn1.size; have hw0 := hw0.trans hn1; have y4 := hn1.heap y4; have dz0 := heap_cell y4 0; have dz1 := heap_cell y4 1; simp only [List.getElem?_toArray, List.getElem?_cons_succ, List.getElem?_cons_zero] at dz0 dz1; have fz0 := heap_frozen y4 0; have fz1 := heap_frozen y4 1)
        | (go_at_call 21; refine (HID.out _ (by repeat (first | assumption | exact Nw.refl _ | refine Nw.alloc ?_ _ | refine Nw.drew ?_ | refine Nw.drewN2 ?_ _ | (refine Nw.trans ?_ (by assumption))))).mono ?_; rintro e w1 ⟨rfl, hn1⟩; have x0 := hn1.cell x0; have x1 := hn1.cell x1; have b0 := hn1.cell b0; have b1 := hn1.cell b1; have hz0 := Nat.lt_of_lt_of_le hz0 hn1.size; have hz1 := Nat.lt_of_lt_of_le hz1 hn1.size; have hw0 := hw0.trans hn1; have y4 := hn1.heap y4; have dz0 := heap_cell y4 0; have dz1 := heap_cell y4 1; simp only [List.getElem?_toArray, List.getElem?_cons_succ, List.getElem?_cons_zero] at dz0 dz1; have fz0 := heap_frozen y4 0; have fz1 := heap_frozen y4 1)
        | fail)
      ((try simp only [Exit.inBlock, Exit.then]); refine bodyPost_ret (results_cell2 rfl _ _ _ _ _ _ _ rfl (heap_set (heap_set y4 0 (.slice none 0 0)) 1 (.slice none 0 0)) Try.underlying26 rfl (by kernel_rfl)) rfl ?_)
      exact ⟨_, rfl, TrR.none_ _, ((hn.trans hw0).setCell (p := ⟨w.heap.size + 1 + 1, 0, none⟩) (show w.heap.size ≤ w.heap.size + 1 + 1 by omega) _).setCell (p := ⟨w.heap.size + 1 + 1, 1, none⟩) (show w.heap.size ≤ w.heap.size + 1 + 1 by omega) _⟩
  · rw [if_neg hM] at hr
    subst hr
    rw [Bool.not_eq_true] at hM
    clear hno
    go_wp2_with (first
      | (go_at_call 40; refine (HMY.out _ (by repeat (first | assumption | exact Nw.refl _ | refine Nw.alloc ?_ _ | refine Nw.drew ?_ | refine Nw.drewN2 ?_ _ | (refine Nw.trans ?_ (by assumption))))).mono ?_; rintro e w1 ⟨rfl, hn1⟩; have x0 := hn1.cell x0; have x1 := hn1.cell x1; have b0 := hn1.cell b0; have b1 := hn1.cell b1; have hz0 := Nat.lt_of_lt_of_le hz0 hn1.size; have hz1 := Nat.lt_of_lt_of_le hz1 hn1.size; have hw0 := hw0.trans hn1; have y4 := hn1.heap y4; have dz0 := heap_cell y4 0; have dz1 := heap_cell y4 1; simp only [List.getElem?_toArray, List.getElem?_cons_succ, List.getElem?_cons_zero] at dz0 dz1; have fz0 := heap_frozen y4 0; have fz1 := heap_frozen y4 1)
      | (go_at_call 21; refine (HID.out _ (by repeat (first | assumption | exact Nw.refl _ | refine Nw.alloc ?_ _ | refine Nw.drew ?_ | refine Nw.drewN2 ?_ _ | (refine Nw.trans ?_ (by assumption))))).mono ?_; rintro e w1 ⟨rfl, hn1⟩; have x0 := hn1.cell x0; have x1 := hn1.cell x1; have b0 := hn1.cell b0; have b1 := hn1.cell b1; have hz0 := Nat.lt_of_lt_of_le hz0 hn1.size; have hz1 := Nat.lt_of_lt_of_le hz1 hn1.size; have hw0 := hw0.trans hn1; have y4 := hn1.heap y4; have dz0 := heap_cell y4 0; have dz1 := heap_cell y4 1; simp only [List.getElem?_toArray, List.getElem?_cons_succ, List.getElem?_cons_zero] at dz0 dz1; have fz0 := heap_frozen y4 0; have fz1 := heap_frozen y4 1)
      | fail)
    ((try simp only [Exit.inBlock, Exit.then]); refine bodyPost_ret (results_cell2 rfl _ _ _ _ _ _ _ rfl (heap_set (heap_set y4 0 (.slice none 0 0)) 1 (.slice none 0 0)) Try.underlying26 rfl (by kernel_rfl)) rfl ?_)
    exact ⟨_, rfl, TrR.none_ _, ((hn.trans hw0).setCell (p := ⟨w.heap.size + 1 + 1, 0, none⟩) (show w.heap.size ≤ w.heap.size + 1 + 1 by omega) _).setCell (p := ⟨w.heap.size + 1 + 1, 1, none⟩) (show w.heap.size ≤ w.heap.size + 1 + 1 by omega) _⟩

theorem addP_ok {t : T} {tk : Int} {l : List Int} (h : (addP t tk l).2 = 0) : mayP t = true ∧ rises l t.names.length = true ∧ (t.evs.length = 0 ∨ ¬ tk < tm t.evs (t.evs.length - 1)) ∧ addP t tk l = (⟨t.names, t.evs ++ [(tk, l)]⟩, 0) := by
  unfold addP at *
  by_cases h1 : mayP t = true
  · rw [if_pos h1] at *
    by_cases h2 : rises l t.names.length = true
    · rw [if_pos h2] at *
      by_cases h3 : t.evs.length = 0 ∨ ¬ tk < tm t.evs (t.evs.length - 1)
      · rw [if_pos h3] at *
        exact ⟨h1, h2, h3, rfl⟩
      · rw [if_neg h3] at h; exact absurd h (by decide)
    · rw [if_neg h2] at h; exact absurd h (by decide)
  · rw [if_neg h1] at h; exact absurd h (by decide)
theorem add_c (vn ve vi : Value) (t : T) (tk : Int) (l : List Int) (w : World) (hvn : Sl w vn (Lx.strs t.names)) (hve : Evs w ve t.evs) (hvi : Sl w vi (i64s l)) (hsm : Small t) (hll : l.length ≤ 1000000000) :
    Calls Try.prog 29 #[.agg #[vn, ve], .agg #[.int .u64 tk, vi]] w (HandsTE w (addP t tk l)) := by
  by_cases h : (addP t tk l).2 = 0
  · obtain ⟨h1, h2, h3, h4⟩ := addP_ok h
    rw [h4]
    exact add_ok vn ve vi t tk l w hvn hve hvi hsm hll h1 h2 h3
  · exact add_no vn ve vi t tk l w hvn hve hvi hsm hll _ rfl h

end Tr
end Go.Proofs.Ytjelbfodkacipaa
