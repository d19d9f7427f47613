/- The contracts of Cut and Holds, both of each. No condition but lengths. -/
import Derived.Test.YtjelbfodkacipaaTrG
set_option linter.unusedSimpArgs false
set_option linter.unusedVariables false
namespace Go.Proofs.Ytjelbfodkacipaa
open Go.ChangeShapes Go.WideShapes Go.ChangeAt Go.RowKit
namespace Tr
open Go.Proofs.Ytjelbfodkacipaa.Lx (isIn nameB strs_open strs_cell contains_c)
open Go.Proofs.Ytjelbfodkacipaa.Rec (rises i64s_open i64_cell)
/-! ### Cut -/
def clampN (n : Int) (len : Nat) : Nat := (min (max n 0) (len : Int)).toNat
def cutP (t : T) (n : Int) : T := if mayP t = true then ⟨t.names, t.evs.take (clampN n t.evs.length)⟩ else none_
theorem clamp_le (n : Int) (len : Nat) : clampN n len ≤ len := by unfold clampN; omega
theorem clamp_is (n : Int) (len : Nat) : (if (len : Int) < (if n < 0 then 0 else n) then (len : Int) else if n < 0 then 0 else n) = (clampN n len : Int) := by
  unfold clampN
  split <;> split <;> omega
theorem Evs.set2 {w : World} {g j : Nat} {v x : Value} {es : Es} {a b : Value} {e : TypeId} {fr : Nat × Nat} (h : Evs w v es) (hg : w.heap[g]? = some (.cells #[a, b] e fr)) (ha : ∀ k z, Value.int k z ≠ a) (hb : ∀ k z, Value.int k z ≠ b) : Evs (w.setCell ⟨g, j, none⟩ x) v es := by
  have hm : Mods (fun k => k = g) w (w.setCell ⟨g, j, none⟩ x) := Mods.setCell (Mods.refl (fun k => k = g) w) (p := ⟨g, j, none⟩) rfl x
  obtain ⟨p, cap, rfl, h1, h2, h3, h4⟩ := h
  refine ⟨p, cap, rfl, h1, h2, h3, fun i hi => ?_⟩
  obtain ⟨b1, o1, vi, e1, c0, c1, hs⟩ := h4 i hi
  have hlt := World.block_lt_of_cell? w _ c0
  have hne : ¬ b1 = g := by
    rintro rfl
    rw [heap_cell hg] at c0
    generalize o1 + i * 2 = n at c0
    match n, c0 with
    | 0, c0 => simp at c0; exact ha _ _ c0.symm
    | 1, c0 => simp at c0; exact hb _ _ c0.symm
    | n + 2, c0 => simp at c0
  have hb2 := hm.block b1 hlt hne
  exact ⟨b1, o1, vi, e1, (World.cell?_of_block (a := ⟨b1, _, none⟩) hb2).trans c0, (World.cell?_of_block (a := ⟨b1, _, none⟩) hb2).trans c1, Sl.set2 hs hg (i64s_not (ha .i64) (hb .i64))⟩
set_option maxHeartbeats 800000 in
theorem cut_c (vn ve : Value) (t : T) (n : Int) (w : World) (hvn : Sl w vn (Lx.strs t.names)) (hve : Evs w ve t.evs) (hsm : Small t) (hn1 : -9223372036854775808 ≤ n) (hn2 : n ≤ 9223372036854775807) :
    Calls Try.prog 25 #[.agg #[vn, ve], .int .i64 n] w (HandsT w (cutP t n)) := by
  have HC := hid (fun w' (h : Nw w w') => copied_c vn ve t (clampN n t.evs.length) w' (hvn.nw h) (hve.nw h) (clamp_le _ _) hsm)
  have HM := hid (fun w' (h : Nw w w') => may_c vn ve t w' (hvn.nw h) (hve.nw h) hsm.s)
  have HX := hid (clamp_is n t.evs.length)
  have HW := hid (show mayP t = true → cutP t n = ⟨t.names, t.evs.take (clampN n t.evs.length)⟩ from fun h => if_pos h)
  have HV := hid (show ¬ mayP t = true → cutP t n = none_ from fun h => if_neg h)
  have HLE := hid (clamp_le n t.evs.length)
  obtain ⟨pn, capn, rfl, hcapn, hmxn, _, hcn⟩ := strs_open hvn
  have hve2 := hve
  obtain ⟨p, cap, rfl, hcap, hmx, hp0, hec⟩ := hve
  have HE := hid hec
  have hle := hsm.e
  have hmx' := hmx
  unfold maxLen at hmxn hmx
  generalize clampN n t.evs.length = m at *
  have hm := HLE.out
  have HK := hid (show (t.evs.take m).length = m by rw [List.length_take]; omega)
  clear hec hcn hsm
  go_enter Try.func25, Try.ntmps25
  go_upto_region 1 with fail
  obtain ⟨x0, x1, y4, hn, hz4⟩ := boxes w (.slice pn t.names.length capn) (.slice p t.evs.length cap) (.slice none 0 0) (.slice none 0 0) 26 26
  generalize ((w.alloc (.cells #[.slice pn t.names.length capn, .slice p t.evs.length cap] 26)).alloc (.cells #[.slice none 0 0, .slice none 0 0] 26)) = w0 at *
  have hz0 : w.heap.size < w0.heap.size := by omega
  by_cases hM : mayP t = true
  · have HW' := hid (HW.out hM)
    go_wp2_with (first
      | (go_at_call 24; refine (HM.out _ (by repeat (first | assumption | exact Nw.refl _ | refine Nw.alloc ?_ _ | refine Nw.drew ?_ | refine Nw.drewN2 ?_ _ | (refine Nw.trans ?_ (by assumption))))).mono ?_; rintro e w1 ⟨rfl, hn1⟩; have x0 := hn1.cell x0; have x1 := hn1.cell x1; have hz1 : w.heap.size < w1.heap.size := Nat.lt_of_lt_of_le hz0 hn1.size; have y4r := hn1.heap y4; have d0 := heap_cell y4r 0; have d1 := heap_cell y4r 1; simp only [List.getElem?_toArray, List.getElem?_cons_succ, List.getElem?_cons_zero] at d0 d1; have f0 := heap_frozen y4r 0; have f1 := heap_frozen y4r 1)
      | (go_at_call 49; rw [HX.out]; generalize (if n < 0 then (0 : Int) else n) = mx; refine (HC.out _ (by repeat (first | assumption | exact Nw.refl _ | refine Nw.alloc ?_ _ | refine Nw.drew ?_ | refine Nw.drewN2 ?_ _ | (refine Nw.trans ?_ (by assumption))))).mono ?_; rintro e w2 ⟨v2, rfl, ⟨vn2, ve2, rfl, hs2, he2⟩, hn2⟩; obtain ⟨pn2, cn2, rfl, _, _, _, _⟩ := strs_open hs2; have he2' := he2; obtain ⟨pe2, ce2, e9, _, _, _, _⟩ := he2; rw [show (T.evs ⟨t.names, t.evs.take m⟩).length = m from HK.out] at e9; subst e9; have y4r := hn2.heap y4r; have d0 := heap_cell y4r 0; have d1 := heap_cell y4r 1; simp only [List.getElem?_toArray, List.getElem?_cons_succ, List.getElem?_cons_zero] at d0 d1; have f0 := heap_frozen y4r 0; have f1 := heap_frozen y4r 1)
      | fail)
    rw [HW'.out]
    ((try simp only [Exit.inBlock, Exit.then]); refine bodyPost_ret (results_cell_row rfl _ _ _ _ _ _ _ rfl (heap_set (heap_set y4r 0 _) 1 _) Try.underlying26 rfl (by kernel_rfl)) rfl ?_)
    refine ⟨_, rfl, ⟨_, _, rfl, ?_, ?_⟩, ?_⟩
    · exact Sl.set2 (Sl.set2 hs2 y4r strs_not) (heap_set y4r 0 _) strs_not
    · exact Evs.set2 (a := .slice pn2 t.names.length cn2) (b := .slice none 0 0) (Evs.set2 he2' y4r (fun _ _ => nofun) (fun _ _ => nofun)) (heap_set y4r 0 _) (fun _ _ => nofun) (fun _ _ => nofun)
    · exact ((hn.trans (hn1.trans hn2)).setCell (p := ⟨w.heap.size + 1, 0, none⟩) (by simp) _).setCell (p := ⟨w.heap.size + 1, 1, none⟩) (by simp) _
  · have HV' := hid (HV.out hM)
    rw [Bool.not_eq_true] at hM
    go_wp2_with (first
      | (go_at_call 24; refine (HM.out _ (by repeat (first | assumption | exact Nw.refl _ | refine Nw.alloc ?_ _ | refine Nw.drew ?_ | refine Nw.drewN2 ?_ _ | (refine Nw.trans ?_ (by assumption))))).mono ?_; rintro e w1 ⟨rfl, hn1⟩; have x0 := hn1.cell x0; have x1 := hn1.cell x1; have hz1 : w.heap.size < w1.heap.size := Nat.lt_of_lt_of_le hz0 hn1.size; have y4r := hn1.heap y4; have d0 := heap_cell y4r 0; have d1 := heap_cell y4r 1; simp only [List.getElem?_toArray, List.getElem?_cons_succ, List.getElem?_cons_zero] at d0 d1; have f0 := heap_frozen y4r 0; have f1 := heap_frozen y4r 1)
      | fail)
    ((try simp only [Exit.inBlock, Exit.then]); refine bodyPost_ret (results_cell_row rfl _ _ _ _ _ _ _ rfl (heap_set (heap_set y4r 0 (.slice none 0 0)) 1 (.slice none 0 0)) Try.underlying26 rfl (by kernel_rfl)) rfl ?_)
    rw [HV'.out]
    exact ⟨_, rfl, TrR.none_ _, ((hn.trans hn1).setCell (p := ⟨w.heap.size + 1, 0, none⟩) (by simp) _).setCell (p := ⟨w.heap.size + 1, 1, none⟩) (by simp) _⟩
set_option maxRecDepth 20000 in
set_option maxHeartbeats 800000 in
theorem rcut_c (vn ve : Value) (t : T) (n : Int) (w : World) (hvn : Sl w vn (Lx.strs t.names)) (hve : Evs w ve t.evs) (hsm : Small t) (hn1 : -9223372036854775808 ≤ n) (hn2 : n ≤ 9223372036854775807) :
    Calls Try.prog 42 #[.agg #[vn, ve], .int .i64 n] w (HandsT w (cutP t n)) := by
  have HM := hid (fun w' (h : Nw w w') => rmay_c vn ve t w' (hvn.nw h) (hve.nw h) hsm.s)
  have HX := hid (clamp_is n t.evs.length)
  have HW := hid (show mayP t = true → cutP t n = ⟨t.names, t.evs.take (clampN n t.evs.length)⟩ from fun h => if_pos h)
  have HV := hid (show ¬ mayP t = true → cutP t n = none_ from fun h => if_neg h)
  have HLE := hid (clamp_le n t.evs.length)
  obtain ⟨pn, capn, rfl, hcapn, hmxn, _, hcn⟩ := strs_open hvn
  have hve2 := hve
  obtain ⟨p, cap, rfl, hcap, hmx, hp0, hec⟩ := hve
  have HE := hid hec
  have hle := hsm.e
  have hmx' := hmx
  unfold maxLen at hmxn hmx
  generalize clampN n t.evs.length = m at *
  have hm := HLE.out
  have HK := hid (show (t.evs.take m).length = m by rw [List.length_take]; omega)
  clear hec hcn hsm
  go_enter Try.func42, Try.ntmps42
  go_upto_region 1 with fail
  obtain ⟨x0, x1, y4, hn, hz4⟩ := boxes w (.slice pn t.names.length capn) (.slice p t.evs.length cap) (.slice none 0 0) (.slice none 0 0) 26 26
  generalize ((w.alloc (.cells #[.slice pn t.names.length capn, .slice p t.evs.length cap] 26)).alloc (.cells #[.slice none 0 0, .slice none 0 0] 26)) = w0 at *
  have hz0 : w.heap.size < w0.heap.size := by omega
  by_cases hM : mayP t = true
  · have HW' := hid (HW.out hM)
    go_upto_region 4 with (first
      | (go_at_call 40; refine (HM.out _ (by repeat (first | assumption | exact Nw.refl _ | refine Nw.alloc ?_ _ | refine Nw.drew ?_ | refine Nw.drewN2 ?_ _ | (refine Nw.trans ?_ (by assumption))))).mono ?_; rintro e w1 ⟨rfl, hn1⟩; have x0 := hn1.cell x0; have x1 := hn1.cell x1; have hz1 : w.heap.size < w1.heap.size := Nat.lt_of_lt_of_le hz0 hn1.size; have y4r := hn1.heap y4; have d0 := heap_cell y4r 0; have d1 := heap_cell y4r 1; simp only [List.getElem?_toArray, List.getElem?_cons_succ, List.getElem?_cons_zero] at d0 d1; have f0 := heap_frozen y4r 0; have f1 := heap_frozen y4r 1)
      | fail)
    rw [HX.out]
    generalize (if n < 0 then (0 : Int) else n) = mx
    refine wp_region_end rfl (by kernel_rfl) (by kernel_rfl) (by kernel_rfl) (by kernel_rfl) (by kernel_rfl) ?_
    dsimp only [List.dropLast]
    iterate 7
      refine Stairs.is ?_ ?_ ?_
      rotate_left 1
      · intro x wR hR hd K hK
        simp only [Act.put, List.setIfInBounds_toArray, List.set_cons_zero, List.set_cons_succ, Nat.reduceAdd, List.length_nil, List.length_cons, List.nil_append, List.cons_append, Say.ok] at hK ⊢
        clear hd
        change Hid _ at hK
        obtain ⟨hcR, hfR, hzR⟩ := nwc hR
        first | (refine wanted_yes ?_ ?_; rfl) | (refine wanted_no ?_ ?_; rfl)
        go_wp2_with (first | fail)
        all_goals (refine hK.out _ _ ?_ ?_ <;> first | (solve | (repeat (first | assumption | exact Nw.refl _ | refine Nw.alloc ?_ _ | refine Nw.drew ?_ | refine Nw.drewN2 ?_ _ | (refine Nw.trans ?_ (by assumption))))) | exact rfl)
      try simp only [Act.put, List.setIfInBounds_toArray, List.set_cons_zero, List.set_cons_succ, Nat.reduceAdd, List.length_nil, List.length_cons, List.nil_append, List.cons_append]
    refine Stairs.nil ?_
    intro x wR hR hx
    clear hx
    obtain ⟨hcR, hfR, hzR⟩ := nwc hR
    try dsimp only
    have x0 := hR.cell x0
    have x1 := hR.cell x1
    have y4r := hR.heap y4r
    have d0 := heap_cell y4r 0
    have d1 := heap_cell y4r 1
    simp only [List.getElem?_toArray, List.getElem?_cons_succ, List.getElem?_cons_zero] at d0 d1
    have f0 := heap_frozen y4r 0
    have f1 := heap_frozen y4r 1
    go_wp2
    rw [HW'.out]
    have hk : m = (t.evs.take m).length := by rw [List.length_take]; omega
    have hs2 : Sl wR (.slice pn t.names.length capn) (Lx.strs t.names) := hvn.nw (hn.trans (hn1.trans hR))
    have he2 := Evs.cut m m hk hcap hmx' hp0 (HE.out.nw (hn.trans (hn1.trans hR)))
    ((try simp only [Exit.inBlock, Exit.then]); refine bodyPost_ret (results_cell_row rfl _ _ _ _ _ _ _ rfl (heap_set (heap_set y4r 0 _) 1 _) Try.underlying26 rfl (by kernel_rfl)) rfl ?_)
    refine ⟨_, rfl, ⟨_, _, rfl, ?_, ?_⟩, ?_⟩
    · exact Sl.set2 (Sl.set2 hs2 y4r strs_not) (heap_set y4r 0 _) strs_not
    · exact Evs.set2 (a := .slice pn t.names.length capn) (b := .slice none 0 0) (Evs.set2 he2 y4r (fun _ _ => nofun) (fun _ _ => nofun)) (heap_set y4r 0 _) (fun _ _ => nofun) (fun _ _ => nofun)
    · exact ((hn.trans (hn1.trans hR)).setCell (p := ⟨w.heap.size + 1, 0, none⟩) (by simp) _).setCell (p := ⟨w.heap.size + 1, 1, none⟩) (by simp) _
  · have HV' := hid (HV.out hM)
    rw [Bool.not_eq_true] at hM
    go_wp2_with (first
      | (go_at_call 40; refine (HM.out _ (by repeat (first | assumption | exact Nw.refl _ | refine Nw.alloc ?_ _ | refine Nw.drew ?_ | refine Nw.drewN2 ?_ _ | (refine Nw.trans ?_ (by assumption))))).mono ?_; rintro e w1 ⟨rfl, hn1⟩; have x0 := hn1.cell x0; have x1 := hn1.cell x1; have hz1 : w.heap.size < w1.heap.size := Nat.lt_of_lt_of_le hz0 hn1.size; have y4r := hn1.heap y4; have d0 := heap_cell y4r 0; have d1 := heap_cell y4r 1; simp only [List.getElem?_toArray, List.getElem?_cons_succ, List.getElem?_cons_zero] at d0 d1; have f0 := heap_frozen y4r 0; have f1 := heap_frozen y4r 1)
      | fail)
    ((try simp only [Exit.inBlock, Exit.then]); refine bodyPost_ret (results_cell_row rfl _ _ _ _ _ _ _ rfl (heap_set (heap_set y4r 0 (.slice none 0 0)) 1 (.slice none 0 0)) Try.underlying26 rfl (by kernel_rfl)) rfl ?_)
    rw [HV'.out]
    exact ⟨_, rfl, TrR.none_ _, ((hn.trans hn1).setCell (p := ⟨w.heap.size + 1, 0, none⟩) (by simp) _).setCell (p := ⟨w.heap.size + 1, 1, none⟩) (by simp) _⟩
end Tr
end Go.Proofs.Ytjelbfodkacipaa
