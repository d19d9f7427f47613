/- The contract of watchglassref8.Add, whole. No condition but lengths. -/
import Derived.Test.YtjelbfodkacipaaTrT
import Derived.Test.YtjelbfodkacipaaSeqF
set_option linter.unusedSimpArgs false
set_option linter.unusedVariables false
namespace Go.Proofs.Ytjelbfodkacipaa
open Go.ChangeShapes Go.WideShapes Go.ChangeAt Go.RowKit
namespace Tr
open Go.Proofs.Ytjelbfodkacipaa.Lx (isIn nameB strs_open strs_cell contains_c)
open Go.Proofs.Ytjelbfodkacipaa.Rec (rises i64s_open i64_cell)
set_option maxRecDepth 20000 in
set_option maxHeartbeats 3200000 in
theorem radd_ok (vn ve vi : Value) (t : T) (tk : Int) (l : List Int) (w : World) (hvn : Sl w vn (Lx.strs t.names)) (hve : Evs w ve t.evs) (hvi : Sl w vi (i64s l)) (hsm : Small t) (hll : l.length ≤ 1000000000) (hM : mayP t = true) (hr : rises l t.names.length = true) (ht : t.evs.length = 0 ∨ ¬ tk < tm t.evs (t.evs.length - 1)) :
    Calls Try.prog 30 #[.agg #[vn, ve], .agg #[.int .u64 tk, vi]] w (HandsTE w (⟨t.names, t.evs ++ [(tk, l)]⟩, 0)) := by
  have HMY := hid (fun w' (h : Nw w w') => show Calls Try.prog 40 #[.agg #[vn, ve]] w' (Gives (.bool true) w') by
    have := rmay_c vn ve t w' (hvn.nw h) (hve.nw h) hsm.s
    rwa [hM] at this)
  have HID := hid (fun w' (h : Nw w w') => show Calls Try.prog 21 #[vi, .int .i64 (t.names.length : Int)] w' (Gives (.bool true) w') by
    have := Rec.rids_c vi l t.names.length w' (hvi.nw h)
    rwa [hr] at this)
  obtain ⟨names, es⟩ := t
  have hle := hsm.e
  dsimp only at *
  obtain ⟨pn, kn, rfl, _, _, _, _⟩ := strs_open hvn
  obtain ⟨p, cap, rfl, hcap, hmx, _, hec⟩ := hve
  obtain ⟨q, c, rfl, hcq, hmq, _, _⟩ := i64s_open hvi
  have HE := hid hec
  unfold maxLen at hmx hmq
  clear hec hsm hM hr
  go_enter Try.func30, Try.ntmps30
  go_upto_region 1 with fail
  obtain ⟨x0, x1, b0, b1, y4, hn, hsz⟩ := boxes3 w (.slice pn names.length kn) (.slice p es.length cap) (.int .u64 tk) (.slice q l.length c) (.slice none 0 0) (.slice none 0 0) 26 39 26
  generalize (((w.alloc (.cells #[.slice pn names.length kn, .slice p es.length cap] 26)).alloc (.cells #[.int .u64 tk, .slice q l.length c] 39)).alloc (.cells #[.slice none 0 0, .slice none 0 0] 26)) = w0 at *
  have hz0 : w.heap.size < w0.heap.size := by omega
  have hz1 : w.heap.size + 1 < w0.heap.size := by omega
  have hzr : w.heap.size + 1 + 1 < w0.heap.size := by omega
  have hw0 : Nw w0 w0 := Nw.refl _
  clear hsz
  by_cases hpos : 0 < es.length
  · have hd2 : decide ((0 : Int) < es.length) = true := decide_eq_true (by omega)
    have hd2n : decide (0 < es.length) = true := decide_eq_true hpos
    obtain ⟨b7, o7, vj, rfl, d0, _, _⟩ := HE.out (es.length - 1) (by omega)
    have ek : ((es.length : Int) - 1).toNat = es.length - 1 := by omega
    have hd3 : decide (tk < tm es (es.length - 1)) = false := decide_eq_false (by rcases ht with h | h; omega; exact h)
    clear ht
    generalize tm es (es.length - 1) = tj at *
    go_upto_region 5 with (first
      | (go_at_call 40; refine (HMY.out _ (by repeat (first | assumption | exact Nw.refl _ | refine Nw.alloc ?_ _ | refine Nw.drew ?_ | refine Nw.drewN2 ?_ _ | (refine Nw.trans ?_ (by assumption))))).mono ?_; rintro e w1 ⟨rfl, hn1⟩; have x0 := hn1.cell x0; have x1 := hn1.cell x1; have b0 := hn1.cell b0; have b1 := hn1.cell b1; have hz0 := Nat.lt_of_lt_of_le hz0 hn1.size; have hz1 := Nat.lt_of_lt_of_le hz1 hn1.size; have hw0 := hw0.trans hn1)
      | (go_at_call 21; refine (HID.out _ (by repeat (first | assumption | exact Nw.refl _ | refine Nw.alloc ?_ _ | refine Nw.drew ?_ | refine Nw.drewN2 ?_ _ | (refine Nw.trans ?_ (by assumption))))).mono ?_; rintro e w1 ⟨rfl, hn1⟩; have x0 := hn1.cell x0; have x1 := hn1.cell x1; have b0 := hn1.cell b0; have b1 := hn1.cell b1; have hz0 := Nat.lt_of_lt_of_le hz0 hn1.size; have hz1 := Nat.lt_of_lt_of_le hz1 hn1.size; have hw0 := hw0.trans hn1)
      | fail)
    have d0 := (hn.trans hw0).cell d0
    have gd := World.block_lt_of_cell? w1 _ d0
    simp only at gd
    refine wp_region_stairs (by kernel_rfl) (by kernel_rfl) (by kernel_rfl) ?_
    iterate 19
      refine Stairs.is ?_ ?_ ?_
      rotate_left 1
      · intro x wR hR hd K hK
        simp only [Act.put, List.setIfInBounds_toArray, List.set_cons_zero, List.set_cons_succ, Nat.reduceAdd, List.length_nil, List.length_cons, List.nil_append, List.cons_append, Say.ok] at hK ⊢
        clear hd
        change Hid _ at hK
        obtain ⟨hcR, hfR, hzR⟩ := nwc hR
        first | (refine wanted_yes ?_ ?_; rfl) | (refine wanted_no ?_ ?_; rfl)
        go_wp2_with (first | fail)
        all_goals (refine hK.out _ _ ?_ ?_ <;> first | (solve | (repeat (first | assumption | exact Nw.refl _ | refine Nw.alloc ?_ _ | refine Nw.drew ?_ | refine Nw.drewN2 ?_ _ | (refine Nw.trans ?_ (by assumption))))) | exact rfl)
      try simp only [Act.put, List.setIfInBounds_toArray, List.set_cons_zero, List.set_cons_succ, Nat.reduceAdd, List.length_nil, List.length_cons, List.nil_append, List.cons_append]
    refine Stairs.nil ?_
    intro x wR hR hx
    clear hx
    obtain ⟨hcR, hfR, hzR⟩ := nwc hR
    have x0 := hR.cell x0
    have x1 := hR.cell x1
    have b0 := hR.cell b0
    have b1 := hR.cell b1
    have hz0 := Nat.lt_of_lt_of_le hz0 hR.size
    have hz1 := Nat.lt_of_lt_of_le hz1 hR.size
    have hw0 := hw0.trans hR
    go_upto_region 7 with fail
    obtain ⟨wz, hwz0⟩ : ∃ x, x = wR := ⟨_, rfl⟩
    rw [← hwz0] at x0 x1 b0 b1 hz0 hz1 hw0 ⊢
    clear hwz0
    have hBZ : w.heap.size + 1 + 1 < wz.heap.size := by have := hw0.size; omega
    have y4z := hw0.heap y4
    have HVZ := hid (hvi.nw (hn.trans hw0))
    have HVN := hid (hvn.nw (hn.trans hw0))
    obtain ⟨vs, hvl, hce, hids⟩ := (HE.out.nw (hn.trans hw0)).cells
    have st2 := Row0S.stab wz.heap.size
    have st5 := RowS.stab wz.heap.size es
    have st7 := OneV.stab wz.heap.size tk (.slice q l.length c)
    refine wp_region_free 8 [.pointer (some ⟨w.heap.size, 0, none⟩), .slice pn names.length kn] (by kernel_rfl) (by kernel_rfl) (by kernel_rfl) (by kernel_rfl) (by kernel_rfl) ?_
    dsimp only [List.take, List.drop, List.length_cons, List.length_nil, Nat.reduceAdd]
    iterate 2
      refine StairsC.step ?_ ?_
      · intro x wR hR hd K hK
        simp only [Act.put, List.setIfInBounds_toArray, List.set_cons_zero, List.set_cons_succ, Say.ok] at hK ⊢
        clear hd
        change Hid _ at hK
        obtain ⟨hcR, hfR, hzR⟩ := nwc hR
        first | (refine wanted_yes ?_ ?_; rfl) | (refine wanted_no ?_ ?_; rfl)
        go_wp2_with (first | fail)
        all_goals (refine hK.out _ _ ?_ ?_ <;> first | (solve | (repeat (first | assumption | exact Nw.refl _ | refine Nw.alloc ?_ _ | refine Nw.drew ?_ | refine Nw.drewN2 ?_ _ | (refine Nw.trans ?_ (by assumption))))) | exact rfl)
      try simp only [Act.put, List.setIfInBounds_toArray, List.set_cons_zero, List.set_cons_succ]
    refine StairsC.start ?_
    try simp only [List.nil_append, List.cons_append]
    iterate 1
      refine Stairs.that (Row0S wz.heap.size) (by first | assumption | simp) ?_ ?_
      · intro x wR hR hd K hK
        simp only [Act.put, List.setIfInBounds_toArray, List.set_cons_zero, List.set_cons_succ, Say.ok] at hK ⊢
        clear hd
        change Hid _ at hK
        obtain ⟨hcR, hfR, hzR⟩ := nwc hR
        first | (refine wanted_yes ?_ ?_; rfl) | (refine wanted_no ?_ ?_; rfl)
        go_wp2_with (first | fail)
        all_goals (refine hK.out _ _ ?_ ?_ <;> first | (solve | (repeat (first | assumption | exact Nw.refl _ | refine Nw.alloc ?_ _ | refine Nw.drew ?_ | refine Nw.drewN2 ?_ _ | (refine Nw.trans ?_ (by assumption))))) | exact rfl | exact row0_new _ _ hR.size)
      try simp only [Act.put, List.setIfInBounds_toArray, List.set_cons_zero, List.set_cons_succ, List.length_nil, List.length_cons, List.nil_append, List.cons_append, Nat.reduceAdd]
    iterate 2
      refine Stairs.is ?_ ?_ ?_
      rotate_left 1
      · intro x wR hR hd K hK
        simp only [Act.put, List.setIfInBounds_toArray, List.set_cons_zero, List.set_cons_succ, Say.ok] at hK ⊢
        try simp [Region.binds, sayAt, Say.ok] at hd
        change Hid _ at hK
        obtain ⟨hcR, hfR, hzR⟩ := nwc hR
        first | (refine wanted_yes ?_ ?_; rfl) | (refine wanted_no ?_ ?_; rfl)
        go_wp2_with (first | fail)
        all_goals (refine hK.out _ _ ?_ ?_ <;> first | (solve | (repeat (first | assumption | exact Nw.refl _ | refine Nw.alloc ?_ _ | refine Nw.drew ?_ | refine Nw.drewN2 ?_ _ | (refine Nw.trans ?_ (by assumption))))) | exact rfl)
      try simp only [Act.put, List.setIfInBounds_toArray, List.set_cons_zero, List.set_cons_succ]
    iterate 1
      refine Stairs.that (RowS wz.heap.size es) (by first | assumption | simp) ?_ ?_
      · intro x wR hR hd K hK
        simp only [Act.put, List.setIfInBounds_toArray, List.set_cons_zero, List.set_cons_succ, Say.ok] at hK ⊢
        try simp [Region.binds, sayAt, Say.ok] at hd
        change Hid _ at hK
        obtain ⟨hcR, hfR, hzR⟩ := nwc hR
        first | (refine wanted_yes ?_ ?_; rfl) | (refine wanted_no ?_ ?_; rfl)
        obtain ⟨g2, e2, ho2⟩ := (show Row0S wz.heap.size wR (x 2) by first | exact hd | exact hd.1 | exact hd.2); rw [e2] at hK ⊢; refine appf0 _ _ _ rfl _ _ _ _ Try.underlying24 info_event rfl (by decide) (by decide) hR.size ho2 rfl rfl (evc_len es vs hvl) (hce.nw hR) ?_ (by omega); intro v5 w5 hown5 hn5 hat5; exact hK.out _ _ hn5 (row_of hvl (fun i hi => (hids i hi).nw hR) hown5 hn5 hat5)
      try simp only [Act.put, List.setIfInBounds_toArray, List.set_cons_zero, List.set_cons_succ, List.length_nil, List.length_cons, List.nil_append, List.cons_append, Nat.reduceAdd]
    iterate 1
      refine Stairs.is ?_ ?_ ?_
      rotate_left 1
      · intro x wR hR hd K hK
        simp only [Act.put, List.setIfInBounds_toArray, List.set_cons_zero, List.set_cons_succ, Say.ok] at hK ⊢
        try simp [Region.binds, sayAt, Say.ok] at hd
        change Hid _ at hK
        obtain ⟨hcR, hfR, hzR⟩ := nwc hR
        first | (refine wanted_yes ?_ ?_; rfl) | (refine wanted_no ?_ ?_; rfl)
        go_wp2_with (first | fail)
        all_goals (refine hK.out _ _ ?_ ?_ <;> first | (solve | (repeat (first | assumption | exact Nw.refl _ | refine Nw.alloc ?_ _ | refine Nw.drew ?_ | refine Nw.drewN2 ?_ _ | (refine Nw.trans ?_ (by assumption))))) | exact rfl)
      try simp only [Act.put, List.setIfInBounds_toArray, List.set_cons_zero, List.set_cons_succ]
    iterate 1
      refine Stairs.that (OneV wz.heap.size tk (.slice q l.length c)) (by first | assumption | simp) ?_ ?_
      · intro x wR hR hd K hK
        simp only [Act.put, List.setIfInBounds_toArray, List.set_cons_zero, List.set_cons_succ, Say.ok] at hK ⊢
        try simp [Region.binds, sayAt, Say.ok] at hd
        change Hid _ at hK
        obtain ⟨hcR, hfR, hzR⟩ := nwc hR
        first | (refine wanted_yes ?_ ?_; rfl) | (refine wanted_no ?_ ?_; rfl)
        go_wp2_with (first | fail)
        all_goals (refine hK.out _ _ ?_ ?_ <;> first | (solve | (repeat (first | assumption | exact Nw.refl _ | refine Nw.alloc ?_ _ | refine Nw.drew ?_ | refine Nw.drewN2 ?_ _ | (refine Nw.trans ?_ (by assumption))))) | exact rfl | exact ⟨_, rfl, cells_newAt _ [_, _] _ _ _ rfl⟩)
      try simp only [Act.put, List.setIfInBounds_toArray, List.set_cons_zero, List.set_cons_succ, List.length_nil, List.length_cons, List.nil_append, List.cons_append, Nat.reduceAdd]
    refine Stairs.nil ?_
    intro x wR hR hx cR hcR2 yR
    have h2 := hx 2 (by decide)
    simp only [sayAt, Say.ok] at h2
    have h5 := hx 5 (by decide)
    simp only [sayAt, Say.ok] at h5
    have h7 := hx 7 (by decide)
    simp only [sayAt, Say.ok] at h7
    clear hx
    obtain ⟨hcR, hfR, hzR⟩ := nwc hR
    obtain ⟨q5, c5, e5⟩ := EvOwn.shape h5 rfl
    rw [e5] at h5 ⊢
    obtain ⟨g8, e8, hcs8⟩ := h7
    rw [e8]
    obtain ⟨vs2, hvl2, hrow2, hall2⟩ := h5
    have HRW := hid (fun k (e2 : (Value.slice q5 es.length c5).ownBlock = some k) => (World.ownsRow.lt hrow2 k e2).1)
    have HNE := hid (show l ≠ [] → ∀ k, (Value.slice q l.length c).ownBlock = some k → (Value.slice q5 es.length c5).ownBlock ≠ some k from fun h0 k hk e2 => by
      have h1 := HRW.out k e2
      have h2 := HVZ.out.lt (by intro e3; apply h0; cases l with | nil => rfl | cons x r => simp [i64s] at e3) k hk
      omega)
    have hc3 : cR = 0 ∨ cR = 1 ∨ cR = 2 := by omega
    clear hcR2
    rcases hc3 with rfl | rfl | rfl
    all_goals
      simp only [opsAt, rest, refill, List.range', Nat.reduceSub, Nat.reduceAdd, List.length_cons, List.length_nil, List.cons_append, List.nil_append, List.filterMap_cons, List.filterMap_nil, List.getElem?_cons_zero, List.getElem?_cons_succ, List.foldl_cons, List.foldl_nil, fill, Act.put, List.setIfInBounds_toArray, List.set_cons_zero, List.set_cons_succ]
      show wpList _ _ _ (_ :: _) _ _
      clear hcR hfR hzR
      go_wp2_with (first
        | (at_builtin; refine appat rfl _ _ _ rfl _ _ _ _ Try.underlying24 info_event rfl (by decide) (by decide) hR.size hrow2 rfl rfl (show [Value.int .u64 tk, Value.slice q l.length c].length = 2 from rfl) hcs8 (by simp [Value.oneCell']) ?_ ?_; rotate_left; omega; intro v2 w2 hown2 hg2 hat2; have hev2 := EvOwn.add hvl2 hall2 (HVZ.out.nw hR) HNE.out hown2 hg2 hat2; obtain ⟨q9, c9, rfl⟩ := hev2.shape (n := es.length + 1) (by simp); have y42 : w2.heap[w.heap.size + 1 + 1]? = some (.cells #[.slice none 0 0, .slice none 0 0] 26 (0, 0)) := (by have h5 := hR.heap y4z; rw [hg2.block _ (lt_of_heap h5) (fun e => by have := HRW.out _ e.symm; omega)]; exact h5); have hs2 := Sl.mono_grown (HVN.out.nw hR) hg2 (fun h0 k hk e2 => by have h1 := HRW.out k e2; have h2 := HVN.out.lt h0 k hk; omega); have nw2 := (hn.trans (hw0.trans hR)).grown hg2 (fun k hk => by have := HRW.out k hk; omega); have x02 := hg2.cell (hR.cell x0) (fun e => by have h9 : wz.heap.size ≤ w.heap.size := HRW.out _ e.symm; omega); have d0 := heap_cell y42 0; have d1 := heap_cell y42 1; simp only [List.getElem?_toArray, List.getElem?_cons_succ, List.getElem?_cons_zero] at d0 d1; have f0 := heap_frozen y42 0; have f1 := heap_frozen y42 1)
        | fail)
      ((try simp only [Exit.inBlock, Exit.then]); refine bodyPost_ret (results_cell2 rfl _ _ _ _ _ _ _ rfl (heap_set (heap_set y42 0 _) 1 _) Try.underlying26 rfl (by kernel_rfl)) rfl ?_)
      refine ⟨_, rfl, ⟨_, _, rfl, ?_, ?_⟩, ?_⟩
      · exact Sl.set2 (a := .slice pn names.length kn) (b := .slice none 0 0) (Sl.set2 hs2 y42 strs_not) (heap_set y42 0 _) strs_not
      · exact Evs.set2 (a := .slice pn names.length kn) (b := .slice none 0 0) (Evs.set2 hev2.evs y42 (fun _ _ => nofun) (fun _ _ => nofun)) (heap_set y42 0 _) (fun _ _ => nofun) (fun _ _ => nofun)
      · exact (nw2.setCell (p := ⟨w.heap.size + 1 + 1, 0, none⟩) (show w.heap.size ≤ w.heap.size + 1 + 1 by omega) _).setCell (p := ⟨w.heap.size + 1 + 1, 1, none⟩) (show w.heap.size ≤ w.heap.size + 1 + 1 by omega) _
  · have hd2 : decide ((0 : Int) < es.length) = false := decide_eq_false (by omega)
    have hd2n : decide (0 < es.length) = false := decide_eq_false hpos
    clear ht hpos
    go_upto_region 5 with (first
      | (go_at_call 40; refine (HMY.out _ (by repeat (first | assumption | exact Nw.refl _ | refine Nw.alloc ?_ _ | refine Nw.drew ?_ | refine Nw.drewN2 ?_ _ | (refine Nw.trans ?_ (by assumption))))).mono ?_; rintro e w1 ⟨rfl, hn1⟩; have x0 := hn1.cell x0; have x1 := hn1.cell x1; have b0 := hn1.cell b0; have b1 := hn1.cell b1; have hz0 := Nat.lt_of_lt_of_le hz0 hn1.size; have hz1 := Nat.lt_of_lt_of_le hz1 hn1.size; have hw0 := hw0.trans hn1)
      | (go_at_call 21; refine (HID.out _ (by repeat (first | assumption | exact Nw.refl _ | refine Nw.alloc ?_ _ | refine Nw.drew ?_ | refine Nw.drewN2 ?_ _ | (refine Nw.trans ?_ (by assumption))))).mono ?_; rintro e w1 ⟨rfl, hn1⟩; have x0 := hn1.cell x0; have x1 := hn1.cell x1; have b0 := hn1.cell b0; have b1 := hn1.cell b1; have hz0 := Nat.lt_of_lt_of_le hz0 hn1.size; have hz1 := Nat.lt_of_lt_of_le hz1 hn1.size; have hw0 := hw0.trans hn1)
      | fail)
    refine wp_region_stairs (by kernel_rfl) (by kernel_rfl) (by kernel_rfl) ?_
    iterate 19
      refine Stairs.is ?_ ?_ ?_
      rotate_left 1
      · intro x wR hR hd K hK
        simp only [Act.put, List.setIfInBounds_toArray, List.set_cons_zero, List.set_cons_succ, Nat.reduceAdd, List.length_nil, List.length_cons, List.nil_append, List.cons_append, Say.ok] at hK ⊢
        clear hd
        change Hid _ at hK
        obtain ⟨hcR, hfR, hzR⟩ := nwc hR
        first | (refine wanted_yes ?_ ?_; rfl) | (refine wanted_no ?_ ?_; rfl)
        go_wp2_with (first | fail)
        all_goals (refine hK.out _ _ ?_ ?_ <;> first | (solve | (repeat (first | assumption | exact Nw.refl _ | refine Nw.alloc ?_ _ | refine Nw.drew ?_ | refine Nw.drewN2 ?_ _ | (refine Nw.trans ?_ (by assumption))))) | exact rfl)
      try simp only [Act.put, List.setIfInBounds_toArray, List.set_cons_zero, List.set_cons_succ, Nat.reduceAdd, List.length_nil, List.length_cons, List.nil_append, List.cons_append]
    refine Stairs.nil ?_
    intro x wR hR hx
    clear hx
    obtain ⟨hcR, hfR, hzR⟩ := nwc hR
    have x0 := hR.cell x0
    have x1 := hR.cell x1
    have b0 := hR.cell b0
    have b1 := hR.cell b1
    have hz0 := Nat.lt_of_lt_of_le hz0 hR.size
    have hz1 := Nat.lt_of_lt_of_le hz1 hR.size
    have hw0 := hw0.trans hR
    go_upto_region 7 with fail
    obtain ⟨wz, hwz0⟩ : ∃ x, x = wR := ⟨_, rfl⟩
    rw [← hwz0] at x0 x1 b0 b1 hz0 hz1 hw0 ⊢
    clear hwz0
    have hBZ : w.heap.size + 1 + 1 < wz.heap.size := by have := hw0.size; omega
    have y4z := hw0.heap y4
    have HVZ := hid (hvi.nw (hn.trans hw0))
    have HVN := hid (hvn.nw (hn.trans hw0))
    obtain ⟨vs, hvl, hce, hids⟩ := (HE.out.nw (hn.trans hw0)).cells
    have st2 := Row0S.stab wz.heap.size
    have st5 := RowS.stab wz.heap.size es
    have st7 := OneV.stab wz.heap.size tk (.slice q l.length c)
    refine wp_region_free 8 [.pointer (some ⟨w.heap.size, 0, none⟩), .slice pn names.length kn] (by kernel_rfl) (by kernel_rfl) (by kernel_rfl) (by kernel_rfl) (by kernel_rfl) ?_
    dsimp only [List.take, List.drop, List.length_cons, List.length_nil, Nat.reduceAdd]
    iterate 2
      refine StairsC.step ?_ ?_
      · intro x wR hR hd K hK
        simp only [Act.put, List.setIfInBounds_toArray, List.set_cons_zero, List.set_cons_succ, Say.ok] at hK ⊢
        clear hd
        change Hid _ at hK
        obtain ⟨hcR, hfR, hzR⟩ := nwc hR
        first | (refine wanted_yes ?_ ?_; rfl) | (refine wanted_no ?_ ?_; rfl)
        go_wp2_with (first | fail)
        all_goals (refine hK.out _ _ ?_ ?_ <;> first | (solve | (repeat (first | assumption | exact Nw.refl _ | refine Nw.alloc ?_ _ | refine Nw.drew ?_ | refine Nw.drewN2 ?_ _ | (refine Nw.trans ?_ (by assumption))))) | exact rfl)
      try simp only [Act.put, List.setIfInBounds_toArray, List.set_cons_zero, List.set_cons_succ]
    refine StairsC.start ?_
    try simp only [List.nil_append, List.cons_append]
    iterate 1
      refine Stairs.that (Row0S wz.heap.size) (by first | assumption | simp) ?_ ?_
      · intro x wR hR hd K hK
        simp only [Act.put, List.setIfInBounds_toArray, List.set_cons_zero, List.set_cons_succ, Say.ok] at hK ⊢
        clear hd
        change Hid _ at hK
        obtain ⟨hcR, hfR, hzR⟩ := nwc hR
        first | (refine wanted_yes ?_ ?_; rfl) | (refine wanted_no ?_ ?_; rfl)
        go_wp2_with (first | fail)
        all_goals (refine hK.out _ _ ?_ ?_ <;> first | (solve | (repeat (first | assumption | exact Nw.refl _ | refine Nw.alloc ?_ _ | refine Nw.drew ?_ | refine Nw.drewN2 ?_ _ | (refine Nw.trans ?_ (by assumption))))) | exact rfl | exact row0_new _ _ hR.size)
      try simp only [Act.put, List.setIfInBounds_toArray, List.set_cons_zero, List.set_cons_succ, List.length_nil, List.length_cons, List.nil_append, List.cons_append, Nat.reduceAdd]
    iterate 2
      refine Stairs.is ?_ ?_ ?_
      rotate_left 1
      · intro x wR hR hd K hK
        simp only [Act.put, List.setIfInBounds_toArray, List.set_cons_zero, List.set_cons_succ, Say.ok] at hK ⊢
        try simp [Region.binds, sayAt, Say.ok] at hd
        change Hid _ at hK
        obtain ⟨hcR, hfR, hzR⟩ := nwc hR
        first | (refine wanted_yes ?_ ?_; rfl) | (refine wanted_no ?_ ?_; rfl)
        go_wp2_with (first | fail)
        all_goals (refine hK.out _ _ ?_ ?_ <;> first | (solve | (repeat (first | assumption | exact Nw.refl _ | refine Nw.alloc ?_ _ | refine Nw.drew ?_ | refine Nw.drewN2 ?_ _ | (refine Nw.trans ?_ (by assumption))))) | exact rfl)
      try simp only [Act.put, List.setIfInBounds_toArray, List.set_cons_zero, List.set_cons_succ]
    iterate 1
      refine Stairs.that (RowS wz.heap.size es) (by first | assumption | simp) ?_ ?_
      · intro x wR hR hd K hK
        simp only [Act.put, List.setIfInBounds_toArray, List.set_cons_zero, List.set_cons_succ, Say.ok] at hK ⊢
        try simp [Region.binds, sayAt, Say.ok] at hd
        change Hid _ at hK
        obtain ⟨hcR, hfR, hzR⟩ := nwc hR
        first | (refine wanted_yes ?_ ?_; rfl) | (refine wanted_no ?_ ?_; rfl)
        obtain ⟨g2, e2, ho2⟩ := (show Row0S wz.heap.size wR (x 2) by first | exact hd | exact hd.1 | exact hd.2); rw [e2] at hK ⊢; refine appf0 _ _ _ rfl _ _ _ _ Try.underlying24 info_event rfl (by decide) (by decide) hR.size ho2 rfl rfl (evc_len es vs hvl) (hce.nw hR) ?_ (by omega); intro v5 w5 hown5 hn5 hat5; exact hK.out _ _ hn5 (row_of hvl (fun i hi => (hids i hi).nw hR) hown5 hn5 hat5)
      try simp only [Act.put, List.setIfInBounds_toArray, List.set_cons_zero, List.set_cons_succ, List.length_nil, List.length_cons, List.nil_append, List.cons_append, Nat.reduceAdd]
    iterate 1
      refine Stairs.is ?_ ?_ ?_
      rotate_left 1
      · intro x wR hR hd K hK
        simp only [Act.put, List.setIfInBounds_toArray, List.set_cons_zero, List.set_cons_succ, Say.ok] at hK ⊢
        try simp [Region.binds, sayAt, Say.ok] at hd
        change Hid _ at hK
        obtain ⟨hcR, hfR, hzR⟩ := nwc hR
        first | (refine wanted_yes ?_ ?_; rfl) | (refine wanted_no ?_ ?_; rfl)
        go_wp2_with (first | fail)
        all_goals (refine hK.out _ _ ?_ ?_ <;> first | (solve | (repeat (first | assumption | exact Nw.refl _ | refine Nw.alloc ?_ _ | refine Nw.drew ?_ | refine Nw.drewN2 ?_ _ | (refine Nw.trans ?_ (by assumption))))) | exact rfl)
      try simp only [Act.put, List.setIfInBounds_toArray, List.set_cons_zero, List.set_cons_succ]
    iterate 1
      refine Stairs.that (OneV wz.heap.size tk (.slice q l.length c)) (by first | assumption | simp) ?_ ?_
      · intro x wR hR hd K hK
        simp only [Act.put, List.setIfInBounds_toArray, List.set_cons_zero, List.set_cons_succ, Say.ok] at hK ⊢
        try simp [Region.binds, sayAt, Say.ok] at hd
        change Hid _ at hK
        obtain ⟨hcR, hfR, hzR⟩ := nwc hR
        first | (refine wanted_yes ?_ ?_; rfl) | (refine wanted_no ?_ ?_; rfl)
        go_wp2_with (first | fail)
        all_goals (refine hK.out _ _ ?_ ?_ <;> first | (solve | (repeat (first | assumption | exact Nw.refl _ | refine Nw.alloc ?_ _ | refine Nw.drew ?_ | refine Nw.drewN2 ?_ _ | (refine Nw.trans ?_ (by assumption))))) | exact rfl | exact ⟨_, rfl, cells_newAt _ [_, _] _ _ _ rfl⟩)
      try simp only [Act.put, List.setIfInBounds_toArray, List.set_cons_zero, List.set_cons_succ, List.length_nil, List.length_cons, List.nil_append, List.cons_append, Nat.reduceAdd]
    refine Stairs.nil ?_
    intro x wR hR hx cR hcR2 yR
    have h2 := hx 2 (by decide)
    simp only [sayAt, Say.ok] at h2
    have h5 := hx 5 (by decide)
    simp only [sayAt, Say.ok] at h5
    have h7 := hx 7 (by decide)
    simp only [sayAt, Say.ok] at h7
    clear hx
    obtain ⟨hcR, hfR, hzR⟩ := nwc hR
    obtain ⟨q5, c5, e5⟩ := EvOwn.shape h5 rfl
    rw [e5] at h5 ⊢
    obtain ⟨g8, e8, hcs8⟩ := h7
    rw [e8]
    obtain ⟨vs2, hvl2, hrow2, hall2⟩ := h5
    have HRW := hid (fun k (e2 : (Value.slice q5 es.length c5).ownBlock = some k) => (World.ownsRow.lt hrow2 k e2).1)
    have HNE := hid (show l ≠ [] → ∀ k, (Value.slice q l.length c).ownBlock = some k → (Value.slice q5 es.length c5).ownBlock ≠ some k from fun h0 k hk e2 => by
      have h1 := HRW.out k e2
      have h2 := HVZ.out.lt (by intro e3; apply h0; cases l with | nil => rfl | cons x r => simp [i64s] at e3) k hk
      omega)
    have hc3 : cR = 0 ∨ cR = 1 ∨ cR = 2 := by omega
    clear hcR2
    rcases hc3 with rfl | rfl | rfl
    all_goals
      simp only [opsAt, rest, refill, List.range', Nat.reduceSub, Nat.reduceAdd, List.length_cons, List.length_nil, List.cons_append, List.nil_append, List.filterMap_cons, List.filterMap_nil, List.getElem?_cons_zero, List.getElem?_cons_succ, List.foldl_cons, List.foldl_nil, fill, Act.put, List.setIfInBounds_toArray, List.set_cons_zero, List.set_cons_succ]
      show wpList _ _ _ (_ :: _) _ _
      clear hcR hfR hzR
      go_wp2_with (first
        | (at_builtin; refine appat rfl _ _ _ rfl _ _ _ _ Try.underlying24 info_event rfl (by decide) (by decide) hR.size hrow2 rfl rfl (show [Value.int .u64 tk, Value.slice q l.length c].length = 2 from rfl) hcs8 (by simp [Value.oneCell']) ?_ ?_; rotate_left; omega; intro v2 w2 hown2 hg2 hat2; have hev2 := EvOwn.add hvl2 hall2 (HVZ.out.nw hR) HNE.out hown2 hg2 hat2; obtain ⟨q9, c9, rfl⟩ := hev2.shape (n := es.length + 1) (by simp); have y42 : w2.heap[w.heap.size + 1 + 1]? = some (.cells #[.slice none 0 0, .slice none 0 0] 26 (0, 0)) := (by have h5 := hR.heap y4z; rw [hg2.block _ (lt_of_heap h5) (fun e => by have := HRW.out _ e.symm; omega)]; exact h5); have hs2 := Sl.mono_grown (HVN.out.nw hR) hg2 (fun h0 k hk e2 => by have h1 := HRW.out k e2; have h2 := HVN.out.lt h0 k hk; omega); have nw2 := (hn.trans (hw0.trans hR)).grown hg2 (fun k hk => by have := HRW.out k hk; omega); have x02 := hg2.cell (hR.cell x0) (fun e => by have h9 : wz.heap.size ≤ w.heap.size := HRW.out _ e.symm; omega); have d0 := heap_cell y42 0; have d1 := heap_cell y42 1; simp only [List.getElem?_toArray, List.getElem?_cons_succ, List.getElem?_cons_zero] at d0 d1; have f0 := heap_frozen y42 0; have f1 := heap_frozen y42 1)
        | fail)
      ((try simp only [Exit.inBlock, Exit.then]); refine bodyPost_ret (results_cell2 rfl _ _ _ _ _ _ _ rfl (heap_set (heap_set y42 0 _) 1 _) Try.underlying26 rfl (by kernel_rfl)) rfl ?_)
      refine ⟨_, rfl, ⟨_, _, rfl, ?_, ?_⟩, ?_⟩
      · exact Sl.set2 (a := .slice pn names.length kn) (b := .slice none 0 0) (Sl.set2 hs2 y42 strs_not) (heap_set y42 0 _) strs_not
      · exact Evs.set2 (a := .slice pn names.length kn) (b := .slice none 0 0) (Evs.set2 hev2.evs y42 (fun _ _ => nofun) (fun _ _ => nofun)) (heap_set y42 0 _) (fun _ _ => nofun) (fun _ _ => nofun)
      · exact (nw2.setCell (p := ⟨w.heap.size + 1 + 1, 0, none⟩) (show w.heap.size ≤ w.heap.size + 1 + 1 by omega) _).setCell (p := ⟨w.heap.size + 1 + 1, 1, none⟩) (show w.heap.size ≤ w.heap.size + 1 + 1 by omega) _
theorem radd_c (vn ve vi : Value) (t : T) (tk : Int) (l : List Int) (w : World) (hvn : Sl w vn (Lx.strs t.names)) (hve : Evs w ve t.evs) (hvi : Sl w vi (i64s l)) (hsm : Small t) (hll : l.length ≤ 1000000000) :
    Calls Try.prog 30 #[.agg #[vn, ve], .agg #[.int .u64 tk, vi]] w (HandsTE w (addP t tk l)) := by
  by_cases h : (addP t tk l).2 = 0
  · obtain ⟨h1, h2, h3, h4⟩ := addP_ok h
    rw [h4]
    exact radd_ok vn ve vi t tk l w hvn hve hvi hsm hll h1 h2 h3
  · exact radd_no vn ve vi t tk l w hvn hve hvi hsm hll _ rfl h

end Tr
end Go.Proofs.Ytjelbfodkacipaa
