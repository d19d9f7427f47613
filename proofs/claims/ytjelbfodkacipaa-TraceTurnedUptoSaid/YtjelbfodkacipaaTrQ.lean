/- TraceFronts walked. No condition but lengths. -/
import Derived.Test.YtjelbfodkacipaaTrP
set_option linter.unusedSimpArgs false
set_option linter.unusedVariables false
namespace Go.Proofs.Ytjelbfodkacipaa
open Go.ChangeShapes Go.WideShapes Go.ChangeAt Go.RowKit
namespace Tr
open Go.Proofs.Ytjelbfodkacipaa.Lx (isIn nameB strs_open strs_cell contains_c)
open Go.Proofs.Ytjelbfodkacipaa.Rec (rises i64s_open i64_cell)
theorem eOk_take (n : Int) (es : Es) (k i : Nat) (h : i < k) : eOk n (es.take k) i = eOk n es i := by
  unfold eOk
  rw [ids_take _ _ _ h, tm_take _ _ _ h, tm_take _ _ _ (by omega)]
theorem may_take {l : List ByteArray} {es : Es} (h : mayP ⟨l, es⟩ = true) (k : Nat) : mayP ⟨l, es.take k⟩ = true := by
  unfold mayP at *
  rw [Bool.and_eq_true] at *
  refine ⟨h.1, ?_⟩
  unfold evsP mayTo at *
  rw [List.all_eq_true]
  intro i hi
  have hi2 := List.mem_range.1 hi
  rw [List.length_take] at hi2
  simp only at hi2 ⊢
  rw [eOk_take _ _ _ _ (by omega)]
  exact (List.all_eq_true.1 h.2) i (List.mem_range.2 (by simp only; omega))
theorem may_e {l : List ByteArray} {es : Es} (h : mayP ⟨l, es⟩ = true) (k : Nat) (hk : k < es.length) : k = 0 ∨ ¬ tm es k < tm es (k - 1) := by
  unfold mayP evsP mayTo at h
  rw [Bool.and_eq_true] at h
  have := (List.all_eq_true.1 h.2) k (List.mem_range.2 hk)
  unfold eOk at this
  simp only [Bool.and_eq_true, Bool.or_eq_true, decide_eq_true_eq, Bool.not_eq_true', decide_eq_false_iff_not] at this
  exact this.2
theorem front_take {l : List ByteArray} {es : Es} (h : mayP ⟨l, es⟩ = true) (j k : Nat) (hj : j ≤ k) (hk : k ≤ es.length) : frontP ⟨l, es.take j⟩ ⟨l, es.take k⟩ = true := by
  unfold frontP
  rw [may_take h, may_take h]
  have h1 : (es.take j).length = j := by rw [List.length_take]; omega
  have h2 : (es.take k).length = k := by rw [List.length_take]; omega
  simp only [h1, h2, decide_eq_true hj, List.take_take, Nat.min_eq_left hj, Bool.true_and, decide_true]
theorem front_more {l : List ByteArray} {es : Es} (j k : Nat) (hj : k < j) (hk : j ≤ es.length) : frontP ⟨l, es.take j⟩ ⟨l, es.take k⟩ = false := by
  unfold frontP
  have h1 : (es.take j).length = j := by rw [List.length_take]; omega
  have h2 : (es.take k).length = k := by rw [List.length_take]; omega
  simp only [h1, h2, decide_eq_false (show ¬ j ≤ k by omega), Bool.false_and, Bool.and_false]
theorem cut_at {l : List ByteArray} {es : Es} (h : mayP ⟨l, es⟩ = true) (n : Int) (k : Nat) (hk : k ≤ es.length) (hn : n = (k : Int) ∨ (n < 0 ∧ k = 0) ∨ ((es.length : Int) ≤ n ∧ k = es.length)) : cutP ⟨l, es⟩ n = ⟨l, es.take k⟩ := by
  unfold cutP
  rw [if_pos h]
  have : clampN n es.length = k := by unfold clampN; omega
  simp only [this]
theorem TrR.shape {w : World} {v : Value} {es : Es} {n : Nat} (h : TrR w v ⟨pqr, es⟩) (hn : es.length = n) : ∃ q c p d, v = .agg #[.slice q 3 c, .slice p n d] ∧ Sl w (.slice q 3 c) (Lx.strs pqr) ∧ Evs w (.slice p n d) es := by
  subst hn
  obtain ⟨v1, v2, rfl, h1, h2⟩ := h
  obtain ⟨q, c, rfl⟩ := pqr_shape h1
  obtain ⟨p, d, rfl⟩ := evs_shape h2
  exact ⟨q, c, p, d, rfl, h1, h2⟩
theorem small_take {l : List ByteArray} {es : Es} (h : Small ⟨l, es⟩) (k : Nat) : Small ⟨l, es.take k⟩ :=
  ⟨h.n, by have := h.e; simp only [List.length_take] at *; omega, fun i hi => by
    simp only [List.length_take] at hi
    rw [ids_take _ _ _ (by omega)]
    exact h.i i (by simp only; omega), h.s⟩
/-- A trace's block that is overwritten. -/
def FrSt (wL : World) (g : Nat) (u : T) (n : Nat) (wr : World) : Prop := ∃ q c p d, wr.heap[g]? = some (.cells #[.slice q 3 c, .slice p n d] 26 (0, 0)) ∧ Sl wr (.slice q 3 c) (Lx.strs u.names) ∧ Evs wr (.slice p n d) u.evs ∧ Mods (fun k => k = g) wL wr
theorem Mods.cellM {S : Nat → Prop} {w w' : World} {b o : Nat} {v : Value} (h : Mods S w w') (hs : ¬ S b) (hc : w.cell? ⟨b, o, none⟩ = some v) : w'.cell? ⟨b, o, none⟩ = some v :=
  (World.cell?_of_block (a := ⟨b, o, none⟩) (h.block b (World.block_lt_of_cell? w _ hc) hs)).trans hc
theorem Evs.modsg {w w' : World} {g : Nat} {v : Value} {es : Es} {a b : Value} {e : TypeId} {fr : Nat × Nat} (h : Evs w v es) (hm : Mods (fun k => k = g) w w') (hg : w.heap[g]? = some (.cells #[a, b] e fr)) (ha : ∀ k z, Value.int k z ≠ a) (hb : ∀ k z, Value.int k z ≠ b) : Evs w' v es := by
  obtain ⟨p, cap, rfl, h1, h2, h3, h4⟩ := h
  refine ⟨p, cap, rfl, h1, h2, h3, fun i hi => ?_⟩
  obtain ⟨b1, o1, vi, e1, c0, c1, hs⟩ := h4 i hi
  have hlt := World.block_lt_of_cell? w _ c0
  have hne : ¬ b1 = g := by
    rintro rfl
    rw [heap_cell hg] at c0
    generalize o1 + i * 2 = n at c0
    match n, c0 with
    | 0, c0 => simp at c0; exact ha _ _ c0.symm
    | 1, c0 => simp at c0; exact hb _ _ c0.symm
    | n + 2, c0 => simp at c0
  exact ⟨b1, o1, vi, e1, Mods.cellM hm hne c0, Mods.cellM hm hne c1, Sl.mods hs hm fun h0 k hk => Sl.apart hs hg (i64s_not (ha .i64) (hb .i64)) h0 k hk⟩
theorem Sl.modsg {w w' : World} {g : Nat} {v : Value} {vs : List Value} {a b : Value} {e : TypeId} {fr : Nat × Nat} (h : Sl w v vs) (hm : Mods (fun k => k = g) w w') (hg : w.heap[g]? = some (.cells #[a, b] e fr)) (hne : ∀ x ∈ vs, x ≠ a ∧ x ≠ b) : Sl w' v vs :=
  Sl.mods h hm fun h0 k hk => Sl.apart h hg hne h0 k hk
set_option maxRecDepth 20000 in
set_option maxHeartbeats 3200000 in
theorem fronts_walk (start : Int) (h0 : 0 ≤ start) (h64 : start < 18446744073709551616) (v1 : Value) (ns : List Nat) (w : World) (hv1 : Sl w v1 (u16s ns)) (hns : ∀ n ∈ ns, n ≤ 65535) :
    Calls Try.prog 7 #[.int .u64 start, v1] w fun e w' => e = .returned (.bool true) ∧ Nw w w' := by
  have HM1 := hid (fun w' (h : Nw w w') => make_c3 start h0 h64 v1 ns w' (hv1.nw h) hns)
  have sa := make_small start h0 ns
  have HMA := hid (make_may start h0 ns)
  have hna : (makeP start ns).names = pqr := rfl
  have hln := make_len start h0 ns
  obtain ⟨p1, k1, rfl, _, _, _, _⟩ := hv1.open (u16s_length ns)
  generalize makeP start ns = a at *
  generalize ns.length = na at *
  obtain ⟨names, es⟩ := a
  dsimp only at hna hln HM1
  subst hna
  have HSA := hid sa
  clear hv1 hns sa
  generalize hen : es.length = n at *
  have HEN := hid hen
  clear hen
  have HCUT := hid (fun (x y : Value) (m : Int) (k : Nat) (hk : k ≤ n) (hm : m = (k : Int) ∨ (m < 0 ∧ k = 0) ∨ ((n : Int) ≤ m ∧ k = n)) (hb1 : -9223372036854775808 ≤ m) (hb2 : m ≤ 9223372036854775807) w' (h1 : Sl w' x (Lx.strs pqr)) (h2 : Evs w' y es) => show Calls Try.prog 25 #[.agg #[x, y], .int .i64 m] w' (HandsT w' ⟨pqr, es.take k⟩) by
    have := cut_c x y ⟨pqr, es⟩ m w' h1 h2 HSA.out hb1 hb2
    rwa [cut_at HMA.out m k (by rw [HEN.out]; exact hk) (by rw [HEN.out]; exact hm)] at this)
  go_enter Try.func7, Try.ntmps7
  go_upto_region 2 with (first
    | (go_at_call 23; refine (HM1.out _ ?_).mono ?_; exact (by repeat (first | assumption | exact Nw.refl _ | refine Nw.alloc ?_ _ | refine Nw.drew ?_ | refine Nw.drewN2 ?_ _ | (refine Nw.trans ?_ (by assumption)))); rintro e w1 ⟨q1, c1, q2, c2, rfl, hs1, he1, hn1⟩)
    | fail)
  obtain ⟨x0, x1⟩ := box2 w1 (.slice q1 3 c1) (.slice q2 n c2) 26
  have hnz := (Nw.refl w1).alloc (.cells #[.slice q1 3 c1, .slice q2 n c2] 26)
  have hz0 := lt_alloc w1 (.cells #[.slice q1 3 c1, .slice q2 n c2] 26)
  have hsz := hs1.nw hnz
  have hez := he1.nw hnz
  have hwz := hn1.trans hnz
  clear hs1 he1 hnz hn1
  generalize w1.alloc (.cells #[.slice q1 3 c1, .slice q2 n c2] 26) = wz at *
  generalize w1.heap.size = g5 at *
  go_upto_region 3 with (first
    | (go_at_call 25; refine (HCUT.out _ _ (-1) 0 (Nat.zero_le _) (by omega) (by omega) (by omega) _ (hsz.nw (by repeat (first | assumption | exact Nw.refl _ | refine Nw.alloc ?_ _ | refine Nw.drew ?_ | refine Nw.drewN2 ?_ _ | (refine Nw.trans ?_ (by assumption))))) (hez.nw (by repeat (first | assumption | exact Nw.refl _ | refine Nw.alloc ?_ _ | refine Nw.drew ?_ | refine Nw.drewN2 ?_ _ | (refine Nw.trans ?_ (by assumption)))))).mono ?_; rintro e w2 ⟨v2, rfl, hr2, hn2⟩; obtain ⟨q3, c3, q4, c4, rfl, hs3, he3⟩ := hr2.shape (n := 0) rfl)
    | fail)
  have y6 := heap_new w2 (.cells #[.slice q3 3 c3, .slice q4 0 c4] 26)
  have hn6 := (Nw.refl w2).alloc (.cells #[.slice q3 3 c3, .slice q4 0 c4] 26)
  have hg6 := lt_alloc w2 (.cells #[.slice q3 3 c3, .slice q4 0 c4] 26)
  have hnL := hwz.trans (hn2.trans hn6)
  have x0L := (hn2.trans hn6).cell x0
  have x1L := (hn2.trans hn6).cell x1
  have hsL := hsz.nw (hn2.trans hn6)
  have heL := hez.nw (hn2.trans hn6)
  have hs3L := hs3.nw hn6
  have he3L := he3.nw hn6
  have hg56 : g5 < w2.heap.size := Nat.lt_of_lt_of_le hz0 hn2.size
  have hgw : w.heap.size ≤ w2.heap.size := Nat.le_trans hwz.size hn2.size
  clear x0 x1 hsz hez hs3 he3 hn6 hr2 hz0 hwz hn2
  generalize w2.alloc (.cells #[.slice q3 3 c3, .slice q4 0 c4] 26) = wL at *
  generalize w2.heap.size = g6 at *
  go_wp2
  go_loopw [7, 8, 9, 10, 19] (fun _ _ _ _ i wr => ∃ k : Nat, k ≤ n ∧ i = .int .i64 k ∧ FrSt wL g6 ⟨pqr, es.take k⟩ k wr) (fun _ _ _ _ i _ => n - (intOf i).toNat)
  case atStart => exact ⟨0, Nat.zero_le _, rfl, _, _, _, _, y6, hs3L, he3L, Mods.refl _ _⟩
  case round =>
    obtain ⟨k, hk, rfl, q5, c5, q6, c6, hy, hsu, heu, hm⟩ := hrel
    dsimp only at hsu heu
    have hnr : Nw w wr := hnL.ofMods hm (fun j e => by omega)
    have x0 := Mods.cellM hm (show ¬ g5 = g6 by omega) x0L
    have x1 := Mods.cellM hm (show ¬ g5 = g6 by omega) x1L
    have hst := Sl.modsg hsL hm y6 strs_not
    have het := Evs.modsg heL hm y6 (fun _ _ => nofun) (fun _ _ => nofun)
    have u0 := heap_cell hy 0
    have u1 := heap_cell hy 1
    simp only [List.getElem?_toArray, List.getElem?_cons_succ, List.getElem?_cons_zero] at u0 u1
    by_cases hlt : k < n
    · have hdk : decide (k < n) = true := decide_eq_true hlt
      have hke : k < es.length := by rw [HEN.out]; exact hlt
      have het2 := het
      obtain ⟨p', cap', e1, hcap, hcm, _, hec⟩ := het2
      simp only [Value.slice.injEq] at e1
      obtain ⟨e3, e4, e5⟩ := e1
      clear e4
      subst e3
      subst e5
      rw [HEN.out] at hcap
      unfold maxLen at hcm
      obtain ⟨b1, o1, vi, rfl, d0, d1, hsl⟩ := hec k hke
      obtain ⟨q, c, rfl, hcq, hmq, _, _⟩ := i64s_open hsl
      unfold maxLen at hmq
      have HADD := hid (fun w' (h : Nw wr w') => show Calls Try.prog 29 #[.agg #[.slice q5 3 c5, .slice q6 k c6], .agg #[.int .u64 (tm es k), .slice q (ids es k).length c]] w' (HandsTE w' (⟨pqr, es.take (k + 1)⟩, 0)) by
        have := add_ok (.slice q5 3 c5) (.slice q6 k c6) (.slice q (ids es k).length c) ⟨pqr, es.take k⟩ (tm es k) (ids es k) w' (hsu.nw h) (heu.nw h) (hsl.nw h) (small_take HSA.out k) (HSA.out.i k hke) (may_take HMA.out k) (may_rises HMA.out k hke) (by
          have hl : (es.take k).length = k := by rw [List.length_take]; omega
          simp only [hl]
          rcases may_e HMA.out k hke with h | h
          · exact Or.inl h
          · by_cases hk0 : k = 0
            · exact Or.inl hk0
            · right; rw [tm_take _ _ _ (by omega)]; exact h)
        rwa [← take_snoc es k hke] at this)
      have HK1 := hid (show (es.take (k + 1)).length = k + 1 by rw [List.length_take]; omega)
      generalize ids es k = l at *
      generalize tm es k = tk at *
      go_upto_region 6 with fail
      have hnB := (Nw.refl wr).alloc (.cells #[.int .u64 tk, .slice q l.length c] 39)
      obtain ⟨z0, z1⟩ := box2 wr (.int .u64 tk) (.slice q l.length c) 39
      have uB0 := hnB.cell u0
      have uB1 := hnB.cell u1
      have ltz := lt_alloc wr (.cells #[.int .u64 tk, .slice q l.length c] 39)
      have ltu := Nat.lt_of_lt_of_le (lt_of_heap hy) hnB.size
      clear d0 d1
      generalize wr.alloc (.cells #[.int .u64 tk, .slice q l.length c] 39) = wB at *
      go_upto_region 7 with (first
        | (go_at_call 29; refine (HADD.out _ (hnB.trans (by repeat (first | assumption | exact Nw.refl _ | refine Nw.alloc ?_ _ | refine Nw.drew ?_ | refine Nw.drewN2 ?_ _ | (refine Nw.trans ?_ (by assumption)))))).mono ?_; rintro e w4 ⟨v4, rfl, hr4, hn4⟩; obtain ⟨q7, c7, q8, c8, rfl, hs4, he4⟩ := hr4.shape HK1.out)
        | fail)
      obtain ⟨t0, t1⟩ := box2 w4 (.slice q7 3 c7) (.slice q8 (k + 1) c8) 26
      have hnC := (Nw.refl w4).alloc (.cells #[.slice q7 3 c7, .slice q8 (k + 1) c8] 26)
      have ltC := lt_alloc w4 (.cells #[.slice q7 3 c7, .slice q8 (k + 1) c8] 26)
      have hsv := hs4.nw hnC
      have hev := he4.nw hnC
      have hBC := hn4.trans hnC
      have hrC := hnB.trans hBC
      clear hs4 he4 hr4 hn4 hnC
      generalize w4.alloc (.cells #[.slice q7 3 c7, .slice q8 (k + 1) c8] 26) = wC at *
      generalize w4.heap.size = g9 at *
      have uC0 := hBC.cell uB0
      have uC1 := hBC.cell uB1
      have xC0 := hrC.cell x0
      have xC1 := hrC.cell x1
      have ltu2 := Nat.lt_of_lt_of_le ltu hBC.size
      have ltx := World.block_lt_of_cell? wC _ xC0
      simp only at ltx
      have hsuC := hsu.nw hrC
      have heuC := heu.nw hrC
      have hstC := hst.nw hrC
      have hetC := het.nw hrC
      have HMv := hid (fun w' (h : Nw wC w') => show Calls Try.prog 24 #[.agg #[.slice q7 3 c7, .slice q8 (k + 1) c8]] w' (Gives (.bool true) w') by
        have := may_c (.slice q7 3 c7) (.slice q8 (k + 1) c8) ⟨pqr, es.take (k + 1)⟩ w' (hsv.nw h) (hev.nw h) (small_take HSA.out _).s
        rwa [may_take HMA.out] at this)
      have HF1 := hid (fun w' (h : Nw wC w') => show Calls Try.prog 32 #[.agg #[.slice q5 3 c5, .slice q6 k c6], .agg #[.slice q7 3 c7, .slice q8 (k + 1) c8]] w' (Gives (.bool true) w') by
        have := front_c (.slice q5 3 c5) (.slice q6 k c6) (.slice q7 3 c7) (.slice q8 (k + 1) c8) ⟨pqr, es.take k⟩ ⟨pqr, es.take (k + 1)⟩ w' (hsuC.nw h) (heuC.nw h) (hsv.nw h) (hev.nw h) (small_take HSA.out _) (small_take HSA.out _)
        rwa [front_take HMA.out k (k + 1) (by omega) hke] at this)
      have HF2 := hid (fun w' (h : Nw wC w') => show Calls Try.prog 32 #[.agg #[.slice q7 3 c7, .slice q8 (k + 1) c8], .agg #[.slice q5 3 c5, .slice q6 k c6]] w' (Gives (.bool false) w') by
        have := front_c (.slice q7 3 c7) (.slice q8 (k + 1) c8) (.slice q5 3 c5) (.slice q6 k c6) ⟨pqr, es.take (k + 1)⟩ ⟨pqr, es.take k⟩ w' (hsv.nw h) (hev.nw h) (hsuC.nw h) (heuC.nw h) (small_take HSA.out _) (small_take HSA.out _)
        rwa [front_more (k + 1) k (by omega) hke] at this)
      have HF3 := hid (fun w' (h : Nw wC w') => show Calls Try.prog 32 #[.agg #[.slice q7 3 c7, .slice q8 (k + 1) c8], .agg #[.slice q1 3 c1, .slice (some ⟨b1, o1, none⟩) n c2]] w' (Gives (.bool true) w') by
        have := front_c (.slice q7 3 c7) (.slice q8 (k + 1) c8) (.slice q1 3 c1) (.slice (some ⟨b1, o1, none⟩) n c2) ⟨pqr, es.take (k + 1)⟩ ⟨pqr, es.take es.length⟩ w' (hsv.nw h) (hev.nw h) (hstC.nw h) (by rw [List.take_of_length_le (Nat.le_refl _)]; exact hetC.nw h) (small_take HSA.out _) (small_take HSA.out _)
        rwa [front_take HMA.out (k + 1) es.length hke (Nat.le_refl _)] at this)
      have HCt := hid (fun w' (h : Nw wC w') => HCUT.out (.slice q1 3 c1) (.slice (some ⟨b1, o1, none⟩) n c2) ((k : Int) + 1) (k + 1) (by omega) (Or.inl (by omega)) (by omega) (by omega) w' (hstC.nw h) (hetC.nw h))
      have HSm := hid (fun u w' (h : Nw wC w') (hu : TrR w' u ⟨pqr, es.take (k + 1)⟩) => samet_same (.agg #[.slice q7 3 c7, .slice q8 (k + 1) c8]) u ⟨pqr, es.take (k + 1)⟩ w' ⟨_, _, rfl, hsv.nw h, hev.nw h⟩ hu)
      clear hsuC heuC hstC hetC HADD hec hsl hsu heu hst het
      generalize hev0 : es.take (k + 1) = ev at *
      have HEVQ := hid hev0
      clear hev0
      refine wp_region_stairs (by kernel_rfl) (by kernel_rfl) (by kernel_rfl) ?_
      iterate 29
        refine Stairs.is ?_ ?_ ?_
        rotate_left 1
        · intro x wR hR hd K hK
          simp only [Act.put, List.setIfInBounds_toArray, List.set_cons_zero, List.set_cons_succ, Nat.reduceAdd, List.length_nil, List.length_cons, List.nil_append, List.cons_append, Say.ok] at hK ⊢
          clear hd
          change Hid _ at hK
          obtain ⟨hcR, hfR, hzR⟩ := nwc hR
          first | (refine wanted_yes ?_ ?_; rfl) | (refine wanted_no ?_ ?_; rfl)
          go_wp2_with (first 
        | (go_at_call 24; refine (HMv.out _ (by repeat (first | assumption | exact Nw.refl _ | refine Nw.alloc ?_ _ | refine Nw.drew ?_ | refine Nw.drewN2 ?_ _ | (refine Nw.trans ?_ (by assumption))))).mono ?_; rintro e w5 ⟨rfl, hn5⟩)
        | (go_at_call 32; (with_reducible refine (HF1.out _ ?_).mono ?_); exact (by repeat (first | assumption | exact Nw.refl _ | refine Nw.alloc ?_ _ | refine Nw.drew ?_ | refine Nw.drewN2 ?_ _ | (refine Nw.trans ?_ (by assumption)))); rintro e w5 ⟨rfl, hn5⟩)
        | (go_at_call 32; (with_reducible refine (HF2.out _ ?_).mono ?_); exact (by repeat (first | assumption | exact Nw.refl _ | refine Nw.alloc ?_ _ | refine Nw.drew ?_ | refine Nw.drewN2 ?_ _ | (refine Nw.trans ?_ (by assumption)))); rintro e w5 ⟨rfl, hn5⟩)
        | (go_at_call 32; (with_reducible refine (HF3.out _ ?_).mono ?_); exact (by repeat (first | assumption | exact Nw.refl _ | refine Nw.alloc ?_ _ | refine Nw.drew ?_ | refine Nw.drewN2 ?_ _ | (refine Nw.trans ?_ (by assumption)))); rintro e w5 ⟨rfl, hn5⟩)
        | (go_at_call 25; refine (HCt.out _ (by repeat (first | assumption | exact Nw.refl _ | refine Nw.alloc ?_ _ | refine Nw.drew ?_ | refine Nw.drewN2 ?_ _ | (refine Nw.trans ?_ (by assumption))))).mono ?_; rintro e w5 ⟨v5, rfl, hr5, hn5⟩)
        | (go_at_call 31; refine (HSm.out _ _ (by repeat (first | assumption | exact Nw.refl _ | refine Nw.alloc ?_ _ | refine Nw.drew ?_ | refine Nw.drewN2 ?_ _ | (refine Nw.trans ?_ (by assumption)))) (by first | exact hd | exact hd.1 | exact hd.2 | exact hd.2.1)).mono ?_; rintro e w5 ⟨rfl, hn5⟩))
          all_goals (refine hK.out _ _ ?_ ?_ <;> first | (solve | (repeat (first | assumption | exact Nw.refl _ | refine Nw.alloc ?_ _ | refine Nw.drew ?_ | refine Nw.drewN2 ?_ _ | (refine Nw.trans ?_ (by assumption))))) | exact rfl | exact hr5)
        try simp only [Act.put, List.setIfInBounds_toArray, List.set_cons_zero, List.set_cons_succ, Nat.reduceAdd, List.length_nil, List.length_cons, List.nil_append, List.cons_append]
      iterate 1
        refine Stairs.that (ReadsT ⟨pqr, ev⟩) (by first | assumption | simp) ?_ ?_
        · intro x wR hR hd K hK
          simp only [Act.put, List.setIfInBounds_toArray, List.set_cons_zero, List.set_cons_succ, Nat.reduceAdd, List.length_nil, List.length_cons, List.nil_append, List.cons_append, Say.ok] at hK ⊢
          clear hd
          change Hid _ at hK
          obtain ⟨hcR, hfR, hzR⟩ := nwc hR
          first | (refine wanted_yes ?_ ?_; rfl) | (refine wanted_no ?_ ?_; rfl)
          go_wp2_with (first 
        | (go_at_call 24; refine (HMv.out _ (by repeat (first | assumption | exact Nw.refl _ | refine Nw.alloc ?_ _ | refine Nw.drew ?_ | refine Nw.drewN2 ?_ _ | (refine Nw.trans ?_ (by assumption))))).mono ?_; rintro e w5 ⟨rfl, hn5⟩)
        | (go_at_call 32; (with_reducible refine (HF1.out _ ?_).mono ?_); exact (by repeat (first | assumption | exact Nw.refl _ | refine Nw.alloc ?_ _ | refine Nw.drew ?_ | refine Nw.drewN2 ?_ _ | (refine Nw.trans ?_ (by assumption)))); rintro e w5 ⟨rfl, hn5⟩)
        | (go_at_call 32; (with_reducible refine (HF2.out _ ?_).mono ?_); exact (by repeat (first | assumption | exact Nw.refl _ | refine Nw.alloc ?_ _ | refine Nw.drew ?_ | refine Nw.drewN2 ?_ _ | (refine Nw.trans ?_ (by assumption)))); rintro e w5 ⟨rfl, hn5⟩)
        | (go_at_call 32; (with_reducible refine (HF3.out _ ?_).mono ?_); exact (by repeat (first | assumption | exact Nw.refl _ | refine Nw.alloc ?_ _ | refine Nw.drew ?_ | refine Nw.drewN2 ?_ _ | (refine Nw.trans ?_ (by assumption)))); rintro e w5 ⟨rfl, hn5⟩)
        | (go_at_call 25; refine (HCt.out _ (by repeat (first | assumption | exact Nw.refl _ | refine Nw.alloc ?_ _ | refine Nw.drew ?_ | refine Nw.drewN2 ?_ _ | (refine Nw.trans ?_ (by assumption))))).mono ?_; rintro e w5 ⟨v5, rfl, hr5, hn5⟩)
        | (go_at_call 31; refine (HSm.out _ _ (by repeat (first | assumption | exact Nw.refl _ | refine Nw.alloc ?_ _ | refine Nw.drew ?_ | refine Nw.drewN2 ?_ _ | (refine Nw.trans ?_ (by assumption)))) (by first | exact hd | exact hd.1 | exact hd.2 | exact hd.2.1)).mono ?_; rintro e w5 ⟨rfl, hn5⟩))
          all_goals (refine hK.out _ _ ?_ ?_ <;> first | (solve | (repeat (first | assumption | exact Nw.refl _ | refine Nw.alloc ?_ _ | refine Nw.drew ?_ | refine Nw.drewN2 ?_ _ | (refine Nw.trans ?_ (by assumption))))) | exact rfl | exact hr5)
        try simp only [Act.put, List.setIfInBounds_toArray, List.set_cons_zero, List.set_cons_succ, Nat.reduceAdd, List.length_nil, List.length_cons, List.nil_append, List.cons_append]
      iterate 3
        refine Stairs.is ?_ ?_ ?_
        rotate_left 1
        · intro x wR hR hd K hK
          simp only [Act.put, List.setIfInBounds_toArray, List.set_cons_zero, List.set_cons_succ, Nat.reduceAdd, List.length_nil, List.length_cons, List.nil_append, List.cons_append, Say.ok] at hK ⊢
          try simp [Region.binds, sayAt, List.getD_cons_zero, List.getD_cons_succ, Say.ok, Vl] at hd
          try (first | have hs := str_ok hd | have hs := str_ok hd.2 | have hs := str_ok hd.1 | (obtain ⟨hd1, hd2, hd3⟩ := hd; first | have hs := str_ok hd1 | have hs := str_ok hd2 | have hs := str_ok hd3))
          change Hid _ at hK
          obtain ⟨hcR, hfR, hzR⟩ := nwc hR
          first | (refine wanted_yes ?_ ?_; rfl) | (refine wanted_no ?_ ?_; rfl)
          go_wp2_with (first 
        | (go_at_call 24; refine (HMv.out _ (by repeat (first | assumption | exact Nw.refl _ | refine Nw.alloc ?_ _ | refine Nw.drew ?_ | refine Nw.drewN2 ?_ _ | (refine Nw.trans ?_ (by assumption))))).mono ?_; rintro e w5 ⟨rfl, hn5⟩)
        | (go_at_call 32; (with_reducible refine (HF1.out _ ?_).mono ?_); exact (by repeat (first | assumption | exact Nw.refl _ | refine Nw.alloc ?_ _ | refine Nw.drew ?_ | refine Nw.drewN2 ?_ _ | (refine Nw.trans ?_ (by assumption)))); rintro e w5 ⟨rfl, hn5⟩)
        | (go_at_call 32; (with_reducible refine (HF2.out _ ?_).mono ?_); exact (by repeat (first | assumption | exact Nw.refl _ | refine Nw.alloc ?_ _ | refine Nw.drew ?_ | refine Nw.drewN2 ?_ _ | (refine Nw.trans ?_ (by assumption)))); rintro e w5 ⟨rfl, hn5⟩)
        | (go_at_call 32; (with_reducible refine (HF3.out _ ?_).mono ?_); exact (by repeat (first | assumption | exact Nw.refl _ | refine Nw.alloc ?_ _ | refine Nw.drew ?_ | refine Nw.drewN2 ?_ _ | (refine Nw.trans ?_ (by assumption)))); rintro e w5 ⟨rfl, hn5⟩)
        | (go_at_call 25; refine (HCt.out _ (by repeat (first | assumption | exact Nw.refl _ | refine Nw.alloc ?_ _ | refine Nw.drew ?_ | refine Nw.drewN2 ?_ _ | (refine Nw.trans ?_ (by assumption))))).mono ?_; rintro e w5 ⟨v5, rfl, hr5, hn5⟩)
        | (go_at_call 31; refine (HSm.out _ _ (by repeat (first | assumption | exact Nw.refl _ | refine Nw.alloc ?_ _ | refine Nw.drew ?_ | refine Nw.drewN2 ?_ _ | (refine Nw.trans ?_ (by assumption)))) (by first | exact hd | exact hd.1 | exact hd.2 | exact hd.2.1)).mono ?_; rintro e w5 ⟨rfl, hn5⟩))
          all_goals (refine hK.out _ _ ?_ ?_ <;> first | (solve | (repeat (first | assumption | exact Nw.refl _ | refine Nw.alloc ?_ _ | refine Nw.drew ?_ | refine Nw.drewN2 ?_ _ | (refine Nw.trans ?_ (by assumption))))) | exact rfl | exact hr5)
        try simp only [Act.put, List.setIfInBounds_toArray, List.set_cons_zero, List.set_cons_succ, Nat.reduceAdd, List.length_nil, List.length_cons, List.nil_append, List.cons_append]
      refine Stairs.nil ?_
      intro x wR hR hx
      have h29 := hx 29 (by decide)
      simp only [sayAt, List.getD_cons_zero, List.getD_cons_succ, Say.ok, Vl] at h29
      clear hx
      obtain ⟨hcR, hfR, hzR⟩ := nwc hR
      have t0R := hR.cell t0
      have t1R := hR.cell t1
      have ltR := Nat.lt_of_lt_of_le ltC hR.size
      have yR := (hrC.trans hR).heap hy
      have d0 := heap_cell yR 0
      have d1 := heap_cell yR 1
      simp only [List.getElem?_toArray, List.getElem?_cons_succ, List.getElem?_cons_zero] at d0 d1
      have f0 := heap_frozen yR 0
      have f1 := heap_frozen yR 1
      clear hcR hfR hzR
      go_wp2
      go_roundw
      case rel =>
        refine ⟨k + 1, by omega, by go_num, ?_⟩
        rw [HEVQ.out]
        exact ⟨q7, c7, q8, c8, heap_set (heap_set yR 0 _) 1 _, Sl.set2 (a := .slice q7 3 c7) (b := .slice q6 k c6) (Sl.set2 (hsv.nw hR) yR strs_not) (heap_set yR 0 _) strs_not, Evs.set2 (a := .slice q7 3 c7) (b := .slice q6 k c6) (Evs.set2 (hev.nw hR) yR (fun _ _ => nofun) (fun _ _ => nofun)) (heap_set yR 0 _) (fun _ _ => nofun) (fun _ _ => nofun), Mods.setCell (Mods.setCell (hm.nw (hrC.trans hR)) (p := ⟨g6, 0, none⟩) rfl _) (p := ⟨g6, 1, none⟩) rfl _⟩
      case measure => simp [intOf]; omega
    · have hkn : k = n := by omega
      subst hkn
      have hdk : decide (k < k) = false := decide_eq_false (by omega)
      have hten : es.take k = es := List.take_of_length_le (by rw [HEN.out]; exact Nat.le_refl _)
      have ltu := lt_of_heap hy
      have ltx := World.block_lt_of_cell? wr _ x0
      simp only at ltx
      have HS1 := hid (fun w' (h : Nw wr w') => samet_same (.agg #[.slice q5 3 c5, .slice q6 k c6]) (.agg #[.slice q1 3 c1, .slice q2 k c2]) ⟨pqr, es.take k⟩ w' ⟨_, _, rfl, hsu.nw h, heu.nw h⟩ ⟨_, _, rfl, hst.nw h, by rw [hten]; exact het.nw h⟩)
      have HCt := hid (fun w' (h : Nw wr w') => HCUT.out (.slice q1 3 c1) (.slice q2 k c2) ((k : Int) + 1) k (Nat.le_refl _) (Or.inr (Or.inr ⟨by omega, rfl⟩)) (by omega) (by omega) w' (hst.nw h) (het.nw h))
      have HS2 := hid (fun u w' (h : Nw wr w') (hu : TrR w' u ⟨pqr, es.take k⟩) => samet_same u (.agg #[.slice q1 3 c1, .slice q2 k c2]) ⟨pqr, es.take k⟩ w' hu ⟨_, _, rfl, hst.nw h, by rw [hten]; exact het.nw h⟩)
      clear hten hsu heu hst het
      generalize es.take k = ev at *
      go_upto_region 11 with fail
      refine wp_region_stairs (by kernel_rfl) (by kernel_rfl) (by kernel_rfl) ?_
      iterate 9
        refine Stairs.is ?_ ?_ ?_
        rotate_left 1
        · intro x wR hR hd K hK
          simp only [Act.put, List.setIfInBounds_toArray, List.set_cons_zero, List.set_cons_succ, Nat.reduceAdd, List.length_nil, List.length_cons, List.nil_append, List.cons_append, Say.ok] at hK ⊢
          clear hd
          change Hid _ at hK
          obtain ⟨hcR, hfR, hzR⟩ := nwc hR
          first | (refine wanted_yes ?_ ?_; rfl) | (refine wanted_no ?_ ?_; rfl)
          go_wp2_with (first 
        | (go_at_call 31; (with_reducible refine (HS1.out _ ?_).mono ?_); exact (by repeat (first | assumption | exact Nw.refl _ | refine Nw.alloc ?_ _ | refine Nw.drew ?_ | refine Nw.drewN2 ?_ _ | (refine Nw.trans ?_ (by assumption)))); rintro e w5 ⟨rfl, hn5⟩)
        | (go_at_call 31; refine (HS2.out _ _ (by repeat (first | assumption | exact Nw.refl _ | refine Nw.alloc ?_ _ | refine Nw.drew ?_ | refine Nw.drewN2 ?_ _ | (refine Nw.trans ?_ (by assumption)))) (by first | exact hd | exact hd.1 | exact hd.2 | exact hd.2.1)).mono ?_; rintro e w5 ⟨rfl, hn5⟩)
        | (go_at_call 25; refine (HCt.out _ (by repeat (first | assumption | exact Nw.refl _ | refine Nw.alloc ?_ _ | refine Nw.drew ?_ | refine Nw.drewN2 ?_ _ | (refine Nw.trans ?_ (by assumption))))).mono ?_; rintro e w5 ⟨v5, rfl, hr5, hn5⟩)
        | (go_at_call 17; refine (awake_c _).mono ?_; rintro e w5 ⟨rfl, hn5⟩))
          all_goals (refine hK.out _ _ ?_ ?_ <;> first | (solve | (repeat (first | assumption | exact Nw.refl _ | refine Nw.alloc ?_ _ | refine Nw.drew ?_ | refine Nw.drewN2 ?_ _ | (refine Nw.trans ?_ (by assumption))))) | exact rfl | exact hr5)
        try simp only [Act.put, List.setIfInBounds_toArray, List.set_cons_zero, List.set_cons_succ, Nat.reduceAdd, List.length_nil, List.length_cons, List.nil_append, List.cons_append]
      iterate 1
        refine Stairs.that (ReadsT ⟨pqr, ev⟩) (by first | assumption | simp) ?_ ?_
        · intro x wR hR hd K hK
          simp only [Act.put, List.setIfInBounds_toArray, List.set_cons_zero, List.set_cons_succ, Nat.reduceAdd, List.length_nil, List.length_cons, List.nil_append, List.cons_append, Say.ok] at hK ⊢
          clear hd
          change Hid _ at hK
          obtain ⟨hcR, hfR, hzR⟩ := nwc hR
          first | (refine wanted_yes ?_ ?_; rfl) | (refine wanted_no ?_ ?_; rfl)
          go_wp2_with (first 
        | (go_at_call 31; (with_reducible refine (HS1.out _ ?_).mono ?_); exact (by repeat (first | assumption | exact Nw.refl _ | refine Nw.alloc ?_ _ | refine Nw.drew ?_ | refine Nw.drewN2 ?_ _ | (refine Nw.trans ?_ (by assumption)))); rintro e w5 ⟨rfl, hn5⟩)
        | (go_at_call 31; refine (HS2.out _ _ (by repeat (first | assumption | exact Nw.refl _ | refine Nw.alloc ?_ _ | refine Nw.drew ?_ | refine Nw.drewN2 ?_ _ | (refine Nw.trans ?_ (by assumption)))) (by first | exact hd | exact hd.1 | exact hd.2 | exact hd.2.1)).mono ?_; rintro e w5 ⟨rfl, hn5⟩)
        | (go_at_call 25; refine (HCt.out _ (by repeat (first | assumption | exact Nw.refl _ | refine Nw.alloc ?_ _ | refine Nw.drew ?_ | refine Nw.drewN2 ?_ _ | (refine Nw.trans ?_ (by assumption))))).mono ?_; rintro e w5 ⟨v5, rfl, hr5, hn5⟩)
        | (go_at_call 17; refine (awake_c _).mono ?_; rintro e w5 ⟨rfl, hn5⟩))
          all_goals (refine hK.out _ _ ?_ ?_ <;> first | (solve | (repeat (first | assumption | exact Nw.refl _ | refine Nw.alloc ?_ _ | refine Nw.drew ?_ | refine Nw.drewN2 ?_ _ | (refine Nw.trans ?_ (by assumption))))) | exact rfl | exact hr5)
        try simp only [Act.put, List.setIfInBounds_toArray, List.set_cons_zero, List.set_cons_succ, Nat.reduceAdd, List.length_nil, List.length_cons, List.nil_append, List.cons_append]
      iterate 7
        refine Stairs.is ?_ ?_ ?_
        rotate_left 1
        · intro x wR hR hd K hK
          simp only [Act.put, List.setIfInBounds_toArray, List.set_cons_zero, List.set_cons_succ, Nat.reduceAdd, List.length_nil, List.length_cons, List.nil_append, List.cons_append, Say.ok] at hK ⊢
          try simp [Region.binds, sayAt, List.getD_cons_zero, List.getD_cons_succ, Say.ok, Vl] at hd
          try (first | have hs := str_ok hd | have hs := str_ok hd.2 | have hs := str_ok hd.1 | (obtain ⟨hd1, hd2, hd3⟩ := hd; first | have hs := str_ok hd1 | have hs := str_ok hd2 | have hs := str_ok hd3))
          change Hid _ at hK
          obtain ⟨hcR, hfR, hzR⟩ := nwc hR
          first | (refine wanted_yes ?_ ?_; rfl) | (refine wanted_no ?_ ?_; rfl)
          go_wp2_with (first 
        | (go_at_call 31; (with_reducible refine (HS1.out _ ?_).mono ?_); exact (by repeat (first | assumption | exact Nw.refl _ | refine Nw.alloc ?_ _ | refine Nw.drew ?_ | refine Nw.drewN2 ?_ _ | (refine Nw.trans ?_ (by assumption)))); rintro e w5 ⟨rfl, hn5⟩)
        | (go_at_call 31; refine (HS2.out _ _ (by repeat (first | assumption | exact Nw.refl _ | refine Nw.alloc ?_ _ | refine Nw.drew ?_ | refine Nw.drewN2 ?_ _ | (refine Nw.trans ?_ (by assumption)))) (by first | exact hd | exact hd.1 | exact hd.2 | exact hd.2.1)).mono ?_; rintro e w5 ⟨rfl, hn5⟩)
        | (go_at_call 25; refine (HCt.out _ (by repeat (first | assumption | exact Nw.refl _ | refine Nw.alloc ?_ _ | refine Nw.drew ?_ | refine Nw.drewN2 ?_ _ | (refine Nw.trans ?_ (by assumption))))).mono ?_; rintro e w5 ⟨v5, rfl, hr5, hn5⟩)
        | (go_at_call 17; refine (awake_c _).mono ?_; rintro e w5 ⟨rfl, hn5⟩))
          all_goals (refine hK.out _ _ ?_ ?_ <;> first | (solve | (repeat (first | assumption | exact Nw.refl _ | refine Nw.alloc ?_ _ | refine Nw.drew ?_ | refine Nw.drewN2 ?_ _ | (refine Nw.trans ?_ (by assumption))))) | exact rfl | exact hr5)
        try simp only [Act.put, List.setIfInBounds_toArray, List.set_cons_zero, List.set_cons_succ, Nat.reduceAdd, List.length_nil, List.length_cons, List.nil_append, List.cons_append]
      refine Stairs.nil ?_
      intro x wR hR hx
      have h9 := hx 9 (by decide)
      simp only [sayAt, List.getD_cons_zero, List.getD_cons_succ, Say.ok, Vl] at h9
      clear hx
      obtain ⟨hcR, hfR, hzR⟩ := nwc hR
      go_wp2
      go_ret
      exact ⟨rfl, hnr.trans hR⟩
end Tr
end Go.Proofs.Ytjelbfodkacipaa
