/- What Make makes may be; TraceMade walked. No condition but lengths. -/
import Derived.Test.YtjelbfodkacipaaTrM
set_option linter.unusedSimpArgs false
set_option linter.unusedVariables false
namespace Go.Proofs.Ytjelbfodkacipaa
open Go.ChangeShapes Go.WideShapes Go.ChangeAt Go.RowKit
namespace Tr
open Go.Proofs.Ytjelbfodkacipaa.Lx (isIn nameB strs_open strs_cell contains_c)
open Go.Proofs.Ytjelbfodkacipaa.Rec (rises i64s_open i64_cell)
theorem eOk_snoc_lt (n : Int) (es : Es) (e : Int × List Int) (i : Nat) (h : i < es.length) : eOk n (es ++ [e]) i = eOk n es i := by
  unfold eOk
  rw [ids_snoc_lt _ _ _ h, tm_snoc_lt _ _ _ h]
  cases i with
  | zero => simp
  | succ i => rw [Nat.add_sub_cancel, tm_snoc_lt _ _ _ (by omega)]
theorem id3_rises : ∀ n : Nat, n < 8 → rises (id3 n) 3 = true := by decide +kernel
theorem id3_lens (n : Nat) : (id3 n).length ≤ 3 := id3_len n 3
/-- What holds of the events all along. -/
def Fine (s : Int × Es) : Prop := ∀ i, i < s.2.length → eOk 3 s.2 i = true ∧ tm s.2 i ≤ s.1 ∧ 0 ≤ tm s.2 i ∧ (ids s.2 i).length ≤ 3 ∧ (∀ x ∈ ids s.2 i, 0 ≤ x ∧ x < 3)
theorem Fine.step {s : Int × Es} (h : Fine s) (h0 : 0 ≤ s.1) (n : Nat) : Fine (stp s n) := by
  intro i hi
  simp only [stp, List.length_append, List.length_singleton] at hi ⊢
  by_cases hlt : i < s.2.length
  · obtain ⟨h1, h2, h3, h4, h5⟩ := h i hlt
    rw [eOk_snoc_lt _ _ _ _ hlt, tm_snoc_lt _ _ _ hlt, ids_snoc_lt _ _ _ hlt]
    exact ⟨h1, by omega, h3, h4, h5⟩
  · obtain rfl : i = s.2.length := by omega
    rw [tm_snoc, ids_snoc]
    have hr := id3_rises (n % 8) (by omega)
    refine ⟨?_, by omega, by simp only; omega, id3_lens _, Rec.rises_mem hr⟩
    refine e_yes (by rw [ids_snoc]; exact hr) ?_
    by_cases hz : s.2.length = 0
    · exact Or.inl hz
    · right
      rw [tm_snoc, tm_snoc_lt _ _ _ (by omega)]
      have := (h (s.2.length - 1) (by omega)).2.1
      simp only
      omega
theorem fold_fine (ns : List Nat) : ∀ s : Int × Es, 0 ≤ s.1 → Fine s → Fine (ns.foldl stp s) := by
  induction ns with
  | nil => intro s _ h; exact h
  | cons n r ih => intro s h0 h; exact ih _ (by simp only [stp]; omega) (h.step h0 n)
theorem runM_fine (start : Int) (h0 : 0 ≤ start) (ns : List Nat) : Fine (runM start ns) := fold_fine ns _ (by simp only; omega) (fun i hi => by cases hi)
theorem pqr_ok : namesP pqr = true := by decide +kernel
theorem make_may (start : Int) (h0 : 0 ≤ start) (ns : List Nat) : mayP (makeP start ns) = true := by
  unfold mayP makeP
  rw [pqr_ok, Bool.true_and]
  unfold evsP mayTo
  rw [List.all_eq_true]
  intro i hi
  exact (runM_fine start h0 (ns.take 60) i (List.mem_range.1 hi)).1
theorem make_len (start : Int) (h0 : 0 ≤ start) (ns : List Nat) : (makeP start ns).evs.length ≤ 60 := by
  unfold makeP
  rw [(runM_facts start h0 (ns.take 60)).2.2, List.length_take]
  omega
theorem make_small (start : Int) (h0 : 0 ≤ start) (ns : List Nat) : Small (makeP start ns) := by
  refine ⟨by show pqr.length ≤ _; decide, Nat.le_trans (make_len start h0 ns) (by decide), fun i hi => Nat.le_trans (runM_fine start h0 (ns.take 60) i hi).2.2.2.1 (by decide), fun s hs => ?_⟩
  simp only [makeP, pqr, List.mem_cons, List.not_mem_nil, or_false] at hs
  rcases hs with rfl | rfl | rfl <;> decide
theorem cut_small {t : T} (h : Small t) (n : Int) : Small (cutP t n) := by
  unfold cutP
  split
  · refine ⟨h.n, by simp only [List.length_take]; have := h.e; omega, fun i hi => ?_, h.s⟩
    simp only [List.length_take] at hi
    rw [ids_take _ _ _ (by omega)]
    exact h.i i (by omega)
  · exact ⟨by decide, by decide, (fun i hi => by cases hi), (fun s hs => by cases hs)⟩
theorem tells_r (u v : Value) (a b : T) (i : Int) (s : ByteArray) (w : World) (h1 : TrR w u a) (h2 : TrR w v b) (ha : Small a) (hb : Small b) (hi1 : -9223372036854775808 ≤ i) (hi2 : i ≤ 9223372036854775807) :
    Calls Try.prog 22 #[u, v, .int .i64 i, .string s] w (Gives (.bool true) w) := by
  obtain ⟨u1, u2, rfl, k1, k2⟩ := h1
  obtain ⟨v1, v2, rfl, k3, k4⟩ := h2
  exact tells_c u1 u2 v1 v2 a b i s w k1 k2 k3 k4 ha hb hi1 hi2
theorem evs_shape {w : World} {v : Value} {es : Es} (h : Evs w v es) : ∃ p c, v = .slice p es.length c := by
  obtain ⟨p, c, e, _⟩ := h
  exact ⟨p, c, e⟩
theorem pqr_idx : ∀ k, k < 3 → idxP pqr (pqr.getD k ⟨#[]⟩) = (k : Int) := by decide +kernel
theorem made_holds (start : Int) (h0 : 0 ≤ start) (ns : List Nat) (k j : Nat) (hk : k < (makeP start ns).evs.length) (hj : j < 3) : holdsP (makeP start ns) k (pqr.getD j ⟨#[]⟩) = decide ((j : Int) ∈ ids (makeP start ns).evs k) := by
  rw [holds_at _ _ _ (make_may start h0 ns) hk, Bool.eq_iff_iff, decide_eq_true_eq, decide_eq_true_eq]
  show idxP pqr (pqr.getD j ⟨#[]⟩) ∈ _ ↔ _
  rw [pqr_idx j hj]
theorem make_c3 (start : Int) (h0 : 0 ≤ start) (h64 : start < 18446744073709551616) (vn : Value) (ns : List Nat) (w : World) (hvn : Sl w vn (u16s ns)) (hns : ∀ n ∈ ns, n ≤ 65535) :
    Calls Try.prog 23 #[.int .u64 start, vn] w fun e w' => ∃ q c p d, e = .returned (.agg #[.slice q 3 c, .slice p (makeP start ns).evs.length d]) ∧ Sl w' (.slice q 3 c) (Lx.strs pqr) ∧ Evs w' (.slice p (makeP start ns).evs.length d) (makeP start ns).evs ∧ Nw w w' :=
  (make_c start h0 h64 vn ns w hvn hns).mono fun e w' h => by
    obtain ⟨v, rfl, ⟨v1, v2, rfl, h1, h2⟩, h3⟩ := h
    obtain ⟨q, c, rfl, _⟩ := strs_open h1
    obtain ⟨p, d, rfl⟩ := evs_shape h2
    exact ⟨q, c, p, d, rfl, h1, h2, h3⟩
theorem pqr_shape {w : World} {v : Value} (h : Sl w v (Lx.strs pqr)) : ∃ p c, v = .slice p 3 c := by
  obtain ⟨p, c, e, _⟩ := h
  exact ⟨p, c, e⟩
set_option maxRecDepth 20000 in
set_option maxHeartbeats 3200000 in
theorem made_walk (start : Int) (h0 : 0 ≤ start) (h64 : start < 18446744073709551616) (v1 v2 : Value) (ns ms : List Nat) (i : Int) (s : ByteArray) (w : World) (hv1 : Sl w v1 (u16s ns)) (hns : ∀ n ∈ ns, n ≤ 65535) (hv2 : Sl w v2 (u16s ms)) (hms : ∀ n ∈ ms, n ≤ 65535) (hi1 : -9223372036854775808 ≤ i) (hi2 : i ≤ 9223372036854775807) (hll : ns.length ≤ 1000000000) :
    Calls Try.prog 4 #[.int .u64 start, v1, v2, .int .i64 i, .string s] w fun e w' => e = .returned (.bool true) ∧ Nw w w' := by
  have HM1 := hid (fun w' (h : Nw w w') => make_c3 start h0 h64 v1 ns w' (hv1.nw h) hns)
  have HM2 := hid (fun w' (h : Nw w w') => make_c3 start h0 h64 v2 ms w' (hv2.nw h) hms)
  have sa := make_small start h0 ns
  have sb := make_small start h0 ms
  have HMA := hid (make_may start h0 ns)
  have HNA := hid (show (makeP start ns).names = pqr from rfl)
  have HNB := hid (show (makeP start ms).names = pqr from rfl)
  have HH := hid (made_holds start h0 ns)
  obtain ⟨p1, k1, rfl, _, _, _, _⟩ := hv1.open (u16s_length ns)
  obtain ⟨p2, k2, rfl, _, _, _, _⟩ := hv2.open (u16s_length ms)
  generalize makeP start ns = a at *
  generalize makeP start ms = b at *
  generalize ns.length = na at *
  generalize ms.length = nb at *
  clear hv1 hv2 hns hms
  go_enter Try.func4, Try.ntmps4
  go_upto_region 2 with (first
    | (go_at_call 23; (with_reducible refine (HM1.out _ ?_).mono ?_); exact (by repeat (first | assumption | exact Nw.refl _ | refine Nw.alloc ?_ _ | refine Nw.drew ?_ | refine Nw.drewN2 ?_ _ | (refine Nw.trans ?_ (by assumption)))); rintro e w1 ⟨q1, c1, q2, c2, rfl, hs1, he1, hn1⟩)
    | (go_at_call 23; (with_reducible refine (HM2.out _ ?_).mono ?_); exact (by repeat (first | assumption | exact Nw.refl _ | refine Nw.alloc ?_ _ | refine Nw.drew ?_ | refine Nw.drewN2 ?_ _ | (refine Nw.trans ?_ (by assumption)))); rintro e w2 ⟨q3, c3, q4, c4, rfl, hs2, he2, hn2⟩)
    | fail)
  have he1' := he1
  have he2' := he2
  obtain ⟨_, _, e1, hca, hcm, _, hec⟩ := he1
  cases e1
  have HEC := hid hec
  clear hec
  obtain ⟨x0, x1, y4, hn3, hz4⟩ := boxes w2 (.slice q1 3 c1) (.slice q2 a.evs.length c2) (.slice q3 3 c3) (.slice q4 b.evs.length c4) 26 26
  have y0 := heap_cell y4 0
  have y1 := heap_cell y4 1
  simp only [List.getElem?_toArray, List.getElem?_cons_succ, List.getElem?_cons_zero] at y0 y1
  clear y4
  generalize ((w2.alloc (.cells #[.slice q1 3 c1, .slice q2 a.evs.length c2] 26)).alloc (.cells #[.slice q3 3 c3, .slice q4 b.evs.length c4] 26)) = w3 at *
  have hz0 : w2.heap.size < w3.heap.size := by omega
  have hz1 : w2.heap.size + 1 < w3.heap.size := by omega
  have hw3 : Nw w w3 := hn1.trans (hn2.trans hn3)
  have t1 : TrR w3 (.agg #[.slice q1 3 c1, .slice q2 a.evs.length c2]) a := ⟨_, _, rfl, by rw [HNA.out]; exact hs1.nw (hn2.trans hn3), he1'.nw (hn2.trans hn3)⟩
  have t2 : TrR w3 (.agg #[.slice q3 3 c3, .slice q4 b.evs.length c4]) b := ⟨_, _, rfl, by rw [HNB.out]; exact hs2.nw hn3, he2'.nw hn3⟩
  have HC3 := hid (HEC.out.nw (hn2.trans hn3))
  have HS3 := hid (hs1.nw (hn2.trans hn3))
  have HMY := hid (fun w' (h : Nw w3 w') => show Calls Try.prog 24 #[.agg #[.slice q1 3 c1, .slice q2 a.evs.length c2]] w' (Gives (.bool true) w') by
    have := may_c (.slice q1 3 c1) (.slice q2 a.evs.length c2) a w' (by rw [HNA.out]; exact HS3.out.nw h) ((he1'.nw (hn2.trans hn3)).nw h) sa.s
    rwa [HMA.out] at this)
  have HT1 := hid (fun w' (h : Nw w3 w') => tells_r _ _ a b i s w' (t1.nw h) (t2.nw h) sa sb hi1 hi2)
  have HT2 := hid (fun w' (h : Nw w3 w') => tells_r _ _ a a i ⟨#[112]⟩ w' (t1.nw h) (t1.nw h) sa sa hi1 hi2)
  have HT3 := hid (fun u w' (h : Nw w3 w') (hu : TrR w' u (cutP a i)) => tells_r u _ (cutP a i) a ((na : Int) - 1) ⟨#[113]⟩ w' hu (t1.nw h) (cut_small sa i) sa (by omega) (by omega))
  have HCT := hid (fun w' (h : Nw w3 w') => cut_c (.slice q1 3 c1) (.slice q2 a.evs.length c2) a i w' (by rw [HNA.out]; exact HS3.out.nw h) ((he1'.nw (hn2.trans hn3)).nw h) sa hi1 hi2)
  have HHO := hid (fun (k j : Nat) (hk : k < a.evs.length) (hj : j < 3) w' (h : Nw w3 w') => show Calls Try.prog 26 #[.agg #[.slice q1 3 c1, .slice q2 a.evs.length c2], .int .i64 (k : Int), .string (pqr.getD j ⟨#[]⟩)] w' (Gives (.bool (decide ((j : Int) ∈ ids a.evs k))) w') by
    have := holds_c (.slice q1 3 c1) (.slice q2 a.evs.length c2) a k (pqr.getD j ⟨#[]⟩) w' (by rw [HNA.out]; exact HS3.out.nw h) ((he1'.nw (hn2.trans hn3)).nw h) sa
    rwa [HH.out k j hk hj] at this)
  have hle := sa.e
  unfold maxLen at hcm
  obtain ⟨_, _, e2, hcb, hcn1, _, hcn⟩ := HS3.out
  cases e2
  have HCN := hid hcn
  unfold maxLen at hcn1
  have hcb3 : 3 ≤ c1 := hcb
  clear hcn hcb
  clear hs1 he1' hs2 he2' he2 HEC HM1 HM2 sa sb t1 t2 HNA HMA HH hi1 hi2 hn1 hn2 hn3 hz4
  generalize cutP a i = ct at *
  refine wp_region_stairs (by kernel_rfl) (by kernel_rfl) (by kernel_rfl) ?_
  iterate 21
    refine Stairs.is ?_ ?_ ?_
    rotate_left 1
    · intro x wR hR hd K hK
      simp only [Act.put, List.setIfInBounds_toArray, List.set_cons_zero, List.set_cons_succ, Nat.reduceAdd, List.length_nil, List.length_cons, List.nil_append, List.cons_append, Say.ok] at hK ⊢
      clear hd
      change Hid _ at hK
      obtain ⟨hcR, hfR, hzR⟩ := nwc hR
      first | (refine wanted_yes ?_ ?_; rfl) | (refine wanted_no ?_ ?_; rfl)
      go_wp2_with (first 
    | (go_at_call 24; refine (HMY.out _ (by repeat (first | assumption | exact Nw.refl _ | refine Nw.alloc ?_ _ | refine Nw.drew ?_ | refine Nw.drewN2 ?_ _ | (refine Nw.trans ?_ (by assumption))))).mono ?_; rintro e w5 ⟨rfl, hn5⟩)
    | (go_at_call 22; (with_reducible refine (HT1.out _ ?_).mono ?_); exact (by repeat (first | assumption | exact Nw.refl _ | refine Nw.alloc ?_ _ | refine Nw.drew ?_ | refine Nw.drewN2 ?_ _ | (refine Nw.trans ?_ (by assumption)))); rintro e w5 ⟨rfl, hn5⟩)
    | (go_at_call 22; (with_reducible refine (HT2.out _ ?_).mono ?_); exact (by repeat (first | assumption | exact Nw.refl _ | refine Nw.alloc ?_ _ | refine Nw.drew ?_ | refine Nw.drewN2 ?_ _ | (refine Nw.trans ?_ (by assumption)))); rintro e w5 ⟨rfl, hn5⟩)
    | (go_at_call 22; refine (HT3.out _ _ (by repeat (first | assumption | exact Nw.refl _ | refine Nw.alloc ?_ _ | refine Nw.drew ?_ | refine Nw.drewN2 ?_ _ | (refine Nw.trans ?_ (by assumption)))) (by first | exact hd | exact hd.1 | exact hd.2 | exact hd.2.1)).mono ?_; rintro e w5 ⟨rfl, hn5⟩)
    | (go_at_call 25; refine (HCT.out _ (by repeat (first | assumption | exact Nw.refl _ | refine Nw.alloc ?_ _ | refine Nw.drew ?_ | refine Nw.drewN2 ?_ _ | (refine Nw.trans ?_ (by assumption))))).mono ?_; rintro e w5 ⟨v5, rfl, hr5, hn5⟩))
      all_goals (refine hK.out _ _ ?_ ?_ <;> first | (solve | (repeat (first | assumption | exact Nw.refl _ | refine Nw.alloc ?_ _ | refine Nw.drew ?_ | refine Nw.drewN2 ?_ _ | (refine Nw.trans ?_ (by assumption))))) | exact rfl | exact hr5)
    try simp only [Act.put, List.setIfInBounds_toArray, List.set_cons_zero, List.set_cons_succ, Nat.reduceAdd, List.length_nil, List.length_cons, List.nil_append, List.cons_append]
  iterate 1
    refine Stairs.that (ReadsT ct) (by simp) ?_ ?_
    · intro x wR hR hd K hK
      simp only [Act.put, List.setIfInBounds_toArray, List.set_cons_zero, List.set_cons_succ, Nat.reduceAdd, List.length_nil, List.length_cons, List.nil_append, List.cons_append, Say.ok] at hK ⊢
      clear hd
      change Hid _ at hK
      obtain ⟨hcR, hfR, hzR⟩ := nwc hR
      first | (refine wanted_yes ?_ ?_; rfl) | (refine wanted_no ?_ ?_; rfl)
      go_wp2_with (first 
    | (go_at_call 24; refine (HMY.out _ (by repeat (first | assumption | exact Nw.refl _ | refine Nw.alloc ?_ _ | refine Nw.drew ?_ | refine Nw.drewN2 ?_ _ | (refine Nw.trans ?_ (by assumption))))).mono ?_; rintro e w5 ⟨rfl, hn5⟩)
    | (go_at_call 22; (with_reducible refine (HT1.out _ ?_).mono ?_); exact (by repeat (first | assumption | exact Nw.refl _ | refine Nw.alloc ?_ _ | refine Nw.drew ?_ | refine Nw.drewN2 ?_ _ | (refine Nw.trans ?_ (by assumption)))); rintro e w5 ⟨rfl, hn5⟩)
    | (go_at_call 22; (with_reducible refine (HT2.out _ ?_).mono ?_); exact (by repeat (first | assumption | exact Nw.refl _ | refine Nw.alloc ?_ _ | refine Nw.drew ?_ | refine Nw.drewN2 ?_ _ | (refine Nw.trans ?_ (by assumption)))); rintro e w5 ⟨rfl, hn5⟩)
    | (go_at_call 22; refine (HT3.out _ _ (by repeat (first | assumption | exact Nw.refl _ | refine Nw.alloc ?_ _ | refine Nw.drew ?_ | refine Nw.drewN2 ?_ _ | (refine Nw.trans ?_ (by assumption)))) (by first | exact hd | exact hd.1 | exact hd.2 | exact hd.2.1)).mono ?_; rintro e w5 ⟨rfl, hn5⟩)
    | (go_at_call 25; refine (HCT.out _ (by repeat (first | assumption | exact Nw.refl _ | refine Nw.alloc ?_ _ | refine Nw.drew ?_ | refine Nw.drewN2 ?_ _ | (refine Nw.trans ?_ (by assumption))))).mono ?_; rintro e w5 ⟨v5, rfl, hr5, hn5⟩))
      all_goals (refine hK.out _ _ ?_ ?_ <;> first | (solve | (repeat (first | assumption | exact Nw.refl _ | refine Nw.alloc ?_ _ | refine Nw.drew ?_ | refine Nw.drewN2 ?_ _ | (refine Nw.trans ?_ (by assumption))))) | exact rfl | exact hr5)
    try simp only [Act.put, List.setIfInBounds_toArray, List.set_cons_zero, List.set_cons_succ, Nat.reduceAdd, List.length_nil, List.length_cons, List.nil_append, List.cons_append]
  iterate 7
    refine Stairs.is ?_ ?_ ?_
    rotate_left 1
    · intro x wR hR hd K hK
      simp only [Act.put, List.setIfInBounds_toArray, List.set_cons_zero, List.set_cons_succ, Nat.reduceAdd, List.length_nil, List.length_cons, List.nil_append, List.cons_append, Say.ok] at hK ⊢
      try simp [Region.binds, sayAt, List.getD_cons_zero, List.getD_cons_succ, Say.ok, Vl] at hd
      try (first | have hs := str_ok hd | have hs := str_ok hd.2 | have hs := str_ok hd.1 | (obtain ⟨hd1, hd2, hd3⟩ := hd; first | have hs := str_ok hd1 | have hs := str_ok hd2 | have hs := str_ok hd3))
      change Hid _ at hK
      obtain ⟨hcR, hfR, hzR⟩ := nwc hR
      first | (refine wanted_yes ?_ ?_; rfl) | (refine wanted_no ?_ ?_; rfl)
      go_wp2_with (first 
    | (go_at_call 24; refine (HMY.out _ (by repeat (first | assumption | exact Nw.refl _ | refine Nw.alloc ?_ _ | refine Nw.drew ?_ | refine Nw.drewN2 ?_ _ | (refine Nw.trans ?_ (by assumption))))).mono ?_; rintro e w5 ⟨rfl, hn5⟩)
    | (go_at_call 22; (with_reducible refine (HT1.out _ ?_).mono ?_); exact (by repeat (first | assumption | exact Nw.refl _ | refine Nw.alloc ?_ _ | refine Nw.drew ?_ | refine Nw.drewN2 ?_ _ | (refine Nw.trans ?_ (by assumption)))); rintro e w5 ⟨rfl, hn5⟩)
    | (go_at_call 22; (with_reducible refine (HT2.out _ ?_).mono ?_); exact (by repeat (first | assumption | exact Nw.refl _ | refine Nw.alloc ?_ _ | refine Nw.drew ?_ | refine Nw.drewN2 ?_ _ | (refine Nw.trans ?_ (by assumption)))); rintro e w5 ⟨rfl, hn5⟩)
    | (go_at_call 22; refine (HT3.out _ _ (by repeat (first | assumption | exact Nw.refl _ | refine Nw.alloc ?_ _ | refine Nw.drew ?_ | refine Nw.drewN2 ?_ _ | (refine Nw.trans ?_ (by assumption)))) (by first | exact hd | exact hd.1 | exact hd.2 | exact hd.2.1)).mono ?_; rintro e w5 ⟨rfl, hn5⟩)
    | (go_at_call 25; refine (HCT.out _ (by repeat (first | assumption | exact Nw.refl _ | refine Nw.alloc ?_ _ | refine Nw.drew ?_ | refine Nw.drewN2 ?_ _ | (refine Nw.trans ?_ (by assumption))))).mono ?_; rintro e w5 ⟨v5, rfl, hr5, hn5⟩))
      all_goals (refine hK.out _ _ ?_ ?_ <;> first | (solve | (repeat (first | assumption | exact Nw.refl _ | refine Nw.alloc ?_ _ | refine Nw.drew ?_ | refine Nw.drewN2 ?_ _ | (refine Nw.trans ?_ (by assumption))))) | exact rfl | exact hr5)
    try simp only [Act.put, List.setIfInBounds_toArray, List.set_cons_zero, List.set_cons_succ, Nat.reduceAdd, List.length_nil, List.length_cons, List.nil_append, List.cons_append]
  refine Stairs.nil ?_
  intro x wR hR hx
  have h21 := hx 21 (by decide)
  simp only [sayAt, List.getD_cons_zero, List.getD_cons_succ, Say.ok, Vl] at h21
  clear hx
  obtain ⟨hcR, hfR, hzR⟩ := nwc hR
  clear h21 HT1 HT2 HT3 HCT HMY
  have x0 := hR.cell x0
  have x1 := hR.cell x1
  have hz0 := Nat.lt_of_lt_of_le hz0 hR.size
  go_wp2
  go_loopw [13, 14, 55] (fun _ _ i wr => ∃ k : Nat, k ≤ a.evs.length ∧ i = .int .i64 k ∧ Nw wR wr) (fun _ _ i _ => a.evs.length - (intOf i).toNat)
  case atStart => exact ⟨0, Nat.zero_le _, rfl, Nw.refl _⟩
  case round =>
    obtain ⟨k, hk, rfl, hnr⟩ := hrel
    have x0 := hnr.cell x0
    have x1 := hnr.cell x1
    have hz0 := Nat.lt_of_lt_of_le hz0 hnr.size
    by_cases hlt : k < a.evs.length
    · have hdk : decide (k < a.evs.length) = true := decide_eq_true hlt
      obtain ⟨b1, o1, vi, rfl, d0, d1, hsl⟩ := (HC3.out.nw (hR.trans hnr)) k hlt
      obtain ⟨q, c, rfl, hcq, hmq, _, _⟩ := i64s_open hsl
      have HHK := hid (fun j hj => HHO.out k j hlt hj)
      unfold maxLen at hmq
      clear HHO
      generalize ids a.evs k = l at *
      generalize tm a.evs k = tk at *
      go_wp2
      have hnz := (Nw.refl wr).alloc (.cells #[.int .u64 tk, .slice q l.length c] 39)
      obtain ⟨z0, z1⟩ := box2 wr (.int .u64 tk) (.slice q l.length c) 39
      have xA0 := hnz.cell x0
      have xA1 := hnz.cell x1
      have hzA := Nat.lt_of_lt_of_le hz0 hnz.size
      have hzz := lt_alloc wr (.cells #[.int .u64 tk, .slice q l.length c] 39)
      generalize wr.alloc (.cells #[.int .u64 tk, .slice q l.length c] 39) = wz at *
      have HSZ := hid (hsl.nw hnz)
      have hno := hnr.trans hnz
      generalize wr.heap.size = g14 at *
      clear hsl hnz d0 d1 hnr
      go_loopw [15, 16, 63] (fun _ _ i wq => ∃ j : Nat, j ≤ 3 ∧ i = .int .i64 j ∧ Nw wz wq) (fun _ _ i _ => 3 - (intOf i).toNat)
      case atStart => exact ⟨0, by omega, rfl, Nw.refl _⟩
      case round =>
        obtain ⟨j, hj, rfl, hnq⟩ := hrel
        have xB0 := hnq.cell xA0
        have xB1 := hnq.cell xA1
        have zB1 := hnq.cell z1
        have hzB := Nat.lt_of_lt_of_le hzA hnq.size
        have hzzB := Nat.lt_of_lt_of_le hzz hnq.size
        have hwq := hR.trans (hno.trans hnq)
        by_cases hltj : j < 3
        · have hdj : decide ((j : Int) < 3) = true := decide_eq_true (by omega)
          obtain ⟨b3, o3, rfl, hcj⟩ := strs_cell (HCN.out.nw hwq) j (show j < pqr.length from hltj)
          have egj : pqr[j]'(show j < pqr.length from hltj) = pqr.getD j ⟨#[]⟩ := by simp [List.getD_eq_getElem?_getD, show j < pqr.length from hltj]
          rw [egj] at hcj
          have HHJ := hid (HHK.out j hltj)
          have HCJ := hid (fun w' (h : Nw wr w') => containsi_c (.slice q l.length c) l (j : Int) w' (HSZ.out.nw (hnq.trans h)))
          clear egj HHK
          generalize pqr.getD j ⟨#[]⟩ = sj at *
          generalize decide ((j : Int) ∈ l) = B at *
          go_upto_region 10 with fail
          refine wp_region_stairs (by kernel_rfl) (by kernel_rfl) (by kernel_rfl) ?_
          iterate 9
            refine Stairs.is ?_ ?_ ?_
            rotate_left 1
            · intro x wR hR hd K hK
              simp only [Act.put, List.setIfInBounds_toArray, List.set_cons_zero, List.set_cons_succ, Nat.reduceAdd, List.length_nil, List.length_cons, List.nil_append, List.cons_append, Say.ok] at hK ⊢
              clear hd
              change Hid _ at hK
              obtain ⟨hcR, hfR, hzR⟩ := nwc hR
              first | (refine wanted_yes ?_ ?_; rfl) | (refine wanted_no ?_ ?_; rfl)
              go_wp2_with (first 
            | (go_at_call 26; refine (HHJ.out _ (hwq.trans (by repeat (first | assumption | exact Nw.refl _ | refine Nw.alloc ?_ _ | refine Nw.drew ?_ | refine Nw.drewN2 ?_ _ | (refine Nw.trans ?_ (by assumption)))))).mono ?_; rintro e w6 ⟨rfl, hn6⟩)
            | (go_at_call 27; refine (HCJ.out _ (by repeat (first | assumption | exact Nw.refl _ | refine Nw.alloc ?_ _ | refine Nw.drew ?_ | refine Nw.drewN2 ?_ _ | (refine Nw.trans ?_ (by assumption))))).mono ?_; rintro e w7 ⟨rfl, hn7⟩))
              all_goals (refine hK.out _ _ ?_ ?_ <;> first | (solve | (repeat (first | assumption | exact Nw.refl _ | refine Nw.alloc ?_ _ | refine Nw.drew ?_ | refine Nw.drewN2 ?_ _ | (refine Nw.trans ?_ (by assumption))))) | exact rfl)
            try simp only [Act.put, List.setIfInBounds_toArray, List.set_cons_zero, List.set_cons_succ, Nat.reduceAdd, List.length_nil, List.length_cons, List.nil_append, List.cons_append]
          refine Stairs.nil ?_
          intro x wR hR hx
          clear hx
          obtain ⟨hcR, hfR, hzR⟩ := nwc hR
          go_wp2
          go_roundw
          case rel => exact ⟨j + 1, by omega, by go_num, hnq.trans (by repeat (first | assumption | exact Nw.refl _ | refine Nw.alloc ?_ _ | refine Nw.drew ?_ | refine Nw.drewN2 ?_ _ | (refine Nw.trans ?_ (by assumption))))⟩
          case measure => simp [intOf]; omega
        · obtain rfl : j = 3 := by omega
          have hdj : decide ((3 : Int) < 3) = false := rfl
          go_wp2
          go_roundw
          case rel => exact ⟨k + 1, by omega, by go_num, hno.trans hnq⟩
          case measure => simp [intOf]; omega
    · obtain rfl : k = a.evs.length := by omega
      have hdk : decide (a.evs.length < a.evs.length) = false := decide_eq_false (by omega)
      go_wp2_with (first
        | (go_at_call 17; refine (awake_c _).mono ?_; rintro e w6 ⟨rfl, hn6⟩)
        | fail)
      go_ret
      exact ⟨rfl, hw3.trans (hR.trans (hnr.trans (by repeat (first | assumption | exact Nw.refl _ | refine Nw.alloc ?_ _ | refine Nw.drew ?_ | refine Nw.drewN2 ?_ _ | (refine Nw.trans ?_ (by assumption))))))⟩
end Tr
end Go.Proofs.Ytjelbfodkacipaa
