/- LogEncodes, LogDecodes, LogSpoilt, LogBack walked: each returns true. No condition but lengths. -/
import Derived.Test.YtjelbfodkacipaaLogI
import Derived.Test.YtjelbfodkacipaaTrN
import Derived.Test.YtjelbfodkacipaaTrL
set_option linter.unusedSimpArgs false
set_option linter.unusedVariables false
namespace Go.Proofs.Ytjelbfodkacipaa
open Go.ChangeShapes Go.WideShapes Go.ChangeAt Go.RowKit
namespace Lg
open Go.Proofs.Ytjelbfodkacipaa.Lx (isIn nameB strs_open strs_cell)
open Go.Proofs.Ytjelbfodkacipaa.Sum (byte put right Hands8 HandsR)
open Go.Proofs.Ytjelbfodkacipaa.Tr (T Es tm ids mayP namesP nmB nOk Evs EC Small In EvIn box2 lt_alloc TrR evs_shape samet_same makeP make_may make_len make_small make_c3 u16s u16s_length pqr rmay_c runM runM_facts runM_fine Fine)
/-! ### What Make makes -/
theorem make_tb (start : Int) (h0 : 0 ≤ start) (ns : List Nat) : Tb (makeP start ns).evs := by
  intro i hi
  have h1 := runM_fine start h0 (ns.take 60) i hi
  have h2 := runM_facts start h0 (ns.take 60)
  have h3 : (ns.take 60).length ≤ 60 := by rw [List.length_take]; omega
  refine ⟨h1.2.2.1, ?_⟩
  have h4 := h1.2.1
  show tm (runM start (ns.take 60)).2 i < _
  omega
theorem in_tb {b : Nat} {t : T} (h : In b t) : Tb t.evs := fun i hi => ⟨(h.i i hi).1.1, (h.i i hi).1.2⟩
theorem make_enc (start : Int) (h0 : 0 ≤ start) (ns : List Nat) : (encP (makeP start ns)).length ≤ 10000 := by
  have hm := make_may start h0 ns
  have := enc_small (makeP start ns) hm (makeP start ns).evs.length
  have hl := make_len start h0 ns
  rw [List.take_length] at this
  unfold encP
  rw [if_pos hm]
  omega
theorem enc_len9 (t : T) (h : mayP t = true) : 9 ≤ (encP t).length := by
  unfold encP
  rw [if_pos h, List.length_append, header_len]
  omega
/-! ### LogEncodes -/
set_option maxRecDepth 20000 in
set_option maxHeartbeats 1600000 in
theorem encodes_walk (vn ve : Value) (t : T) (start : Int) (h0 : 0 ≤ start) (h64 : start < 18446744073709551616) (v1 : Value) (ns : List Nat) (w : World) (hvn : Sl w vn (Lx.strs t.names)) (hve : Evs w ve t.evs) (ha : Small t) (hlen : t.evs.length ≤ 10000000) (htb : Tb t.evs) (hv1 : Sl w v1 (u16s ns)) (hns : ∀ n ∈ ns, n ≤ 65535) :
    Calls Try.prog 8 #[.agg #[vn, ve], .int .u64 start, v1] w fun e w' => e = .returned (.bool true) ∧ Nw w w' := by
  have HM1 := hid (fun w' (h : Nw w w') => make_c3 start h0 h64 v1 ns w' (hv1.nw h) hns)
  have HE0 := hid (fun w' (h : Nw w w') => encode_c vn ve t w' (hvn.nw h) (hve.nw h) ha hlen htb)
  have HR0 := hid (fun w' (h : Nw w w') => rencode_c vn ve t w' (hvn.nw h) (hve.nw h) ha hlen htb)
  have HEE := hid (fun (x y : Value) w' (h1 : Sl w' x (Lx.strs pqr)) (h2 : Evs w' y (makeP start ns).evs) => encode_c x y (makeP start ns) w' h1 h2 (make_small start h0 ns) (Nat.le_trans (make_len start h0 ns) (by decide)) (make_tb start h0 ns))
  have HRR := hid (fun (x y : Value) w' (h1 : Sl w' x (Lx.strs pqr)) (h2 : Evs w' y (makeP start ns).evs) => rencode_c x y (makeP start ns) w' h1 h2 (make_small start h0 ns) (Nat.le_trans (make_len start h0 ns) (by decide)) (make_tb start h0 ns))
  obtain ⟨p1, k1, rfl, _, _, _, _⟩ := strs_open hvn
  obtain ⟨p3, k3, rfl, _, _, _, _⟩ := hve
  obtain ⟨p5, k5, rfl, _, _, _, _⟩ := hv1.open (u16s_length ns)
  clear ha hvn hv1 hns hlen htb
  generalize encP t = et at *
  generalize encP (makeP start ns) = em at *
  generalize makeP start ns = a at *
  generalize t.names.length = na at *
  generalize t.evs.length = ea at *
  generalize ns.length = nl at *
  go_enter Try.func8, Try.ntmps8
  go_upto_region 1 with fail
  obtain ⟨x0, x1⟩ := box2 w (.slice p1 na k1) (.slice p3 ea k3) 26
  have hn0 := (Nw.refl w).alloc (.cells #[.slice p1 na k1, .slice p3 ea k3] 26)
  have hz0 := lt_alloc w (.cells #[.slice p1 na k1, .slice p3 ea k3] 26)
  generalize w.alloc (.cells #[.slice p1 na k1, .slice p3 ea k3] 26) = w0 at *
  go_upto_region 2 with (first
    | (go_at_call 23; refine (HM1.out _ (by repeat (first | assumption | exact Nw.refl _ | refine Nw.alloc ?_ _ | refine Nw.drew ?_ | refine Nw.drewN2 ?_ _ | (refine Nw.trans ?_ (by assumption))))).mono ?_; rintro e w2 ⟨q1, c1, q2, c2, rfl, hs1, he1, hn2⟩)
    | fail)
  replace x0 := hn2.cell x0
  replace x1 := hn2.cell x1
  generalize a.evs.length = n at *
  obtain ⟨u0, u1⟩ := box2 w2 (.slice q1 3 c1) (.slice q2 n c2) 26
  have hn3 := (Nw.refl w2).alloc (.cells #[.slice q1 3 c1, .slice q2 n c2] 26)
  have lu := lt_alloc w2 (.cells #[.slice q1 3 c1, .slice q2 n c2] 26)
  replace x0 := hn3.cell x0
  replace x1 := hn3.cell x1
  replace hz0 := Nat.lt_of_lt_of_le hz0 (Nat.le_trans hn2.size hn3.size)
  replace hs1 := hs1.nw hn3
  replace he1 := he1.nw hn3
  have hw3 : Nw w (w2.alloc (.cells #[.slice q1 3 c1, .slice q2 n c2] 26)) := hn0.trans (hn2.trans hn3)
  clear hn0 hn2 hn3 HM1
  generalize w2.alloc (.cells #[.slice q1 3 c1, .slice q2 n c2] 26) = w3 at *
  generalize w2.heap.size = g9 at *
  replace HE0 := hid (fun w' (h : Nw w3 w') => HE0.out w' (hw3.trans h))
  replace HR0 := hid (fun w' (h : Nw w3 w') => HR0.out w' (hw3.trans h))
  replace HEE := hid (fun w' (h : Nw w3 w') => HEE.out _ _ w' (hs1.nw h) (he1.nw h))
  replace HRR := hid (fun w' (h : Nw w3 w') => HRR.out _ _ w' (hs1.nw h) (he1.nw h))
  clear hs1 he1
  refine wp_region_stairs (by kernel_rfl) (by kernel_rfl) (by kernel_rfl) ?_
  iterate 1
    refine Stairs.is ?_ ?_ ?_
    rotate_left 1
    · intro x wR hR hd K hK
      simp only [Act.put, List.setIfInBounds_toArray, List.set_cons_zero, List.set_cons_succ, Nat.reduceAdd, List.length_nil, List.length_cons, List.nil_append, List.cons_append, Say.ok] at hK ⊢
      clear hd
      change Hid _ at hK
      obtain ⟨hcR, hfR, hzR⟩ := nwc hR
      first | (refine wanted_yes ?_ ?_; rfl) | (refine wanted_no ?_ ?_; rfl)
      go_wp2_with (first 
        | (go_at_call 33; (with_reducible refine (HE0.out _ (by repeat (first | assumption | exact Nw.refl _ | refine Nw.alloc ?_ _ | refine Nw.drew ?_ | refine Nw.drewN2 ?_ _ | (refine Nw.trans ?_ (by assumption))))).mono ?_); rintro e w5 ⟨v5, rfl, hown5, hn5⟩)
        | (go_at_call 33; (with_reducible refine (HEE.out _ (by repeat (first | assumption | exact Nw.refl _ | refine Nw.alloc ?_ _ | refine Nw.drew ?_ | refine Nw.drewN2 ?_ _ | (refine Nw.trans ?_ (by assumption))))).mono ?_); rintro e w5 ⟨v5, rfl, hown5, hn5⟩)
        | (go_at_call 34; (with_reducible refine (HR0.out _ (by repeat (first | assumption | exact Nw.refl _ | refine Nw.alloc ?_ _ | refine Nw.drew ?_ | refine Nw.drewN2 ?_ _ | (refine Nw.trans ?_ (by assumption))))).mono ?_); rintro e w5 ⟨v5, rfl, hown5, hn5⟩)
        | (go_at_call 34; (with_reducible refine (HRR.out _ (by repeat (first | assumption | exact Nw.refl _ | refine Nw.alloc ?_ _ | refine Nw.drew ?_ | refine Nw.drewN2 ?_ _ | (refine Nw.trans ?_ (by assumption))))).mono ?_); rintro e w5 ⟨v5, rfl, hown5, hn5⟩)
        | (go_at_call 35; refine (awake_c _).mono ?_; rintro e w5 ⟨rfl, hn5⟩))
      all_goals (refine hK.out _ _ ?_ ?_ <;> first | (solve | (repeat (first | assumption | exact Nw.refl _ | refine Nw.alloc ?_ _ | refine Nw.drew ?_ | refine Nw.drewN2 ?_ _ | (refine Nw.trans ?_ (by assumption))))) | exact rfl | exact Own.sl (by assumption))
    try simp only [Act.put, List.setIfInBounds_toArray, List.set_cons_zero, List.set_cons_succ, Nat.reduceAdd, List.length_nil, List.length_cons, List.nil_append, List.cons_append]
  iterate 1
    refine Stairs.that (Reads8 et) (by simp) ?_ ?_
    · intro x wR hR hd K hK
      simp only [Act.put, List.setIfInBounds_toArray, List.set_cons_zero, List.set_cons_succ, Nat.reduceAdd, List.length_nil, List.length_cons, List.nil_append, List.cons_append, Say.ok] at hK ⊢
      clear hd
      change Hid _ at hK
      obtain ⟨hcR, hfR, hzR⟩ := nwc hR
      first | (refine wanted_yes ?_ ?_; rfl) | (refine wanted_no ?_ ?_; rfl)
      go_wp2_with (first 
        | (go_at_call 33; (with_reducible refine (HE0.out _ (by repeat (first | assumption | exact Nw.refl _ | refine Nw.alloc ?_ _ | refine Nw.drew ?_ | refine Nw.drewN2 ?_ _ | (refine Nw.trans ?_ (by assumption))))).mono ?_); rintro e w5 ⟨v5, rfl, hown5, hn5⟩)
        | (go_at_call 33; (with_reducible refine (HEE.out _ (by repeat (first | assumption | exact Nw.refl _ | refine Nw.alloc ?_ _ | refine Nw.drew ?_ | refine Nw.drewN2 ?_ _ | (refine Nw.trans ?_ (by assumption))))).mono ?_); rintro e w5 ⟨v5, rfl, hown5, hn5⟩)
        | (go_at_call 34; (with_reducible refine (HR0.out _ (by repeat (first | assumption | exact Nw.refl _ | refine Nw.alloc ?_ _ | refine Nw.drew ?_ | refine Nw.drewN2 ?_ _ | (refine Nw.trans ?_ (by assumption))))).mono ?_); rintro e w5 ⟨v5, rfl, hown5, hn5⟩)
        | (go_at_call 34; (with_reducible refine (HRR.out _ (by repeat (first | assumption | exact Nw.refl _ | refine Nw.alloc ?_ _ | refine Nw.drew ?_ | refine Nw.drewN2 ?_ _ | (refine Nw.trans ?_ (by assumption))))).mono ?_); rintro e w5 ⟨v5, rfl, hown5, hn5⟩)
        | (go_at_call 35; refine (awake_c _).mono ?_; rintro e w5 ⟨rfl, hn5⟩))
      all_goals (refine hK.out _ _ ?_ ?_ <;> first | (solve | (repeat (first | assumption | exact Nw.refl _ | refine Nw.alloc ?_ _ | refine Nw.drew ?_ | refine Nw.drewN2 ?_ _ | (refine Nw.trans ?_ (by assumption))))) | exact rfl | exact Own.sl (by assumption))
    try simp only [Act.put, List.setIfInBounds_toArray, List.set_cons_zero, List.set_cons_succ, Nat.reduceAdd, List.length_nil, List.length_cons, List.nil_append, List.cons_append]
  iterate 2
    refine Stairs.is ?_ ?_ ?_
    rotate_left 1
    · intro x wR hR hd K hK
      simp only [Act.put, List.setIfInBounds_toArray, List.set_cons_zero, List.set_cons_succ, Nat.reduceAdd, List.length_nil, List.length_cons, List.nil_append, List.cons_append, Say.ok] at hK ⊢
      try simp [Region.binds, sayAt, List.getD_cons_zero, List.getD_cons_succ, Say.ok, Vl] at hd
      try (first | have hs := str_ok hd | have hs := str_ok hd.2 | have hs := str_ok hd.1 | (obtain ⟨hd1, hd2, hd3⟩ := hd; first | have hs := str_ok hd1 | have hs := str_ok hd2 | have hs := str_ok hd3))
      change Hid _ at hK
      obtain ⟨hcR, hfR, hzR⟩ := nwc hR
      first | (refine wanted_yes ?_ ?_; rfl) | (refine wanted_no ?_ ?_; rfl)
      go_wp2_with (first 
        | (go_at_call 33; (with_reducible refine (HE0.out _ (by repeat (first | assumption | exact Nw.refl _ | refine Nw.alloc ?_ _ | refine Nw.drew ?_ | refine Nw.drewN2 ?_ _ | (refine Nw.trans ?_ (by assumption))))).mono ?_); rintro e w5 ⟨v5, rfl, hown5, hn5⟩)
        | (go_at_call 33; (with_reducible refine (HEE.out _ (by repeat (first | assumption | exact Nw.refl _ | refine Nw.alloc ?_ _ | refine Nw.drew ?_ | refine Nw.drewN2 ?_ _ | (refine Nw.trans ?_ (by assumption))))).mono ?_); rintro e w5 ⟨v5, rfl, hown5, hn5⟩)
        | (go_at_call 34; (with_reducible refine (HR0.out _ (by repeat (first | assumption | exact Nw.refl _ | refine Nw.alloc ?_ _ | refine Nw.drew ?_ | refine Nw.drewN2 ?_ _ | (refine Nw.trans ?_ (by assumption))))).mono ?_); rintro e w5 ⟨v5, rfl, hown5, hn5⟩)
        | (go_at_call 34; (with_reducible refine (HRR.out _ (by repeat (first | assumption | exact Nw.refl _ | refine Nw.alloc ?_ _ | refine Nw.drew ?_ | refine Nw.drewN2 ?_ _ | (refine Nw.trans ?_ (by assumption))))).mono ?_); rintro e w5 ⟨v5, rfl, hown5, hn5⟩)
        | (go_at_call 35; refine (awake_c _).mono ?_; rintro e w5 ⟨rfl, hn5⟩))
      all_goals (refine hK.out _ _ ?_ ?_ <;> first | (solve | (repeat (first | assumption | exact Nw.refl _ | refine Nw.alloc ?_ _ | refine Nw.drew ?_ | refine Nw.drewN2 ?_ _ | (refine Nw.trans ?_ (by assumption))))) | exact rfl | exact Own.sl (by assumption))
    try simp only [Act.put, List.setIfInBounds_toArray, List.set_cons_zero, List.set_cons_succ, Nat.reduceAdd, List.length_nil, List.length_cons, List.nil_append, List.cons_append]
  iterate 1
    refine Stairs.that (Reads8 et) (by simp) ?_ ?_
    · intro x wR hR hd K hK
      simp only [Act.put, List.setIfInBounds_toArray, List.set_cons_zero, List.set_cons_succ, Nat.reduceAdd, List.length_nil, List.length_cons, List.nil_append, List.cons_append, Say.ok] at hK ⊢
      try simp [Region.binds, sayAt, List.getD_cons_zero, List.getD_cons_succ, Say.ok, Vl] at hd
      try (first | have hs := str_ok hd | have hs := str_ok hd.2 | have hs := str_ok hd.1 | (obtain ⟨hd1, hd2, hd3⟩ := hd; first | have hs := str_ok hd1 | have hs := str_ok hd2 | have hs := str_ok hd3))
      change Hid _ at hK
      obtain ⟨hcR, hfR, hzR⟩ := nwc hR
      first | (refine wanted_yes ?_ ?_; rfl) | (refine wanted_no ?_ ?_; rfl)
      go_wp2_with (first 
        | (go_at_call 33; (with_reducible refine (HE0.out _ (by repeat (first | assumption | exact Nw.refl _ | refine Nw.alloc ?_ _ | refine Nw.drew ?_ | refine Nw.drewN2 ?_ _ | (refine Nw.trans ?_ (by assumption))))).mono ?_); rintro e w5 ⟨v5, rfl, hown5, hn5⟩)
        | (go_at_call 33; (with_reducible refine (HEE.out _ (by repeat (first | assumption | exact Nw.refl _ | refine Nw.alloc ?_ _ | refine Nw.drew ?_ | refine Nw.drewN2 ?_ _ | (refine Nw.trans ?_ (by assumption))))).mono ?_); rintro e w5 ⟨v5, rfl, hown5, hn5⟩)
        | (go_at_call 34; (with_reducible refine (HR0.out _ (by repeat (first | assumption | exact Nw.refl _ | refine Nw.alloc ?_ _ | refine Nw.drew ?_ | refine Nw.drewN2 ?_ _ | (refine Nw.trans ?_ (by assumption))))).mono ?_); rintro e w5 ⟨v5, rfl, hown5, hn5⟩)
        | (go_at_call 34; (with_reducible refine (HRR.out _ (by repeat (first | assumption | exact Nw.refl _ | refine Nw.alloc ?_ _ | refine Nw.drew ?_ | refine Nw.drewN2 ?_ _ | (refine Nw.trans ?_ (by assumption))))).mono ?_); rintro e w5 ⟨v5, rfl, hown5, hn5⟩)
        | (go_at_call 35; refine (awake_c _).mono ?_; rintro e w5 ⟨rfl, hn5⟩))
      all_goals (refine hK.out _ _ ?_ ?_ <;> first | (solve | (repeat (first | assumption | exact Nw.refl _ | refine Nw.alloc ?_ _ | refine Nw.drew ?_ | refine Nw.drewN2 ?_ _ | (refine Nw.trans ?_ (by assumption))))) | exact rfl | exact Own.sl (by assumption))
    try simp only [Act.put, List.setIfInBounds_toArray, List.set_cons_zero, List.set_cons_succ, Nat.reduceAdd, List.length_nil, List.length_cons, List.nil_append, List.cons_append]
  iterate 4
    refine Stairs.is ?_ ?_ ?_
    rotate_left 1
    · intro x wR hR hd K hK
      simp only [Act.put, List.setIfInBounds_toArray, List.set_cons_zero, List.set_cons_succ, Nat.reduceAdd, List.length_nil, List.length_cons, List.nil_append, List.cons_append, Say.ok] at hK ⊢
      try simp [Region.binds, sayAt, List.getD_cons_zero, List.getD_cons_succ, Say.ok, Vl] at hd
      try (first | have hs := str_ok hd | have hs := str_ok hd.2 | have hs := str_ok hd.1 | (obtain ⟨hd1, hd2, hd3⟩ := hd; first | have hs := str_ok hd1 | have hs := str_ok hd2 | have hs := str_ok hd3))
      change Hid _ at hK
      obtain ⟨hcR, hfR, hzR⟩ := nwc hR
      first | (refine wanted_yes ?_ ?_; rfl) | (refine wanted_no ?_ ?_; rfl)
      go_wp2_with (first 
        | (go_at_call 33; (with_reducible refine (HE0.out _ (by repeat (first | assumption | exact Nw.refl _ | refine Nw.alloc ?_ _ | refine Nw.drew ?_ | refine Nw.drewN2 ?_ _ | (refine Nw.trans ?_ (by assumption))))).mono ?_); rintro e w5 ⟨v5, rfl, hown5, hn5⟩)
        | (go_at_call 33; (with_reducible refine (HEE.out _ (by repeat (first | assumption | exact Nw.refl _ | refine Nw.alloc ?_ _ | refine Nw.drew ?_ | refine Nw.drewN2 ?_ _ | (refine Nw.trans ?_ (by assumption))))).mono ?_); rintro e w5 ⟨v5, rfl, hown5, hn5⟩)
        | (go_at_call 34; (with_reducible refine (HR0.out _ (by repeat (first | assumption | exact Nw.refl _ | refine Nw.alloc ?_ _ | refine Nw.drew ?_ | refine Nw.drewN2 ?_ _ | (refine Nw.trans ?_ (by assumption))))).mono ?_); rintro e w5 ⟨v5, rfl, hown5, hn5⟩)
        | (go_at_call 34; (with_reducible refine (HRR.out _ (by repeat (first | assumption | exact Nw.refl _ | refine Nw.alloc ?_ _ | refine Nw.drew ?_ | refine Nw.drewN2 ?_ _ | (refine Nw.trans ?_ (by assumption))))).mono ?_); rintro e w5 ⟨v5, rfl, hown5, hn5⟩)
        | (go_at_call 35; refine (awake_c _).mono ?_; rintro e w5 ⟨rfl, hn5⟩))
      all_goals (refine hK.out _ _ ?_ ?_ <;> first | (solve | (repeat (first | assumption | exact Nw.refl _ | refine Nw.alloc ?_ _ | refine Nw.drew ?_ | refine Nw.drewN2 ?_ _ | (refine Nw.trans ?_ (by assumption))))) | exact rfl | exact Own.sl (by assumption))
    try simp only [Act.put, List.setIfInBounds_toArray, List.set_cons_zero, List.set_cons_succ, Nat.reduceAdd, List.length_nil, List.length_cons, List.nil_append, List.cons_append]
  iterate 1
    refine Stairs.that (Reads8 em) (by simp) ?_ ?_
    · intro x wR hR hd K hK
      simp only [Act.put, List.setIfInBounds_toArray, List.set_cons_zero, List.set_cons_succ, Nat.reduceAdd, List.length_nil, List.length_cons, List.nil_append, List.cons_append, Say.ok] at hK ⊢
      try simp [Region.binds, sayAt, List.getD_cons_zero, List.getD_cons_succ, Say.ok, Vl] at hd
      try (first | have hs := str_ok hd | have hs := str_ok hd.2 | have hs := str_ok hd.1 | (obtain ⟨hd1, hd2, hd3⟩ := hd; first | have hs := str_ok hd1 | have hs := str_ok hd2 | have hs := str_ok hd3))
      change Hid _ at hK
      obtain ⟨hcR, hfR, hzR⟩ := nwc hR
      first | (refine wanted_yes ?_ ?_; rfl) | (refine wanted_no ?_ ?_; rfl)
      go_wp2_with (first 
        | (go_at_call 33; (with_reducible refine (HE0.out _ (by repeat (first | assumption | exact Nw.refl _ | refine Nw.alloc ?_ _ | refine Nw.drew ?_ | refine Nw.drewN2 ?_ _ | (refine Nw.trans ?_ (by assumption))))).mono ?_); rintro e w5 ⟨v5, rfl, hown5, hn5⟩)
        | (go_at_call 33; (with_reducible refine (HEE.out _ (by repeat (first | assumption | exact Nw.refl _ | refine Nw.alloc ?_ _ | refine Nw.drew ?_ | refine Nw.drewN2 ?_ _ | (refine Nw.trans ?_ (by assumption))))).mono ?_); rintro e w5 ⟨v5, rfl, hown5, hn5⟩)
        | (go_at_call 34; (with_reducible refine (HR0.out _ (by repeat (first | assumption | exact Nw.refl _ | refine Nw.alloc ?_ _ | refine Nw.drew ?_ | refine Nw.drewN2 ?_ _ | (refine Nw.trans ?_ (by assumption))))).mono ?_); rintro e w5 ⟨v5, rfl, hown5, hn5⟩)
        | (go_at_call 34; (with_reducible refine (HRR.out _ (by repeat (first | assumption | exact Nw.refl _ | refine Nw.alloc ?_ _ | refine Nw.drew ?_ | refine Nw.drewN2 ?_ _ | (refine Nw.trans ?_ (by assumption))))).mono ?_); rintro e w5 ⟨v5, rfl, hown5, hn5⟩)
        | (go_at_call 35; refine (awake_c _).mono ?_; rintro e w5 ⟨rfl, hn5⟩))
      all_goals (refine hK.out _ _ ?_ ?_ <;> first | (solve | (repeat (first | assumption | exact Nw.refl _ | refine Nw.alloc ?_ _ | refine Nw.drew ?_ | refine Nw.drewN2 ?_ _ | (refine Nw.trans ?_ (by assumption))))) | exact rfl | exact Own.sl (by assumption))
    try simp only [Act.put, List.setIfInBounds_toArray, List.set_cons_zero, List.set_cons_succ, Nat.reduceAdd, List.length_nil, List.length_cons, List.nil_append, List.cons_append]
  iterate 2
    refine Stairs.is ?_ ?_ ?_
    rotate_left 1
    · intro x wR hR hd K hK
      simp only [Act.put, List.setIfInBounds_toArray, List.set_cons_zero, List.set_cons_succ, Nat.reduceAdd, List.length_nil, List.length_cons, List.nil_append, List.cons_append, Say.ok] at hK ⊢
      try simp [Region.binds, sayAt, List.getD_cons_zero, List.getD_cons_succ, Say.ok, Vl] at hd
      try (first | have hs := str_ok hd | have hs := str_ok hd.2 | have hs := str_ok hd.1 | (obtain ⟨hd1, hd2, hd3⟩ := hd; first | have hs := str_ok hd1 | have hs := str_ok hd2 | have hs := str_ok hd3))
      change Hid _ at hK
      obtain ⟨hcR, hfR, hzR⟩ := nwc hR
      first | (refine wanted_yes ?_ ?_; rfl) | (refine wanted_no ?_ ?_; rfl)
      go_wp2_with (first 
        | (go_at_call 33; (with_reducible refine (HE0.out _ (by repeat (first | assumption | exact Nw.refl _ | refine Nw.alloc ?_ _ | refine Nw.drew ?_ | refine Nw.drewN2 ?_ _ | (refine Nw.trans ?_ (by assumption))))).mono ?_); rintro e w5 ⟨v5, rfl, hown5, hn5⟩)
        | (go_at_call 33; (with_reducible refine (HEE.out _ (by repeat (first | assumption | exact Nw.refl _ | refine Nw.alloc ?_ _ | refine Nw.drew ?_ | refine Nw.drewN2 ?_ _ | (refine Nw.trans ?_ (by assumption))))).mono ?_); rintro e w5 ⟨v5, rfl, hown5, hn5⟩)
        | (go_at_call 34; (with_reducible refine (HR0.out _ (by repeat (first | assumption | exact Nw.refl _ | refine Nw.alloc ?_ _ | refine Nw.drew ?_ | refine Nw.drewN2 ?_ _ | (refine Nw.trans ?_ (by assumption))))).mono ?_); rintro e w5 ⟨v5, rfl, hown5, hn5⟩)
        | (go_at_call 34; (with_reducible refine (HRR.out _ (by repeat (first | assumption | exact Nw.refl _ | refine Nw.alloc ?_ _ | refine Nw.drew ?_ | refine Nw.drewN2 ?_ _ | (refine Nw.trans ?_ (by assumption))))).mono ?_); rintro e w5 ⟨v5, rfl, hown5, hn5⟩)
        | (go_at_call 35; refine (awake_c _).mono ?_; rintro e w5 ⟨rfl, hn5⟩))
      all_goals (refine hK.out _ _ ?_ ?_ <;> first | (solve | (repeat (first | assumption | exact Nw.refl _ | refine Nw.alloc ?_ _ | refine Nw.drew ?_ | refine Nw.drewN2 ?_ _ | (refine Nw.trans ?_ (by assumption))))) | exact rfl | exact Own.sl (by assumption))
    try simp only [Act.put, List.setIfInBounds_toArray, List.set_cons_zero, List.set_cons_succ, Nat.reduceAdd, List.length_nil, List.length_cons, List.nil_append, List.cons_append]
  iterate 1
    refine Stairs.that (Reads8 em) (by simp) ?_ ?_
    · intro x wR hR hd K hK
      simp only [Act.put, List.setIfInBounds_toArray, List.set_cons_zero, List.set_cons_succ, Nat.reduceAdd, List.length_nil, List.length_cons, List.nil_append, List.cons_append, Say.ok] at hK ⊢
      try simp [Region.binds, sayAt, List.getD_cons_zero, List.getD_cons_succ, Say.ok, Vl] at hd
      try (first | have hs := str_ok hd | have hs := str_ok hd.2 | have hs := str_ok hd.1 | (obtain ⟨hd1, hd2, hd3⟩ := hd; first | have hs := str_ok hd1 | have hs := str_ok hd2 | have hs := str_ok hd3))
      change Hid _ at hK
      obtain ⟨hcR, hfR, hzR⟩ := nwc hR
      first | (refine wanted_yes ?_ ?_; rfl) | (refine wanted_no ?_ ?_; rfl)
      go_wp2_with (first 
        | (go_at_call 33; (with_reducible refine (HE0.out _ (by repeat (first | assumption | exact Nw.refl _ | refine Nw.alloc ?_ _ | refine Nw.drew ?_ | refine Nw.drewN2 ?_ _ | (refine Nw.trans ?_ (by assumption))))).mono ?_); rintro e w5 ⟨v5, rfl, hown5, hn5⟩)
        | (go_at_call 33; (with_reducible refine (HEE.out _ (by repeat (first | assumption | exact Nw.refl _ | refine Nw.alloc ?_ _ | refine Nw.drew ?_ | refine Nw.drewN2 ?_ _ | (refine Nw.trans ?_ (by assumption))))).mono ?_); rintro e w5 ⟨v5, rfl, hown5, hn5⟩)
        | (go_at_call 34; (with_reducible refine (HR0.out _ (by repeat (first | assumption | exact Nw.refl _ | refine Nw.alloc ?_ _ | refine Nw.drew ?_ | refine Nw.drewN2 ?_ _ | (refine Nw.trans ?_ (by assumption))))).mono ?_); rintro e w5 ⟨v5, rfl, hown5, hn5⟩)
        | (go_at_call 34; (with_reducible refine (HRR.out _ (by repeat (first | assumption | exact Nw.refl _ | refine Nw.alloc ?_ _ | refine Nw.drew ?_ | refine Nw.drewN2 ?_ _ | (refine Nw.trans ?_ (by assumption))))).mono ?_); rintro e w5 ⟨v5, rfl, hown5, hn5⟩)
        | (go_at_call 35; refine (awake_c _).mono ?_; rintro e w5 ⟨rfl, hn5⟩))
      all_goals (refine hK.out _ _ ?_ ?_ <;> first | (solve | (repeat (first | assumption | exact Nw.refl _ | refine Nw.alloc ?_ _ | refine Nw.drew ?_ | refine Nw.drewN2 ?_ _ | (refine Nw.trans ?_ (by assumption))))) | exact rfl | exact Own.sl (by assumption))
    try simp only [Act.put, List.setIfInBounds_toArray, List.set_cons_zero, List.set_cons_succ, Nat.reduceAdd, List.length_nil, List.length_cons, List.nil_append, List.cons_append]
  iterate 7
    refine Stairs.is ?_ ?_ ?_
    rotate_left 1
    · intro x wR hR hd K hK
      simp only [Act.put, List.setIfInBounds_toArray, List.set_cons_zero, List.set_cons_succ, Nat.reduceAdd, List.length_nil, List.length_cons, List.nil_append, List.cons_append, Say.ok] at hK ⊢
      try simp [Region.binds, sayAt, List.getD_cons_zero, List.getD_cons_succ, Say.ok, Vl] at hd
      try (first | have hs := str_ok hd | have hs := str_ok hd.2 | have hs := str_ok hd.1 | (obtain ⟨hd1, hd2, hd3⟩ := hd; first | have hs := str_ok hd1 | have hs := str_ok hd2 | have hs := str_ok hd3))
      change Hid _ at hK
      obtain ⟨hcR, hfR, hzR⟩ := nwc hR
      first | (refine wanted_yes ?_ ?_; rfl) | (refine wanted_no ?_ ?_; rfl)
      go_wp2_with (first 
        | (go_at_call 33; (with_reducible refine (HE0.out _ (by repeat (first | assumption | exact Nw.refl _ | refine Nw.alloc ?_ _ | refine Nw.drew ?_ | refine Nw.drewN2 ?_ _ | (refine Nw.trans ?_ (by assumption))))).mono ?_); rintro e w5 ⟨v5, rfl, hown5, hn5⟩)
        | (go_at_call 33; (with_reducible refine (HEE.out _ (by repeat (first | assumption | exact Nw.refl _ | refine Nw.alloc ?_ _ | refine Nw.drew ?_ | refine Nw.drewN2 ?_ _ | (refine Nw.trans ?_ (by assumption))))).mono ?_); rintro e w5 ⟨v5, rfl, hown5, hn5⟩)
        | (go_at_call 34; (with_reducible refine (HR0.out _ (by repeat (first | assumption | exact Nw.refl _ | refine Nw.alloc ?_ _ | refine Nw.drew ?_ | refine Nw.drewN2 ?_ _ | (refine Nw.trans ?_ (by assumption))))).mono ?_); rintro e w5 ⟨v5, rfl, hown5, hn5⟩)
        | (go_at_call 34; (with_reducible refine (HRR.out _ (by repeat (first | assumption | exact Nw.refl _ | refine Nw.alloc ?_ _ | refine Nw.drew ?_ | refine Nw.drewN2 ?_ _ | (refine Nw.trans ?_ (by assumption))))).mono ?_); rintro e w5 ⟨v5, rfl, hown5, hn5⟩)
        | (go_at_call 35; refine (awake_c _).mono ?_; rintro e w5 ⟨rfl, hn5⟩))
      all_goals (refine hK.out _ _ ?_ ?_ <;> first | (solve | (repeat (first | assumption | exact Nw.refl _ | refine Nw.alloc ?_ _ | refine Nw.drew ?_ | refine Nw.drewN2 ?_ _ | (refine Nw.trans ?_ (by assumption))))) | exact rfl | exact Own.sl (by assumption))
    try simp only [Act.put, List.setIfInBounds_toArray, List.set_cons_zero, List.set_cons_succ, Nat.reduceAdd, List.length_nil, List.length_cons, List.nil_append, List.cons_append]
  refine Stairs.nil ?_
  intro x wR hR hx
  have h1 := hx 1 (by decide)
  simp only [sayAt, List.getD_cons_zero, List.getD_cons_succ, Say.ok, Vl] at h1
  have h4 := hx 4 (by decide)
  simp only [sayAt, List.getD_cons_zero, List.getD_cons_succ, Say.ok, Vl] at h4
  have h9 := hx 9 (by decide)
  simp only [sayAt, List.getD_cons_zero, List.getD_cons_succ, Say.ok, Vl] at h9
  have h12 := hx 12 (by decide)
  simp only [sayAt, List.getD_cons_zero, List.getD_cons_succ, Say.ok, Vl] at h12
  clear hx
  obtain ⟨hcR, hfR, hzR⟩ := nwc hR
  go_wp2
  go_ret
  exact ⟨rfl, hw3.trans hR⟩
/-! ### LogDecodes -/
set_option maxRecDepth 20000 in
theorem decodes_walk (v : Value) (b : List UInt8) (w : World) (hb : Bytes w v b) (hl : b.length ≤ 1000000000) : Calls Try.prog 10 #[v] w fun e w' => e = .returned (.bool true) ∧ Nw w w' := by
  have HR := hid (fun w' (h : Nw w w') => read_c v b w' (hb.nw h) hl)
  obtain ⟨q, cap, rfl, hcap, hmx, _, hci⟩ := hb.open
  clear hb hci
  go_enter Try.func10, Try.ntmps10
  go_wp2_with (first
    | (go_at_call 39; refine (HR.out _ (by repeat (first | assumption | exact Nw.refl _ | refine Nw.alloc ?_ _ | refine Nw.drew ?_ | refine Nw.drewN2 ?_ _ | (refine Nw.trans ?_ (by assumption))))).mono ?_; rintro e w1 ⟨rfl, hn1⟩)
    | (go_at_call 35; refine (awake_c _).mono ?_; rintro e w5 ⟨rfl, hn5⟩)
    | fail)
  go_ret
  exact ⟨rfl, (by repeat (first | assumption | exact Nw.refl _ | refine Nw.alloc ?_ _ | refine Nw.drew ?_ | refine Nw.drewN2 ?_ _ | (refine Nw.trans ?_ (by assumption))))⟩
/-! ### LogSpoilt -/
theorem spoil_len (b more : List UInt8) (at_ cut : Nat) (x : UInt8) : (spoilP b at_ cut x more).length ≤ b.length + more.length := by
  unfold spoilP
  split
  · omega
  · rw [List.length_append, List.length_take, List.length_set]; omega
set_option maxRecDepth 20000 in
set_option maxHeartbeats 1600000 in
theorem spoilt_walk (start : Int) (h0 : 0 ≤ start) (h64 : start < 18446744073709551616) (v1 vm : Value) (ns : List Nat) (at_ cut : Nat) (x : UInt8) (more : List UInt8) (w : World) (hv1 : Sl w v1 (u16s ns)) (hns : ∀ n ∈ ns, n ≤ 65535) (hat : at_ ≤ 65535) (hcu : cut ≤ 65535) (hm : Bytes w vm more) (hlm : more.length ≤ 100000000) :
    Calls Try.prog 11 #[.int .u64 start, v1, .int .u16 (at_ : Int), .int .u16 (cut : Int), .int .u8 (x.toNat : Int), vm] w fun e w' => e = .returned (.bool true) ∧ Nw w w' := by
  have HM1 := hid (fun w' (h : Nw w w') => make_c3 start h0 h64 v1 ns w' (hv1.nw h) hns)
  have HEE := hid (fun (x y : Value) w' (h1 : Sl w' x (Lx.strs pqr)) (h2 : Evs w' y (makeP start ns).evs) => encode_c x y (makeP start ns) w' h1 h2 (make_small start h0 ns) (Nat.le_trans (make_len start h0 ns) (by decide)) (make_tb start h0 ns))
  have hme := make_enc start h0 ns
  have hm9 := enc_len9 _ (make_may start h0 ns)
  have s1 := spoil_len (encP (makeP start ns)) more at_ cut x
  have s2 := spoil_len (encP (makeP start ns)) [] at_ 0 x
  have s3 := spoil_len (encP (makeP start ns)) [] 0 cut 0
  have HSP := hid (fun (v vm : Value) w' (h1 : Bytes w' v (encP (makeP start ns))) (h2 : Bytes w' vm more) => spoil_c v vm _ more at_ cut x w' h1 h2 (by omega) hlm hat hcu)
  have HSQ := hid (fun (v vm : Value) w' (h1 : Bytes w' v (encP (makeP start ns))) (h2 : Bytes w' vm []) => show Calls Try.prog 36 #[v, .int .u16 (at_ : Int), .int .u16 0, .int .u8 (x.toNat : Int), vm] w' _ from spoil_c v vm _ [] at_ 0 x w' h1 h2 (by omega) (by simp) hat (by omega))
  have HSR := hid (fun (v vm : Value) w' (h1 : Bytes w' v (encP (makeP start ns))) (h2 : Bytes w' vm []) => show Calls Try.prog 36 #[v, .int .u16 0, .int .u16 (cut : Int), .int .u8 0, vm] w' _ from spoil_c v vm _ [] 0 cut 0 w' h1 h2 (by omega) (by simp) (by omega) hcu)
  obtain ⟨p5, k5, rfl, _, _, _, _⟩ := hv1.open (u16s_length ns)
  obtain ⟨p6, k6, rfl, _, _, _, _⟩ := hm.open
  clear hv1 hns
  have hb1 : (spoilP (encP (makeP start ns)) at_ cut x more).length ≤ 1000000000 := by omega
  have hb2 : (spoilP (encP (makeP start ns)) at_ 0 x []).length ≤ 1000000000 := by simp only [List.length_nil] at s2; omega
  have hb3 : (spoilP (encP (makeP start ns)) 0 cut 0 []).length ≤ 1000000000 := by simp only [List.length_nil] at s3; omega
  have HB1 := hid hb1
  have HB2 := hid hb2
  have HB3 := hid hb3
  clear s1 s2 s3 hb1 hb2 hb3
  generalize spoilP (encP (makeP start ns)) at_ cut x more = Y1 at *
  generalize spoilP (encP (makeP start ns)) at_ 0 x [] = Y2 at *
  generalize spoilP (encP (makeP start ns)) 0 cut 0 [] = Y3 at *
  generalize encP (makeP start ns) = em at *
  have hd : decide ((0 : Int) < em.length) = true := decide_eq_true (by omega)
  generalize makeP start ns = a at *
  generalize ns.length = nl at *
  go_enter Try.func11, Try.ntmps11
  go_upto_region 2 with (first
    | (go_at_call 23; refine (HM1.out _ (by repeat (first | assumption | exact Nw.refl _ | refine Nw.alloc ?_ _ | refine Nw.drew ?_ | refine Nw.drewN2 ?_ _ | (refine Nw.trans ?_ (by assumption))))).mono ?_; rintro e w2 ⟨q1, c1, q2, c2, rfl, hs1, he1, hn2⟩)
    | (go_at_call 33; refine (HEE.out _ _ _ hs1 he1).mono ?_; rintro e w3 ⟨v3, rfl, hown3, hn3⟩; obtain ⟨q3, c3, rfl, _⟩ := hown3.sl.open (u8s_length _))
    | fail)
  have hbe : Bytes w3 (.slice q3 em.length c3) em := hown3.sl
  have hw3 := hn2.trans hn3
  have hm3 := hm.nw hw3
  clear hown3 hs1 he1 hn2 hn3 HM1 HEE hm
  go_wp2_with (first
    | (go_at_call 36; (with_reducible refine (HSP.out _ _ _ (hbe.nw (by repeat (first | assumption | exact Nw.refl _ | refine Nw.alloc ?_ _ | refine Nw.drew ?_ | refine Nw.drewN2 ?_ _ | (refine Nw.trans ?_ (by assumption))))) (hm3.nw (by repeat (first | assumption | exact Nw.refl _ | refine Nw.alloc ?_ _ | refine Nw.drew ?_ | refine Nw.drewN2 ?_ _ | (refine Nw.trans ?_ (by assumption)))))).mono ?_); rintro e w4 ⟨v4, rfl, hown4, hn4⟩; have hl4 := HB1.out; have hs4 : Bytes w4 v4 Y1 := hown4.sl; obtain ⟨q4, c4, rfl, _⟩ := hs4.open)
    | (go_at_call 36; (with_reducible refine (HSQ.out _ _ _ (hbe.nw (by repeat (first | assumption | exact Nw.refl _ | refine Nw.alloc ?_ _ | refine Nw.drew ?_ | refine Nw.drewN2 ?_ _ | (refine Nw.trans ?_ (by assumption))))) (Bytes.nil _)).mono ?_); rintro e w5 ⟨v5, rfl, hown5, hn5⟩; have hl5 := HB2.out; have hs5 : Bytes w5 v5 Y2 := hown5.sl; obtain ⟨q5, c5, rfl, _⟩ := hs5.open)
    | (go_at_call 36; (with_reducible refine (HSR.out _ _ _ (hbe.nw (by repeat (first | assumption | exact Nw.refl _ | refine Nw.alloc ?_ _ | refine Nw.drew ?_ | refine Nw.drewN2 ?_ _ | (refine Nw.trans ?_ (by assumption))))) (Bytes.nil _)).mono ?_); rintro e w6 ⟨v6, rfl, hown6, hn6⟩; have hl6 := HB3.out; have hs6 : Bytes w6 v6 Y3 := hown6.sl; obtain ⟨q6, c6, rfl, _⟩ := hs6.open)
    | (go_at_call 39; refine (read_c _ _ _ (by assumption) (by assumption)).mono ?_; rintro e w7 ⟨rfl, hn7⟩)
    | (go_at_call 35; refine (awake_c _).mono ?_; rintro e w8 ⟨rfl, hn8⟩)
    | fail)
  go_ret
  exact ⟨rfl, (by repeat (first | assumption | exact Nw.refl _ | refine Nw.alloc ?_ _ | refine Nw.drew ?_ | refine Nw.drewN2 ?_ _ | (refine Nw.trans ?_ (by assumption))))⟩
end Lg
end Go.Proofs.Ytjelbfodkacipaa
