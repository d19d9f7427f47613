/- The contracts of the law's tells, great and awake. No condition but lengths. -/
import Derived.Test.YtjelbfodkacipaaTrJ
set_option linter.unusedSimpArgs false
set_option linter.unusedVariables false
namespace Go.Proofs.Ytjelbfodkacipaa
open Go.ChangeShapes Go.WideShapes Go.ChangeAt Go.RowKit
namespace Tr
open Go.Proofs.Ytjelbfodkacipaa.Lx (isIn nameB strs_open strs_cell contains_c)
open Go.Proofs.Ytjelbfodkacipaa.Rec (rises i64s_open i64_cell)
def ReadsT (t : T) : Says := fun w v => TrR w v t
@[simp] theorem ReadsT.stab (t : T) : Stab (ReadsT t) := fun _ _ _ h hn => TrR.nw h hn
theorem samet_same (u v : Value) (a : T) (w : World) (h1 : TrR w u a) (h2 : TrR w v a) : Calls Try.prog 31 #[u, v] w (Gives (.bool true) w) := by
  obtain ⟨u1, u2, rfl, k1, k2⟩ := h1
  obtain ⟨v1, v2, rfl, k3, k4⟩ := h2
  have := samet_c u1 u2 v1 v2 a a w k1 k2 k3 k4
  rwa [decide_eq_true rfl] at this
set_option maxRecDepth 20000 in
set_option maxHeartbeats 3200000 in
theorem tells_c (un ue vn ve : Value) (a b : T) (i : Int) (s : ByteArray) (w : World) (h1 : Sl w un (Lx.strs a.names)) (h2 : Evs w ue a.evs) (h3 : Sl w vn (Lx.strs b.names)) (h4 : Evs w ve b.evs) (ha : Small a) (hb : Small b) (hi1 : -9223372036854775808 ≤ i) (hi2 : i ≤ 9223372036854775807) :
    Calls Try.prog 22 #[.agg #[un, ue], .agg #[vn, ve], .int .i64 i, .string s] w (Gives (.bool true) w) := by
  have HM := hid (fun w' (h : Nw w w') => may_c un ue a w' (h1.nw h) (h2.nw h) ha.s)
  have HM2 := hid (fun w' (h : Nw w w') => rmay_c un ue a w' (h1.nw h) (h2.nw h) ha.s)
  have HH := hid (fun w' (h : Nw w w') => holds_c un ue a i s w' (h1.nw h) (h2.nw h) ha)
  have HH2 := hid (fun w' (h : Nw w w') => rholds_c un ue a i s w' (h1.nw h) (h2.nw h) ha)
  have HC := hid (fun w' (h : Nw w w') => cut_c un ue a i w' (h1.nw h) (h2.nw h) ha hi1 hi2)
  have HC2 := hid (fun w' (h : Nw w w') => rcut_c un ue a i w' (h1.nw h) (h2.nw h) ha hi1 hi2)
  have HF := hid (fun w' (h : Nw w w') => front_c un ue vn ve a b w' (h1.nw h) (h2.nw h) (h3.nw h) (h4.nw h) ha hb)
  have HG := hid (fun w' (h : Nw w w') => front_c vn ve un ue b a w' (h3.nw h) (h4.nw h) (h1.nw h) (h2.nw h) hb ha)
  have HF2 := hid (fun w' (h : Nw w w') => rfront_c un ue vn ve a b w' (h1.nw h) (h2.nw h) (h3.nw h) (h4.nw h) ha hb)
  have HG2 := hid (fun w' (h : Nw w w') => rfront_c vn ve un ue b a w' (h3.nw h) (h4.nw h) (h1.nw h) (h2.nw h) hb ha)
  obtain ⟨p1, k1, rfl, _, _, _, _⟩ := strs_open h1
  obtain ⟨p2, k2, rfl, _, _, _, _⟩ := strs_open h3
  obtain ⟨p3, k3, rfl, _, _, _, _⟩ := h2
  obtain ⟨p4, k4, rfl, _, _, _, _⟩ := h4
  clear ha hb h1 h3
  generalize mayP a = ma at *
  generalize holdsP a i s = hh at *
  generalize cutP a i = ct at *
  generalize frontP a b = fab at *
  generalize frontP b a = fba at *
  generalize a.names.length = na at *
  generalize b.names.length = nb at *
  generalize a.evs.length = ea at *
  generalize b.evs.length = eb at *
  go_enter Try.func22, Try.ntmps22
  go_upto_region 1 with fail
  obtain ⟨x0, x1, y4, hn, hz4⟩ := boxes w (.slice p1 na k1) (.slice p3 ea k3) (.slice p2 nb k2) (.slice p4 eb k4) 26 26
  have y0 := heap_cell y4 0
  have y1 := heap_cell y4 1
  simp only [List.getElem?_toArray, List.getElem?_cons_succ, List.getElem?_cons_zero] at y0 y1
  clear y4
  generalize ((w.alloc (.cells #[.slice p1 na k1, .slice p3 ea k3] 26)).alloc (.cells #[.slice p2 nb k2, .slice p4 eb k4] 26)) = w0 at *
  have hz0 : w.heap.size < w0.heap.size := by omega
  have hz1 : w.heap.size + 1 < w0.heap.size := by omega
  clear hz4 hi1 hi2
  refine wp_region_stairs (by kernel_rfl) (by kernel_rfl) (by kernel_rfl) ?_
  iterate 19
    refine Stairs.is ?_ ?_ ?_
    rotate_left 1
    · intro x wR hR hd K hK
      simp only [Act.put, List.setIfInBounds_toArray, List.set_cons_zero, List.set_cons_succ, Nat.reduceAdd, List.length_nil, List.length_cons, List.nil_append, List.cons_append, Say.ok] at hK ⊢
      clear hd
      change Hid _ at hK
      obtain ⟨hcR, hfR, hzR⟩ := nwc hR
      first | (refine wanted_yes ?_ ?_; rfl) | (refine wanted_no ?_ ?_; rfl)
      go_wp2_with (first 
  | (go_at_call 24; refine (HM.out _ (by repeat (first | assumption | exact Nw.refl _ | refine Nw.alloc ?_ _ | refine Nw.drew ?_ | refine Nw.drewN2 ?_ _ | (refine Nw.trans ?_ (by assumption))))).mono ?_; rintro e w5 ⟨rfl, hn5⟩)
  | (go_at_call 40; refine (HM2.out _ (by repeat (first | assumption | exact Nw.refl _ | refine Nw.alloc ?_ _ | refine Nw.drew ?_ | refine Nw.drewN2 ?_ _ | (refine Nw.trans ?_ (by assumption))))).mono ?_; rintro e w5 ⟨rfl, hn5⟩)
  | (go_at_call 26; refine (HH.out _ (by repeat (first | assumption | exact Nw.refl _ | refine Nw.alloc ?_ _ | refine Nw.drew ?_ | refine Nw.drewN2 ?_ _ | (refine Nw.trans ?_ (by assumption))))).mono ?_; rintro e w5 ⟨rfl, hn5⟩)
  | (go_at_call 46; refine (HH2.out _ (by repeat (first | assumption | exact Nw.refl _ | refine Nw.alloc ?_ _ | refine Nw.drew ?_ | refine Nw.drewN2 ?_ _ | (refine Nw.trans ?_ (by assumption))))).mono ?_; rintro e w5 ⟨rfl, hn5⟩)
  | (go_at_call 25; refine (HC.out _ (by repeat (first | assumption | exact Nw.refl _ | refine Nw.alloc ?_ _ | refine Nw.drew ?_ | refine Nw.drewN2 ?_ _ | (refine Nw.trans ?_ (by assumption))))).mono ?_; rintro e w5 ⟨v5, rfl, hr5, hn5⟩)
  | (go_at_call 42; refine (HC2.out _ (by repeat (first | assumption | exact Nw.refl _ | refine Nw.alloc ?_ _ | refine Nw.drew ?_ | refine Nw.drewN2 ?_ _ | (refine Nw.trans ?_ (by assumption))))).mono ?_; rintro e w5 ⟨v5, rfl, hr5, hn5⟩)
  | (go_at_call 31; refine (samet_same _ _ ct _ (by first | exact hd.1 | exact hd.2.1) (by first | exact hd.2 | exact hd.2.2 | exact hd.2.1)).mono ?_; rintro e w5 ⟨rfl, hn5⟩)
  | (go_at_call 32; (first | with_reducible refine (HF.out _ ?_).mono ?_ | refine (HG.out _ ?_).mono ?_); exact (by repeat (first | assumption | exact Nw.refl _ | refine Nw.alloc ?_ _ | refine Nw.drew ?_ | refine Nw.drewN2 ?_ _ | (refine Nw.trans ?_ (by assumption)))); rintro e w5 ⟨rfl, hn5⟩)
  | (go_at_call 47; (first | with_reducible refine (HF2.out _ ?_).mono ?_ | refine (HG2.out _ ?_).mono ?_); exact (by repeat (first | assumption | exact Nw.refl _ | refine Nw.alloc ?_ _ | refine Nw.drew ?_ | refine Nw.drewN2 ?_ _ | (refine Nw.trans ?_ (by assumption)))); rintro e w5 ⟨rfl, hn5⟩)
)
      all_goals (refine hK.out _ _ ?_ ?_ <;> first | (solve | (repeat (first | assumption | exact Nw.refl _ | refine Nw.alloc ?_ _ | refine Nw.drew ?_ | refine Nw.drewN2 ?_ _ | (refine Nw.trans ?_ (by assumption))))) | exact rfl | exact hr5)
    try simp only [Act.put, List.setIfInBounds_toArray, List.set_cons_zero, List.set_cons_succ, Nat.reduceAdd, List.length_nil, List.length_cons, List.nil_append, List.cons_append]
  iterate 1
    refine Stairs.that (ReadsT ct) (by simp) ?_ ?_
    · intro x wR hR hd K hK
      simp only [Act.put, List.setIfInBounds_toArray, List.set_cons_zero, List.set_cons_succ, Nat.reduceAdd, List.length_nil, List.length_cons, List.nil_append, List.cons_append, Say.ok] at hK ⊢
      clear hd
      change Hid _ at hK
      obtain ⟨hcR, hfR, hzR⟩ := nwc hR
      first | (refine wanted_yes ?_ ?_; rfl) | (refine wanted_no ?_ ?_; rfl)
      go_wp2_with (first 
  | (go_at_call 24; refine (HM.out _ (by repeat (first | assumption | exact Nw.refl _ | refine Nw.alloc ?_ _ | refine Nw.drew ?_ | refine Nw.drewN2 ?_ _ | (refine Nw.trans ?_ (by assumption))))).mono ?_; rintro e w5 ⟨rfl, hn5⟩)
  | (go_at_call 40; refine (HM2.out _ (by repeat (first | assumption | exact Nw.refl _ | refine Nw.alloc ?_ _ | refine Nw.drew ?_ | refine Nw.drewN2 ?_ _ | (refine Nw.trans ?_ (by assumption))))).mono ?_; rintro e w5 ⟨rfl, hn5⟩)
  | (go_at_call 26; refine (HH.out _ (by repeat (first | assumption | exact Nw.refl _ | refine Nw.alloc ?_ _ | refine Nw.drew ?_ | refine Nw.drewN2 ?_ _ | (refine Nw.trans ?_ (by assumption))))).mono ?_; rintro e w5 ⟨rfl, hn5⟩)
  | (go_at_call 46; refine (HH2.out _ (by repeat (first | assumption | exact Nw.refl _ | refine Nw.alloc ?_ _ | refine Nw.drew ?_ | refine Nw.drewN2 ?_ _ | (refine Nw.trans ?_ (by assumption))))).mono ?_; rintro e w5 ⟨rfl, hn5⟩)
  | (go_at_call 25; refine (HC.out _ (by repeat (first | assumption | exact Nw.refl _ | refine Nw.alloc ?_ _ | refine Nw.drew ?_ | refine Nw.drewN2 ?_ _ | (refine Nw.trans ?_ (by assumption))))).mono ?_; rintro e w5 ⟨v5, rfl, hr5, hn5⟩)
  | (go_at_call 42; refine (HC2.out _ (by repeat (first | assumption | exact Nw.refl _ | refine Nw.alloc ?_ _ | refine Nw.drew ?_ | refine Nw.drewN2 ?_ _ | (refine Nw.trans ?_ (by assumption))))).mono ?_; rintro e w5 ⟨v5, rfl, hr5, hn5⟩)
  | (go_at_call 31; refine (samet_same _ _ ct _ (by first | exact hd.1 | exact hd.2.1) (by first | exact hd.2 | exact hd.2.2 | exact hd.2.1)).mono ?_; rintro e w5 ⟨rfl, hn5⟩)
  | (go_at_call 32; (first | with_reducible refine (HF.out _ ?_).mono ?_ | refine (HG.out _ ?_).mono ?_); exact (by repeat (first | assumption | exact Nw.refl _ | refine Nw.alloc ?_ _ | refine Nw.drew ?_ | refine Nw.drewN2 ?_ _ | (refine Nw.trans ?_ (by assumption)))); rintro e w5 ⟨rfl, hn5⟩)
  | (go_at_call 47; (first | with_reducible refine (HF2.out _ ?_).mono ?_ | refine (HG2.out _ ?_).mono ?_); exact (by repeat (first | assumption | exact Nw.refl _ | refine Nw.alloc ?_ _ | refine Nw.drew ?_ | refine Nw.drewN2 ?_ _ | (refine Nw.trans ?_ (by assumption)))); rintro e w5 ⟨rfl, hn5⟩)
)
      all_goals (refine hK.out _ _ ?_ ?_ <;> first | (solve | (repeat (first | assumption | exact Nw.refl _ | refine Nw.alloc ?_ _ | refine Nw.drew ?_ | refine Nw.drewN2 ?_ _ | (refine Nw.trans ?_ (by assumption))))) | exact rfl | exact hr5)
    try simp only [Act.put, List.setIfInBounds_toArray, List.set_cons_zero, List.set_cons_succ, Nat.reduceAdd, List.length_nil, List.length_cons, List.nil_append, List.cons_append]
  iterate 2
    refine Stairs.is ?_ ?_ ?_
    rotate_left 1
    · intro x wR hR hd K hK
      simp only [Act.put, List.setIfInBounds_toArray, List.set_cons_zero, List.set_cons_succ, Nat.reduceAdd, List.length_nil, List.length_cons, List.nil_append, List.cons_append, Say.ok] at hK ⊢
      try simp [Region.binds, sayAt, List.getD_cons_zero, List.getD_cons_succ, Say.ok, Vl] at hd
      try (first | have hs := str_ok hd | have hs := str_ok hd.2 | have hs := str_ok hd.1 | (obtain ⟨hd1, hd2, hd3⟩ := hd; first | have hs := str_ok hd1 | have hs := str_ok hd2 | have hs := str_ok hd3))
      change Hid _ at hK
      obtain ⟨hcR, hfR, hzR⟩ := nwc hR
      first | (refine wanted_yes ?_ ?_; rfl) | (refine wanted_no ?_ ?_; rfl)
      go_wp2_with (first 
  | (go_at_call 24; refine (HM.out _ (by repeat (first | assumption | exact Nw.refl _ | refine Nw.alloc ?_ _ | refine Nw.drew ?_ | refine Nw.drewN2 ?_ _ | (refine Nw.trans ?_ (by assumption))))).mono ?_; rintro e w5 ⟨rfl, hn5⟩)
  | (go_at_call 40; refine (HM2.out _ (by repeat (first | assumption | exact Nw.refl _ | refine Nw.alloc ?_ _ | refine Nw.drew ?_ | refine Nw.drewN2 ?_ _ | (refine Nw.trans ?_ (by assumption))))).mono ?_; rintro e w5 ⟨rfl, hn5⟩)
  | (go_at_call 26; refine (HH.out _ (by repeat (first | assumption | exact Nw.refl _ | refine Nw.alloc ?_ _ | refine Nw.drew ?_ | refine Nw.drewN2 ?_ _ | (refine Nw.trans ?_ (by assumption))))).mono ?_; rintro e w5 ⟨rfl, hn5⟩)
  | (go_at_call 46; refine (HH2.out _ (by repeat (first | assumption | exact Nw.refl _ | refine Nw.alloc ?_ _ | refine Nw.drew ?_ | refine Nw.drewN2 ?_ _ | (refine Nw.trans ?_ (by assumption))))).mono ?_; rintro e w5 ⟨rfl, hn5⟩)
  | (go_at_call 25; refine (HC.out _ (by repeat (first | assumption | exact Nw.refl _ | refine Nw.alloc ?_ _ | refine Nw.drew ?_ | refine Nw.drewN2 ?_ _ | (refine Nw.trans ?_ (by assumption))))).mono ?_; rintro e w5 ⟨v5, rfl, hr5, hn5⟩)
  | (go_at_call 42; refine (HC2.out _ (by repeat (first | assumption | exact Nw.refl _ | refine Nw.alloc ?_ _ | refine Nw.drew ?_ | refine Nw.drewN2 ?_ _ | (refine Nw.trans ?_ (by assumption))))).mono ?_; rintro e w5 ⟨v5, rfl, hr5, hn5⟩)
  | (go_at_call 31; refine (samet_same _ _ ct _ (by first | exact hd.1 | exact hd.2.1) (by first | exact hd.2 | exact hd.2.2 | exact hd.2.1)).mono ?_; rintro e w5 ⟨rfl, hn5⟩)
  | (go_at_call 32; (first | with_reducible refine (HF.out _ ?_).mono ?_ | refine (HG.out _ ?_).mono ?_); exact (by repeat (first | assumption | exact Nw.refl _ | refine Nw.alloc ?_ _ | refine Nw.drew ?_ | refine Nw.drewN2 ?_ _ | (refine Nw.trans ?_ (by assumption)))); rintro e w5 ⟨rfl, hn5⟩)
  | (go_at_call 47; (first | with_reducible refine (HF2.out _ ?_).mono ?_ | refine (HG2.out _ ?_).mono ?_); exact (by repeat (first | assumption | exact Nw.refl _ | refine Nw.alloc ?_ _ | refine Nw.drew ?_ | refine Nw.drewN2 ?_ _ | (refine Nw.trans ?_ (by assumption)))); rintro e w5 ⟨rfl, hn5⟩)
)
      all_goals (refine hK.out _ _ ?_ ?_ <;> first | (solve | (repeat (first | assumption | exact Nw.refl _ | refine Nw.alloc ?_ _ | refine Nw.drew ?_ | refine Nw.drewN2 ?_ _ | (refine Nw.trans ?_ (by assumption))))) | exact rfl | exact hr5)
    try simp only [Act.put, List.setIfInBounds_toArray, List.set_cons_zero, List.set_cons_succ, Nat.reduceAdd, List.length_nil, List.length_cons, List.nil_append, List.cons_append]
  iterate 1
    refine Stairs.that (ReadsT ct) (by simp) ?_ ?_
    · intro x wR hR hd K hK
      simp only [Act.put, List.setIfInBounds_toArray, List.set_cons_zero, List.set_cons_succ, Nat.reduceAdd, List.length_nil, List.length_cons, List.nil_append, List.cons_append, Say.ok] at hK ⊢
      try simp [Region.binds, sayAt, List.getD_cons_zero, List.getD_cons_succ, Say.ok, Vl] at hd
      try (first | have hs := str_ok hd | have hs := str_ok hd.2 | have hs := str_ok hd.1 | (obtain ⟨hd1, hd2, hd3⟩ := hd; first | have hs := str_ok hd1 | have hs := str_ok hd2 | have hs := str_ok hd3))
      change Hid _ at hK
      obtain ⟨hcR, hfR, hzR⟩ := nwc hR
      first | (refine wanted_yes ?_ ?_; rfl) | (refine wanted_no ?_ ?_; rfl)
      go_wp2_with (first 
  | (go_at_call 24; refine (HM.out _ (by repeat (first | assumption | exact Nw.refl _ | refine Nw.alloc ?_ _ | refine Nw.drew ?_ | refine Nw.drewN2 ?_ _ | (refine Nw.trans ?_ (by assumption))))).mono ?_; rintro e w5 ⟨rfl, hn5⟩)
  | (go_at_call 40; refine (HM2.out _ (by repeat (first | assumption | exact Nw.refl _ | refine Nw.alloc ?_ _ | refine Nw.drew ?_ | refine Nw.drewN2 ?_ _ | (refine Nw.trans ?_ (by assumption))))).mono ?_; rintro e w5 ⟨rfl, hn5⟩)
  | (go_at_call 26; refine (HH.out _ (by repeat (first | assumption | exact Nw.refl _ | refine Nw.alloc ?_ _ | refine Nw.drew ?_ | refine Nw.drewN2 ?_ _ | (refine Nw.trans ?_ (by assumption))))).mono ?_; rintro e w5 ⟨rfl, hn5⟩)
  | (go_at_call 46; refine (HH2.out _ (by repeat (first | assumption | exact Nw.refl _ | refine Nw.alloc ?_ _ | refine Nw.drew ?_ | refine Nw.drewN2 ?_ _ | (refine Nw.trans ?_ (by assumption))))).mono ?_; rintro e w5 ⟨rfl, hn5⟩)
  | (go_at_call 25; refine (HC.out _ (by repeat (first | assumption | exact Nw.refl _ | refine Nw.alloc ?_ _ | refine Nw.drew ?_ | refine Nw.drewN2 ?_ _ | (refine Nw.trans ?_ (by assumption))))).mono ?_; rintro e w5 ⟨v5, rfl, hr5, hn5⟩)
  | (go_at_call 42; refine (HC2.out _ (by repeat (first | assumption | exact Nw.refl _ | refine Nw.alloc ?_ _ | refine Nw.drew ?_ | refine Nw.drewN2 ?_ _ | (refine Nw.trans ?_ (by assumption))))).mono ?_; rintro e w5 ⟨v5, rfl, hr5, hn5⟩)
  | (go_at_call 31; refine (samet_same _ _ ct _ (by first | exact hd.1 | exact hd.2.1) (by first | exact hd.2 | exact hd.2.2 | exact hd.2.1)).mono ?_; rintro e w5 ⟨rfl, hn5⟩)
  | (go_at_call 32; (first | with_reducible refine (HF.out _ ?_).mono ?_ | refine (HG.out _ ?_).mono ?_); exact (by repeat (first | assumption | exact Nw.refl _ | refine Nw.alloc ?_ _ | refine Nw.drew ?_ | refine Nw.drewN2 ?_ _ | (refine Nw.trans ?_ (by assumption)))); rintro e w5 ⟨rfl, hn5⟩)
  | (go_at_call 47; (first | with_reducible refine (HF2.out _ ?_).mono ?_ | refine (HG2.out _ ?_).mono ?_); exact (by repeat (first | assumption | exact Nw.refl _ | refine Nw.alloc ?_ _ | refine Nw.drew ?_ | refine Nw.drewN2 ?_ _ | (refine Nw.trans ?_ (by assumption)))); rintro e w5 ⟨rfl, hn5⟩)
)
      all_goals (refine hK.out _ _ ?_ ?_ <;> first | (solve | (repeat (first | assumption | exact Nw.refl _ | refine Nw.alloc ?_ _ | refine Nw.drew ?_ | refine Nw.drewN2 ?_ _ | (refine Nw.trans ?_ (by assumption))))) | exact rfl | exact hr5)
    try simp only [Act.put, List.setIfInBounds_toArray, List.set_cons_zero, List.set_cons_succ, Nat.reduceAdd, List.length_nil, List.length_cons, List.nil_append, List.cons_append]
  iterate 21
    refine Stairs.is ?_ ?_ ?_
    rotate_left 1
    · intro x wR hR hd K hK
      simp only [Act.put, List.setIfInBounds_toArray, List.set_cons_zero, List.set_cons_succ, Nat.reduceAdd, List.length_nil, List.length_cons, List.nil_append, List.cons_append, Say.ok] at hK ⊢
      try simp [Region.binds, sayAt, List.getD_cons_zero, List.getD_cons_succ, Say.ok, Vl] at hd
      try (first | have hs := str_ok hd | have hs := str_ok hd.2 | have hs := str_ok hd.1 | (obtain ⟨hd1, hd2, hd3⟩ := hd; first | have hs := str_ok hd1 | have hs := str_ok hd2 | have hs := str_ok hd3))
      change Hid _ at hK
      obtain ⟨hcR, hfR, hzR⟩ := nwc hR
      first | (refine wanted_yes ?_ ?_; rfl) | (refine wanted_no ?_ ?_; rfl)
      go_wp2_with (first 
  | (go_at_call 24; refine (HM.out _ (by repeat (first | assumption | exact Nw.refl _ | refine Nw.alloc ?_ _ | refine Nw.drew ?_ | refine Nw.drewN2 ?_ _ | (refine Nw.trans ?_ (by assumption))))).mono ?_; rintro e w5 ⟨rfl, hn5⟩)
  | (go_at_call 40; refine (HM2.out _ (by repeat (first | assumption | exact Nw.refl _ | refine Nw.alloc ?_ _ | refine Nw.drew ?_ | refine Nw.drewN2 ?_ _ | (refine Nw.trans ?_ (by assumption))))).mono ?_; rintro e w5 ⟨rfl, hn5⟩)
  | (go_at_call 26; refine (HH.out _ (by repeat (first | assumption | exact Nw.refl _ | refine Nw.alloc ?_ _ | refine Nw.drew ?_ | refine Nw.drewN2 ?_ _ | (refine Nw.trans ?_ (by assumption))))).mono ?_; rintro e w5 ⟨rfl, hn5⟩)
  | (go_at_call 46; refine (HH2.out _ (by repeat (first | assumption | exact Nw.refl _ | refine Nw.alloc ?_ _ | refine Nw.drew ?_ | refine Nw.drewN2 ?_ _ | (refine Nw.trans ?_ (by assumption))))).mono ?_; rintro e w5 ⟨rfl, hn5⟩)
  | (go_at_call 25; refine (HC.out _ (by repeat (first | assumption | exact Nw.refl _ | refine Nw.alloc ?_ _ | refine Nw.drew ?_ | refine Nw.drewN2 ?_ _ | (refine Nw.trans ?_ (by assumption))))).mono ?_; rintro e w5 ⟨v5, rfl, hr5, hn5⟩)
  | (go_at_call 42; refine (HC2.out _ (by repeat (first | assumption | exact Nw.refl _ | refine Nw.alloc ?_ _ | refine Nw.drew ?_ | refine Nw.drewN2 ?_ _ | (refine Nw.trans ?_ (by assumption))))).mono ?_; rintro e w5 ⟨v5, rfl, hr5, hn5⟩)
  | (go_at_call 31; refine (samet_same _ _ ct _ (by first | exact hd.1 | exact hd.2.1) (by first | exact hd.2 | exact hd.2.2 | exact hd.2.1)).mono ?_; rintro e w5 ⟨rfl, hn5⟩)
  | (go_at_call 32; (first | with_reducible refine (HF.out _ ?_).mono ?_ | refine (HG.out _ ?_).mono ?_); exact (by repeat (first | assumption | exact Nw.refl _ | refine Nw.alloc ?_ _ | refine Nw.drew ?_ | refine Nw.drewN2 ?_ _ | (refine Nw.trans ?_ (by assumption)))); rintro e w5 ⟨rfl, hn5⟩)
  | (go_at_call 47; (first | with_reducible refine (HF2.out _ ?_).mono ?_ | refine (HG2.out _ ?_).mono ?_); exact (by repeat (first | assumption | exact Nw.refl _ | refine Nw.alloc ?_ _ | refine Nw.drew ?_ | refine Nw.drewN2 ?_ _ | (refine Nw.trans ?_ (by assumption)))); rintro e w5 ⟨rfl, hn5⟩)
)
      all_goals (refine hK.out _ _ ?_ ?_ <;> first | (solve | (repeat (first | assumption | exact Nw.refl _ | refine Nw.alloc ?_ _ | refine Nw.drew ?_ | refine Nw.drewN2 ?_ _ | (refine Nw.trans ?_ (by assumption))))) | exact rfl | exact hr5)
    try simp only [Act.put, List.setIfInBounds_toArray, List.set_cons_zero, List.set_cons_succ, Nat.reduceAdd, List.length_nil, List.length_cons, List.nil_append, List.cons_append]
  refine Stairs.nil ?_
  intro x wR hR hx
  have h19 := hx 19 (by decide)
  simp only [sayAt, List.getD_cons_zero, List.getD_cons_succ, Say.ok, Vl] at h19
  have h22 := hx 22 (by decide)
  simp only [sayAt, List.getD_cons_zero, List.getD_cons_succ, Say.ok, Vl] at h22
  clear hx
  obtain ⟨hcR, hfR, hzR⟩ := nwc hR
  go_wp2
  go_ret
  exact ⟨rfl, hn.trans hR⟩
/-! ### great -/
def greatB (t : T) : Bool := decide (200 < t.names.length) || (decide (200 < t.evs.length) || (List.range t.evs.length).any fun i => decide (200 < (ids t.evs i).length))
def greatP (t : T) : Int := if greatB t = true then 1 else 0
theorem great_at {t : T} {k : Nat} (h : k < t.evs.length) (h2 : 200 < (ids t.evs k).length) : greatP t = 1 := by
  unfold greatP
  rw [if_pos]
  unfold greatB
  rw [List.any_eq_true.2 ⟨k, List.mem_range.2 h, decide_eq_true h2⟩]
  simp
theorem great_no {t : T} (h1 : ¬ 200 < t.names.length) (h2 : ¬ 200 < t.evs.length) (h3 : ∀ j, j < t.evs.length → (ids t.evs j).length ≤ 200) : greatP t = 0 := by
  unfold greatP
  rw [if_neg]
  unfold greatB
  rw [decide_eq_false h1, decide_eq_false h2]
  simp only [Bool.false_or, List.any_eq_true, List.mem_range, decide_eq_true_eq, not_exists, not_and]
  intro j hj
  have := h3 j hj
  omega
set_option maxRecDepth 20000 in
set_option maxHeartbeats 800000 in
theorem great_c (vn ve : Value) (t : T) (w : World) (hvn : Sl w vn (Lx.strs t.names)) (hve : Evs w ve t.evs) :
    Calls Try.prog 16 #[.agg #[vn, ve]] w (Gives (.int .i64 (greatP t)) w) := by
  obtain ⟨pn, capn, rfl, hcapn, hmxn, _, _⟩ := strs_open hvn
  obtain ⟨p, cap, rfl, hcap, hmx, hp0, hec⟩ := hve
  have HE := hid hec
  unfold maxLen at hmxn hmx
  clear hec hvn
  by_cases h1 : 200 < t.names.length
  · have hd1 : decide ((200 : Int) < t.names.length) = true := decide_eq_true (by omega)
    have HF := hid (show greatP t = 1 by unfold greatP greatB; rw [decide_eq_true h1]; rfl)
    go_enter Try.func16, Try.ntmps16
    go_wp2
    go_ret
    exact Gives.i HF.out.symm (by repeat (first | assumption | exact Nw.refl _ | refine Nw.alloc ?_ _ | refine Nw.drew ?_ | refine Nw.drewN2 ?_ _ | (refine Nw.trans ?_ (by assumption))))
  · by_cases h2 : 200 < t.evs.length
    · have hd1 : decide ((200 : Int) < t.names.length) = false := decide_eq_false (by omega)
      have hd2 : decide ((200 : Int) < t.evs.length) = true := decide_eq_true (by omega)
      have HF := hid (show greatP t = 1 by unfold greatP greatB; rw [decide_eq_true h2]; simp)
      clear h1
      go_enter Try.func16, Try.ntmps16
      go_wp2
      go_ret
      exact Gives.i HF.out.symm (by repeat (first | assumption | exact Nw.refl _ | refine Nw.alloc ?_ _ | refine Nw.drew ?_ | refine Nw.drewN2 ?_ _ | (refine Nw.trans ?_ (by assumption))))
    · have hd1 : decide ((200 : Int) < t.names.length) = false := decide_eq_false (by omega)
      have hd2 : decide ((200 : Int) < t.evs.length) = false := decide_eq_false (by omega)
      have HNO := hid (fun h3 => great_no h1 h2 h3)
      clear h1 h2
      go_enter Try.func16, Try.ntmps16
      go_wp2
      have hnL := (Nw.refl w).alloc (.cells #[.slice pn t.names.length capn, .slice p t.evs.length cap] 26)
      generalize (w.alloc (.cells #[.slice pn t.names.length capn, .slice p t.evs.length cap] 26)) = wL at *
      go_loopw [4, 18] (fun _ i wr => ∃ k : Nat, k ≤ t.evs.length ∧ i = .int .i64 k ∧ Hid (∀ j, j < k → (ids t.evs j).length ≤ 200) ∧ Nw wL wr) (fun _ i _ => t.evs.length - (intOf i).toNat)
      case atStart => exact ⟨0, Nat.zero_le _, rfl, hid (fun j h => absurd h (Nat.not_lt_zero j)), Nw.refl _⟩
      case round =>
        obtain ⟨k, hk, rfl, hu, hnr⟩ := hrel
        have hnw := hnL.trans hnr
        by_cases hlt : k < t.evs.length
        · have hdk : decide (k < t.evs.length) = true := decide_eq_true hlt
          obtain ⟨b1, o1, vi, rfl, c0, c1, hsl⟩ := (HE.out.nw hnw) k hlt
          obtain ⟨q, c, rfl, hcq, hmq, _, _⟩ := i64s_open hsl
          unfold maxLen at hmq
          clear hsl
          by_cases h4 : 200 < (ids t.evs k).length
          · have hd4 : decide ((200 : Int) < (ids t.evs k).length) = true := decide_eq_true (by omega)
            have HF := hid (great_at hlt h4)
            clear h4
            generalize ids t.evs k = l at *
            go_wp2
            go_ret
            exact Gives.i HF.out.symm (by repeat (first | assumption | exact Nw.refl _ | refine Nw.alloc ?_ _ | refine Nw.drew ?_ | refine Nw.drewN2 ?_ _ | (refine Nw.trans ?_ (by assumption))))
          · have hd4 : decide ((200 : Int) < (ids t.evs k).length) = false := decide_eq_false (by omega)
            have HF := hid (show ∀ j, j < k + 1 → (ids t.evs j).length ≤ 200 from fun j hj => by
              by_cases hjk : j = k
              · subst hjk; omega
              · exact hu.out j (by omega))
            clear h4
            generalize hl : ids t.evs k = l at *
            clear hl
            go_wp2
            go_roundw
            case rel => exact ⟨k + 1, by omega, by go_num, HF, (by repeat (first | assumption | exact Nw.refl _ | refine Nw.alloc ?_ _ | refine Nw.drew ?_ | refine Nw.drewN2 ?_ _ | (refine Nw.trans ?_ (by assumption))))⟩
            case measure => simp [intOf]; omega
        · obtain rfl : k = t.evs.length := by omega
          have hdk : decide (t.evs.length < t.evs.length) = false := decide_eq_false (by omega)
          have HF := hid (HNO.out hu.out)
          go_wp2
          go_ret
          exact Gives.i HF.out.symm hnw
/-! ### awake -/
def aw : T := ⟨[⟨#[112]⟩, ⟨#[113]⟩], [(3, [1])]⟩
theorem aw_small : Small aw := by
  refine ⟨by decide, by decide, fun i hi => ?_, fun s hs => ?_⟩
  · match i, hi with
    | 0, _ => decide
  · simp only [aw, List.mem_cons, List.not_mem_nil, or_false] at hs
    rcases hs with rfl | rfl <;> decide
theorem front_r (u v : Value) (a b : T) (w : World) (h1 : TrR w u a) (h2 : TrR w v b) (ha : Small a) (hb : Small b) : Calls Try.prog 32 #[u, v] w (Gives (.bool (frontP a b)) w) := by
  obtain ⟨u1, u2, rfl, k1, k2⟩ := h1
  obtain ⟨v1, v2, rfl, k3, k4⟩ := h2
  exact front_c u1 u2 v1 v2 a b w k1 k2 k3 k4 ha hb
theorem size_alloc (w : World) (o : Obj) : (w.alloc o).heap.size = w.heap.size + 1 := by
  show (w.heap.push _).size = _
  rw [Array.size_push]
theorem aw_reads (w : World) : Sl ((((w.alloc (.cells #[.string ⟨#[112]⟩, .string ⟨#[113]⟩] 9)).alloc (.cells #[.int .i64 1] 3)).alloc (.cells #[.int .u64 3, .slice (some ⟨w.heap.size + 1, 0, none⟩) 1 1] 39)).alloc (.cells #[.slice (some ⟨w.heap.size, 0, none⟩) 2 2, .slice (some ⟨w.heap.size + 1 + 1, 0, none⟩) 1 1] 26)) (.slice (some ⟨w.heap.size, 0, none⟩) 2 2) (Lx.strs aw.names) ∧
    Evs ((((w.alloc (.cells #[.string ⟨#[112]⟩, .string ⟨#[113]⟩] 9)).alloc (.cells #[.int .i64 1] 3)).alloc (.cells #[.int .u64 3, .slice (some ⟨w.heap.size + 1, 0, none⟩) 1 1] 39)).alloc (.cells #[.slice (some ⟨w.heap.size, 0, none⟩) 2 2, .slice (some ⟨w.heap.size + 1 + 1, 0, none⟩) 1 1] 26)) (.slice (some ⟨w.heap.size + 1 + 1, 0, none⟩) 1 1) aw.evs ∧
    Nw w ((((w.alloc (.cells #[.string ⟨#[112]⟩, .string ⟨#[113]⟩] 9)).alloc (.cells #[.int .i64 1] 3)).alloc (.cells #[.int .u64 3, .slice (some ⟨w.heap.size + 1, 0, none⟩) 1 1] 39)).alloc (.cells #[.slice (some ⟨w.heap.size, 0, none⟩) 2 2, .slice (some ⟨w.heap.size + 1 + 1, 0, none⟩) 1 1] 26)) ∧
    ((((w.alloc (.cells #[.string ⟨#[112]⟩, .string ⟨#[113]⟩] 9)).alloc (.cells #[.int .i64 1] 3)).alloc (.cells #[.int .u64 3, .slice (some ⟨w.heap.size + 1, 0, none⟩) 1 1] 39)).alloc (.cells #[.slice (some ⟨w.heap.size, 0, none⟩) 2 2, .slice (some ⟨w.heap.size + 1 + 1, 0, none⟩) 1 1] 26)).cell? ⟨w.heap.size + 1 + 1 + 1, 0, none⟩ = some (.slice (some ⟨w.heap.size, 0, none⟩) 2 2) ∧
    ((((w.alloc (.cells #[.string ⟨#[112]⟩, .string ⟨#[113]⟩] 9)).alloc (.cells #[.int .i64 1] 3)).alloc (.cells #[.int .u64 3, .slice (some ⟨w.heap.size + 1, 0, none⟩) 1 1] 39)).alloc (.cells #[.slice (some ⟨w.heap.size, 0, none⟩) 2 2, .slice (some ⟨w.heap.size + 1 + 1, 0, none⟩) 1 1] 26)).cell? ⟨w.heap.size + 1 + 1 + 1, 1, none⟩ = some (.slice (some ⟨w.heap.size + 1 + 1, 0, none⟩) 1 1) := by
  have s1 := Sl.newAt w (Lx.strs aw.names) 9 (0, 0) w.heap.size 2 rfl rfl (by decide)
  have z1 := size_alloc w (.cells #[.string ⟨#[112]⟩, .string ⟨#[113]⟩] 9)
  change Sl (w.alloc (.cells #[.string ⟨#[112]⟩, .string ⟨#[113]⟩] 9)) _ _ at s1
  have n1 := (Nw.refl w).alloc (.cells #[.string ⟨#[112]⟩, .string ⟨#[113]⟩] 9)
  generalize w.alloc (.cells #[.string ⟨#[112]⟩, .string ⟨#[113]⟩] 9) = w1 at *
  have s2 := Sl.newAt w1 [.int .i64 1] 3 (0, 0) (w.heap.size + 1) 1 z1.symm rfl (by decide)
  change Sl (w1.alloc (.cells #[.int .i64 1] 3)) _ _ at s2
  have z2 := size_alloc w1 (.cells #[.int .i64 1] 3)
  have n2 := (Nw.refl w1).alloc (.cells #[.int .i64 1] 3)
  generalize w1.alloc (.cells #[.int .i64 1] 3) = w2 at *
  rw [z1] at z2
  have b3 := box2 w2 (.int .u64 3) (.slice (some ⟨w.heap.size + 1, 0, none⟩) 1 1) 39
  have z3 := size_alloc w2 (.cells #[.int .u64 3, .slice (some ⟨w.heap.size + 1, 0, none⟩) 1 1] 39)
  have n3 := (Nw.refl w2).alloc (.cells #[.int .u64 3, .slice (some ⟨w.heap.size + 1, 0, none⟩) 1 1] 39)
  generalize w2.alloc (.cells #[.int .u64 3, .slice (some ⟨w.heap.size + 1, 0, none⟩) 1 1] 39) = w3 at *
  rw [z2] at z3 b3
  have b4 := box2 w3 (.slice (some ⟨w.heap.size, 0, none⟩) 2 2) (.slice (some ⟨w.heap.size + 1 + 1, 0, none⟩) 1 1) 26
  have n4 := (Nw.refl w3).alloc (.cells #[.slice (some ⟨w.heap.size, 0, none⟩) 2 2, .slice (some ⟨w.heap.size + 1 + 1, 0, none⟩) 1 1] 26)
  generalize w3.alloc (.cells #[.slice (some ⟨w.heap.size, 0, none⟩) 2 2, .slice (some ⟨w.heap.size + 1 + 1, 0, none⟩) 1 1] 26) = w4 at *
  rw [z3] at b4
  refine ⟨s1.nw (n2.trans (n3.trans n4)), ⟨_, _, rfl, by decide, by decide, (fun h => by cases h), fun i hi => ?_⟩, n1.trans (n2.trans (n3.trans n4)), b4.1, b4.2⟩
  match i, hi with
  | 0, _ => exact ⟨_, 0, _, rfl, n4.cell b3.1, n4.cell b3.2, s2.nw (n3.trans n4)⟩
set_option maxRecDepth 20000 in
set_option maxHeartbeats 800000 in
theorem awake_c (w : World) : Calls Try.prog 17 #[] w (Gives (.bool true) w) := by
  have hrd := aw_reads w
  go_enter Try.func17, Try.ntmps17
  go_upto_region 2 with fail
  obtain ⟨h1, h2, hn, x0, x1⟩ := hrd
  generalize ((((w.alloc (.cells #[.string ⟨#[112]⟩, .string ⟨#[113]⟩] 9)).alloc (.cells #[.int .i64 1] 3)).alloc (.cells #[.int .u64 3, .slice (some ⟨w.heap.size + 1, 0, none⟩) 1 1] 39)).alloc (.cells #[.slice (some ⟨w.heap.size, 0, none⟩) 2 2, .slice (some ⟨w.heap.size + 1 + 1, 0, none⟩) 1 1] 26)) = w0 at *
  have g0 := World.block_lt_of_cell? w0 _ x0
  simp only at g0
  have HM := hid (fun w' (h : Nw w0 w') => show Calls Try.prog 24 #[.agg #[.slice (some ⟨w.heap.size, 0, none⟩) 2 2, .slice (some ⟨w.heap.size + 1 + 1, 0, none⟩) 1 1]] w' (Gives (.bool true) w') by
    have := may_c _ _ aw w' (h1.nw h) (h2.nw h) aw_small.s
    rwa [show mayP aw = true by decide +kernel] at this)
  have HQ := hid (fun w' (h : Nw w0 w') => show Calls Try.prog 26 #[.agg #[.slice (some ⟨w.heap.size, 0, none⟩) 2 2, .slice (some ⟨w.heap.size + 1 + 1, 0, none⟩) 1 1], .int .i64 0, .string ⟨#[113]⟩] w' (Gives (.bool true) w') by
    have := holds_c _ _ aw 0 ⟨#[113]⟩ w' (h1.nw h) (h2.nw h) aw_small
    rwa [show holdsP aw 0 ⟨#[113]⟩ = true by decide +kernel] at this)
  have HP := hid (fun w' (h : Nw w0 w') => show Calls Try.prog 26 #[.agg #[.slice (some ⟨w.heap.size, 0, none⟩) 2 2, .slice (some ⟨w.heap.size + 1 + 1, 0, none⟩) 1 1], .int .i64 0, .string ⟨#[112]⟩] w' (Gives (.bool false) w') by
    have := holds_c _ _ aw 0 ⟨#[112]⟩ w' (h1.nw h) (h2.nw h) aw_small
    rwa [show holdsP aw 0 ⟨#[112]⟩ = false by decide +kernel] at this)
  have HC := hid (fun w' (h : Nw w0 w') => cut_c _ _ aw 0 w' (h1.nw h) (h2.nw h) aw_small (by decide) (by decide))
  have hcs : Small (cutP aw 0) := by
    rw [show cutP aw 0 = ⟨aw.names, []⟩ from if_pos (by decide +kernel)]
    exact ⟨by decide, by decide, (fun i hi => by cases hi), aw_small.s⟩
  have HF := hid (fun u w' (h : Nw w0 w') (hu : TrR w' u (cutP aw 0)) => show Calls Try.prog 32 #[u, .agg #[.slice (some ⟨w.heap.size, 0, none⟩) 2 2, .slice (some ⟨w.heap.size + 1 + 1, 0, none⟩) 1 1]] w' (Gives (.bool true) w') by
    have := front_r u _ (cutP aw 0) aw w' hu ⟨_, _, rfl, h1.nw h, h2.nw h⟩ hcs aw_small
    rwa [show frontP (cutP aw 0) aw = true by decide +kernel] at this)
  clear h1 h2 hcs
  generalize cutP aw 0 = ct at *
  refine wp_region_stairs (by kernel_rfl) (by kernel_rfl) (by kernel_rfl) ?_
  iterate 13
    refine Stairs.is ?_ ?_ ?_
    rotate_left 1
    · intro x wR hR hd K hK
      simp only [Act.put, List.setIfInBounds_toArray, List.set_cons_zero, List.set_cons_succ, Nat.reduceAdd, List.length_nil, List.length_cons, List.nil_append, List.cons_append, Say.ok] at hK ⊢
      clear hd
      change Hid _ at hK
      obtain ⟨hcR, hfR, hzR⟩ := nwc hR
      first | (refine wanted_yes ?_ ?_; rfl) | (refine wanted_no ?_ ?_; rfl)
      go_wp2_with (first 
    | (go_at_call 24; refine (HM.out _ (by repeat (first | assumption | exact Nw.refl _ | refine Nw.alloc ?_ _ | refine Nw.drew ?_ | refine Nw.drewN2 ?_ _ | (refine Nw.trans ?_ (by assumption))))).mono ?_; rintro e w5 ⟨rfl, hn5⟩)
    | (go_at_call 26; (first | with_reducible refine (HQ.out _ ?_).mono ?_ | refine (HP.out _ ?_).mono ?_); exact (by repeat (first | assumption | exact Nw.refl _ | refine Nw.alloc ?_ _ | refine Nw.drew ?_ | refine Nw.drewN2 ?_ _ | (refine Nw.trans ?_ (by assumption)))); rintro e w5 ⟨rfl, hn5⟩)
    | (go_at_call 25; refine (HC.out _ (by repeat (first | assumption | exact Nw.refl _ | refine Nw.alloc ?_ _ | refine Nw.drew ?_ | refine Nw.drewN2 ?_ _ | (refine Nw.trans ?_ (by assumption))))).mono ?_; rintro e w5 ⟨v5, rfl, hr5, hn5⟩)
    | (go_at_call 32; refine (HF.out _ _ (by repeat (first | assumption | exact Nw.refl _ | refine Nw.alloc ?_ _ | refine Nw.drew ?_ | refine Nw.drewN2 ?_ _ | (refine Nw.trans ?_ (by assumption)))) (by first | exact hd | exact hd.1 | exact hd.2 | exact hd.2.1)).mono ?_; rintro e w5 ⟨rfl, hn5⟩))
      all_goals (refine hK.out _ _ ?_ ?_ <;> first | (solve | (repeat (first | assumption | exact Nw.refl _ | refine Nw.alloc ?_ _ | refine Nw.drew ?_ | refine Nw.drewN2 ?_ _ | (refine Nw.trans ?_ (by assumption))))) | exact rfl | exact hr5)
    try simp only [Act.put, List.setIfInBounds_toArray, List.set_cons_zero, List.set_cons_succ, Nat.reduceAdd, List.length_nil, List.length_cons, List.nil_append, List.cons_append]
  iterate 1
    refine Stairs.that (ReadsT ct) (by simp) ?_ ?_
    · intro x wR hR hd K hK
      simp only [Act.put, List.setIfInBounds_toArray, List.set_cons_zero, List.set_cons_succ, Nat.reduceAdd, List.length_nil, List.length_cons, List.nil_append, List.cons_append, Say.ok] at hK ⊢
      clear hd
      change Hid _ at hK
      obtain ⟨hcR, hfR, hzR⟩ := nwc hR
      first | (refine wanted_yes ?_ ?_; rfl) | (refine wanted_no ?_ ?_; rfl)
      go_wp2_with (first 
    | (go_at_call 24; refine (HM.out _ (by repeat (first | assumption | exact Nw.refl _ | refine Nw.alloc ?_ _ | refine Nw.drew ?_ | refine Nw.drewN2 ?_ _ | (refine Nw.trans ?_ (by assumption))))).mono ?_; rintro e w5 ⟨rfl, hn5⟩)
    | (go_at_call 26; (first | with_reducible refine (HQ.out _ ?_).mono ?_ | refine (HP.out _ ?_).mono ?_); exact (by repeat (first | assumption | exact Nw.refl _ | refine Nw.alloc ?_ _ | refine Nw.drew ?_ | refine Nw.drewN2 ?_ _ | (refine Nw.trans ?_ (by assumption)))); rintro e w5 ⟨rfl, hn5⟩)
    | (go_at_call 25; refine (HC.out _ (by repeat (first | assumption | exact Nw.refl _ | refine Nw.alloc ?_ _ | refine Nw.drew ?_ | refine Nw.drewN2 ?_ _ | (refine Nw.trans ?_ (by assumption))))).mono ?_; rintro e w5 ⟨v5, rfl, hr5, hn5⟩)
    | (go_at_call 32; refine (HF.out _ _ (by repeat (first | assumption | exact Nw.refl _ | refine Nw.alloc ?_ _ | refine Nw.drew ?_ | refine Nw.drewN2 ?_ _ | (refine Nw.trans ?_ (by assumption)))) (by first | exact hd | exact hd.1 | exact hd.2 | exact hd.2.1)).mono ?_; rintro e w5 ⟨rfl, hn5⟩))
      all_goals (refine hK.out _ _ ?_ ?_ <;> first | (solve | (repeat (first | assumption | exact Nw.refl _ | refine Nw.alloc ?_ _ | refine Nw.drew ?_ | refine Nw.drewN2 ?_ _ | (refine Nw.trans ?_ (by assumption))))) | exact rfl | exact hr5)
    try simp only [Act.put, List.setIfInBounds_toArray, List.set_cons_zero, List.set_cons_succ, Nat.reduceAdd, List.length_nil, List.length_cons, List.nil_append, List.cons_append]
  iterate 4
    refine Stairs.is ?_ ?_ ?_
    rotate_left 1
    · intro x wR hR hd K hK
      simp only [Act.put, List.setIfInBounds_toArray, List.set_cons_zero, List.set_cons_succ, Nat.reduceAdd, List.length_nil, List.length_cons, List.nil_append, List.cons_append, Say.ok] at hK ⊢
      try simp [Region.binds, sayAt, List.getD_cons_zero, List.getD_cons_succ, Say.ok, Vl] at hd
      try (first | have hs := str_ok hd | have hs := str_ok hd.2 | have hs := str_ok hd.1 | (obtain ⟨hd1, hd2, hd3⟩ := hd; first | have hs := str_ok hd1 | have hs := str_ok hd2 | have hs := str_ok hd3))
      change Hid _ at hK
      obtain ⟨hcR, hfR, hzR⟩ := nwc hR
      first | (refine wanted_yes ?_ ?_; rfl) | (refine wanted_no ?_ ?_; rfl)
      go_wp2_with (first 
    | (go_at_call 24; refine (HM.out _ (by repeat (first | assumption | exact Nw.refl _ | refine Nw.alloc ?_ _ | refine Nw.drew ?_ | refine Nw.drewN2 ?_ _ | (refine Nw.trans ?_ (by assumption))))).mono ?_; rintro e w5 ⟨rfl, hn5⟩)
    | (go_at_call 26; (first | with_reducible refine (HQ.out _ ?_).mono ?_ | refine (HP.out _ ?_).mono ?_); exact (by repeat (first | assumption | exact Nw.refl _ | refine Nw.alloc ?_ _ | refine Nw.drew ?_ | refine Nw.drewN2 ?_ _ | (refine Nw.trans ?_ (by assumption)))); rintro e w5 ⟨rfl, hn5⟩)
    | (go_at_call 25; refine (HC.out _ (by repeat (first | assumption | exact Nw.refl _ | refine Nw.alloc ?_ _ | refine Nw.drew ?_ | refine Nw.drewN2 ?_ _ | (refine Nw.trans ?_ (by assumption))))).mono ?_; rintro e w5 ⟨v5, rfl, hr5, hn5⟩)
    | (go_at_call 32; refine (HF.out _ _ (by repeat (first | assumption | exact Nw.refl _ | refine Nw.alloc ?_ _ | refine Nw.drew ?_ | refine Nw.drewN2 ?_ _ | (refine Nw.trans ?_ (by assumption)))) (by first | exact hd | exact hd.1 | exact hd.2 | exact hd.2.1)).mono ?_; rintro e w5 ⟨rfl, hn5⟩))
      all_goals (refine hK.out _ _ ?_ ?_ <;> first | (solve | (repeat (first | assumption | exact Nw.refl _ | refine Nw.alloc ?_ _ | refine Nw.drew ?_ | refine Nw.drewN2 ?_ _ | (refine Nw.trans ?_ (by assumption))))) | exact rfl | exact hr5)
    try simp only [Act.put, List.setIfInBounds_toArray, List.set_cons_zero, List.set_cons_succ, Nat.reduceAdd, List.length_nil, List.length_cons, List.nil_append, List.cons_append]
  refine Stairs.nil ?_
  intro x wR hR hx
  have h13 := hx 13 (by decide)
  simp only [sayAt, List.getD_cons_zero, List.getD_cons_succ, Say.ok, Vl] at h13
  clear hx
  obtain ⟨hcR, hfR, hzR⟩ := nwc hR
  go_wp2
  go_ret
  exact ⟨rfl, hn.trans hR⟩
end Tr
end Go.Proofs.Ytjelbfodkacipaa
