/- The contracts of Front, both. No condition but lengths. -/
import Derived.Test.YtjelbfodkacipaaTrI
set_option linter.unusedSimpArgs false
set_option linter.unusedVariables false
namespace Go.Proofs.Ytjelbfodkacipaa
open Go.ChangeShapes Go.WideShapes Go.ChangeAt Go.RowKit
namespace Tr
open Go.Proofs.Ytjelbfodkacipaa.Lx (isIn nameB strs_open strs_cell contains_c)
open Go.Proofs.Ytjelbfodkacipaa.Rec (rises i64s_open i64_cell)
set_option maxRecDepth 20000 in
set_option maxHeartbeats 800000 in
theorem eqf_c (u v : Value) (a b : Es) (w : World) (hu : Evs w u a) (hv : Evs w v b) : Calls Try.prog 55 #[u, v, .func (.func 56) #[] #[]] w (Gives (.bool (decide (a = b))) w) := by
  obtain ⟨p, cap, rfl, hcap, hmx, _, hc⟩ := hu
  obtain ⟨p2, cap2, rfl, hcap2, hmx2, _, hc2⟩ := hv
  unfold maxLen at hmx hmx2
  have HC := hid hc
  have HC2 := hid hc2
  clear hc hc2
  by_cases hl : a.length = b.length
  · have HL := hid hl
    rw [← hl] at hcap2 ⊢
    clear hl
    go_enter Try.func55, Try.ntmps55
    go_wp2
    go_loopw [7, 8, 9, 17] (fun _ _ _ i wr => ∃ k : Nat, k ≤ a.length ∧ i = .int .i64 k ∧ Hid (a.take k = b.take k) ∧ Nw w wr) (fun _ _ _ i _ => a.length - (intOf i).toNat)
    case atStart => exact ⟨0, Nat.zero_le _, rfl, hid rfl, Nw.refl _⟩
    case round =>
      obtain ⟨k, hk, rfl, ht, hn⟩ := hrel
      by_cases hlt : k < a.length
      · have HK2 := hid (show k < b.length by have := HL.out; omega)
        obtain ⟨b1, o1, v1, rfl, c0, c1, s1⟩ := (HC.out.nw hn) k hlt
        obtain ⟨b2, o2, v2, rfl, d0, d1, s2⟩ := (HC2.out.nw hn) k HK2.out
        have hdk : decide (k < a.length) = true := decide_eq_true hlt
        have HT := hid (es_of_take a b k ht.out hlt HK2.out)
        have HS := hid (fun w' (h : Nw wr w') => front1_c v1 v2 (tm a k) (tm b k) (ids a k) (ids b k) w' (s1.nw h) (s2.nw h))
        obtain ⟨q, c, rfl, hcq, hmq, _, _⟩ := i64s_open s1
        obtain ⟨q2, c2, rfl, hcq2, hmq2, _, _⟩ := i64s_open s2
        unfold maxLen at hmq hmq2
        have g1 := World.block_lt_of_cell? wr _ c0
        have g2 := World.block_lt_of_cell? wr _ d0
        simp only at g1 g2
        clear s1 s2
        by_cases he : tm a k = tm b k ∧ ids a k = ids b k
        · have hde : decide (tm a k = tm b k ∧ ids a k = ids b k) = true := decide_eq_true he
          have HN := hid (HT.out.1 he)
          rw [hde] at HS
          clear ht HT he hde
          generalize tm a k = x at *
          generalize tm b k = y at *
          generalize ids a k = l at *
          generalize ids b k = m at *
          go_wp2_with (first
            | (go_at_call 56; refine (HS.out _ (by repeat (first | assumption | exact Nw.refl _ | refine Nw.alloc ?_ _ | refine Nw.drew ?_ | refine Nw.drewN2 ?_ _ | (refine Nw.trans ?_ (by assumption))))).mono ?_; rintro e w5 ⟨rfl, hn5⟩)
            | fail)
          go_roundw
          case rel => exact ⟨k + 1, by omega, by go_num, HN, (by repeat (first | assumption | exact Nw.refl _ | refine Nw.alloc ?_ _ | refine Nw.drew ?_ | refine Nw.drewN2 ?_ _ | (refine Nw.trans ?_ (by assumption))))⟩
          case measure => simp [intOf]; omega
        · have hde : decide (tm a k = tm b k ∧ ids a k = ids b k) = false := decide_eq_false he
          have HF := hid (show decide (a = b) = false from decide_eq_false (fun h => he (by rw [h]; exact ⟨rfl, rfl⟩)))
          rw [hde] at HS
          clear ht he HT hde
          generalize tm a k = x at *
          generalize tm b k = y at *
          generalize ids a k = l at *
          generalize ids b k = m at *
          go_wp2_with (first
            | (go_at_call 56; refine (HS.out _ (by repeat (first | assumption | exact Nw.refl _ | refine Nw.alloc ?_ _ | refine Nw.drew ?_ | refine Nw.drewN2 ?_ _ | (refine Nw.trans ?_ (by assumption))))).mono ?_; rintro e w5 ⟨rfl, hn5⟩)
            | fail)
          go_ret
          exact Gives.b HF.out.symm (by repeat (first | assumption | exact Nw.refl _ | refine Nw.alloc ?_ _ | refine Nw.drew ?_ | refine Nw.drewN2 ?_ _ | (refine Nw.trans ?_ (by assumption))))
      · have hdk : decide (k < a.length) = false := decide_eq_false hlt
        have HF := hid (show decide (a = b) = true from decide_eq_true (by have h0 := HL.out; have := ht.out; rwa [List.take_of_length_le (by omega), List.take_of_length_le (by omega)] at this))
        clear ht
        go_wp2
        go_ret
        exact Gives.b HF.out.symm (by repeat (first | assumption | exact Nw.refl _ | refine Nw.alloc ?_ _ | refine Nw.drew ?_ | refine Nw.drewN2 ?_ _ | (refine Nw.trans ?_ (by assumption))))
  · have hd : ((a.length : Int) != b.length) = true := by simp; omega
    have HF := hid (show decide (a = b) = false from decide_eq_false (fun h => hl (by rw [h])))
    go_enter Try.func55, Try.ntmps55
    go_wp2
    go_ret
    exact Gives.b HF.out.symm (by repeat (first | assumption | exact Nw.refl _ | refine Nw.alloc ?_ _ | refine Nw.drew ?_ | refine Nw.drewN2 ?_ _ | (refine Nw.trans ?_ (by assumption))))
def frontP (a b : T) : Bool := mayP a && (mayP b && (decide (a.names = b.names) && (decide (a.evs.length ≤ b.evs.length) && decide (a.evs = b.evs.take a.evs.length))))
set_option maxRecDepth 20000 in
set_option maxHeartbeats 1600000 in
theorem front_c (un ue vn ve : Value) (a b : T) (w : World) (h1 : Sl w un (Lx.strs a.names)) (h2 : Evs w ue a.evs) (h3 : Sl w vn (Lx.strs b.names)) (h4 : Evs w ve b.evs) (ha : Small a) (hb : Small b) :
    Calls Try.prog 32 #[.agg #[un, ue], .agg #[vn, ve]] w (Gives (.bool (frontP a b)) w) := by
  have HA := hid (fun w' (h : Nw w w') => may_c un ue a w' (h1.nw h) (h2.nw h) ha.s)
  have HB := hid (fun w' (h : Nw w w') => may_c vn ve b w' (h3.nw h) (h4.nw h) hb.s)
  have HS := hid (fun w' (h : Nw w w') => eqs_c un vn a.names b.names w' (h1.nw h) (h3.nw h))
  obtain ⟨p1, k1, rfl, _, _, _, _⟩ := strs_open h1
  obtain ⟨p2, k2, rfl, _, _, _, _⟩ := strs_open h3
  have h2' := h2
  have h4' := h4
  obtain ⟨p3, k3, rfl, hk3, hm3, _, _⟩ := h2
  obtain ⟨p4, k4, rfl, hk4, hm4, h40, hec4⟩ := h4
  have hm4' := hm4
  unfold maxLen at hm3 hm4
  have HE4 := hid hec4
  have la := ha.e
  have lb := hb.e
  clear hec4 ha hb h1 h3
  go_enter Try.func32, Try.ntmps32
  go_upto_region 1 with fail
  obtain ⟨x0, x1, y4, hn, hz4⟩ := boxes w (.slice p1 a.names.length k1) (.slice p3 a.evs.length k3) (.slice p2 b.names.length k2) (.slice p4 b.evs.length k4) 26 26
  have y0 := heap_cell y4 0
  have y1 := heap_cell y4 1
  simp only [List.getElem?_toArray, List.getElem?_cons_succ, List.getElem?_cons_zero] at y0 y1
  clear y4
  generalize ((w.alloc (.cells #[.slice p1 a.names.length k1, .slice p3 a.evs.length k3] 26)).alloc (.cells #[.slice p2 b.names.length k2, .slice p4 b.evs.length k4] 26)) = w0 at *
  have hz0 : w.heap.size < w0.heap.size := by omega
  have hz1 : w.heap.size + 1 < w0.heap.size := by omega
  clear hz4
  by_cases hMa : mayP a = true
  · by_cases hMb : mayP b = true
    · by_cases hN : a.names = b.names
      · have hd : decide (a.names = b.names) = true := decide_eq_true hN
        rw [hMa] at HA
        rw [hMb] at HB
        rw [hd] at HS
        by_cases hL : b.evs.length < a.evs.length
        · have hdl : decide (b.evs.length < a.evs.length) = true := decide_eq_true hL
          have HF := hid (show frontP a b = false by unfold frontP; rw [decide_eq_false (show ¬ a.evs.length ≤ b.evs.length by omega)]; simp)
          clear hMa hMb hN hd
          go_wp2_with (first
            | (go_at_call 24; (first | with_reducible refine (HA.out _ ?_).mono ?_ | refine (HB.out _ ?_).mono ?_); exact (by repeat (first | assumption | exact Nw.refl _ | refine Nw.alloc ?_ _ | refine Nw.drew ?_ | refine Nw.drewN2 ?_ _ | (refine Nw.trans ?_ (by assumption)))); rintro e w1 ⟨rfl, hn1⟩; have x0 := hn1.cell x0; have x1 := hn1.cell x1; have y0 := hn1.cell y0; have y1 := hn1.cell y1; have hz0 : w.heap.size < w1.heap.size := Nat.lt_of_lt_of_le hz0 hn1.size; have hz1 : w.heap.size + 1 < w1.heap.size := Nat.lt_of_lt_of_le hz1 hn1.size)
            | (go_at_call 53; refine (HS.out _ (by repeat (first | assumption | exact Nw.refl _ | refine Nw.alloc ?_ _ | refine Nw.drew ?_ | refine Nw.drewN2 ?_ _ | (refine Nw.trans ?_ (by assumption))))).mono ?_; rintro e w3 ⟨rfl, hn3⟩; have x0 := hn3.cell x0; have x1 := hn3.cell x1; have y0 := hn3.cell y0; have y1 := hn3.cell y1; have hz0 : w.heap.size < w3.heap.size := Nat.lt_of_lt_of_le hz0 hn3.size; have hz1 : w.heap.size + 1 < w3.heap.size := Nat.lt_of_lt_of_le hz1 hn3.size)
            | fail)
          go_ret
          exact Gives.b HF.out.symm (by repeat (first | assumption | exact Nw.refl _ | refine Nw.alloc ?_ _ | refine Nw.drew ?_ | refine Nw.drewN2 ?_ _ | (refine Nw.trans ?_ (by assumption))))
        · have hdl : decide (b.evs.length < a.evs.length) = false := decide_eq_false hL
          have HF := hid (show frontP a b = decide (a.evs = b.evs.take a.evs.length) by unfold frontP; rw [decide_eq_true (show a.evs.length ≤ b.evs.length by omega), hMa, hMb, hd]; simp)
          have hle : a.evs.length ≤ b.evs.length := by omega
          clear hMa hMb hN hd hL
          go_upto_region 3 with (first
            | (go_at_call 24; (first | with_reducible refine (HA.out _ ?_).mono ?_ | refine (HB.out _ ?_).mono ?_); exact (by repeat (first | assumption | exact Nw.refl _ | refine Nw.alloc ?_ _ | refine Nw.drew ?_ | refine Nw.drewN2 ?_ _ | (refine Nw.trans ?_ (by assumption)))); rintro e w1 ⟨rfl, hn1⟩; have x0 := hn1.cell x0; have x1 := hn1.cell x1; have y0 := hn1.cell y0; have y1 := hn1.cell y1; have hz0 : w.heap.size < w1.heap.size := Nat.lt_of_lt_of_le hz0 hn1.size; have hz1 : w.heap.size + 1 < w1.heap.size := Nat.lt_of_lt_of_le hz1 hn1.size)
            | (go_at_call 53; refine (HS.out _ (by repeat (first | assumption | exact Nw.refl _ | refine Nw.alloc ?_ _ | refine Nw.drew ?_ | refine Nw.drewN2 ?_ _ | (refine Nw.trans ?_ (by assumption))))).mono ?_; rintro e w3 ⟨rfl, hn3⟩; have x0 := hn3.cell x0; have x1 := hn3.cell x1; have y0 := hn3.cell y0; have y1 := hn3.cell y1; have hz0 : w.heap.size < w3.heap.size := Nat.lt_of_lt_of_le hz0 hn3.size; have hz1 : w.heap.size + 1 < w3.heap.size := Nat.lt_of_lt_of_le hz1 hn3.size)
            | fail)
          have hw3 := hn.trans (Nw.trans (by assumption) (Nw.trans (by assumption) hn3))
          have hle2 : a.evs.length ≤ k4 := Nat.le_trans hle hk4
          have HCUT := hid (fun w' (h : Nw w w') => Evs.cut a.evs.length a.evs.length (by rw [List.length_take]; omega) hk4 hm4' h40 (HE4.out.nw h))
          refine wp_region_stairs (by kernel_rfl) (by kernel_rfl) (by kernel_rfl) ?_
          iterate 10
            refine Stairs.is ?_ ?_ ?_
            rotate_left 1
            · intro x wR hR hd K hK
              simp only [Act.put, List.setIfInBounds_toArray, List.set_cons_zero, List.set_cons_succ, Nat.reduceAdd, List.length_nil, List.length_cons, List.nil_append, List.cons_append, Say.ok] at hK ⊢
              clear hd
              change Hid _ at hK
              obtain ⟨hcR, hfR, hzR⟩ := nwc hR
              first | (refine wanted_yes ?_ ?_; rfl) | (refine wanted_no ?_ ?_; rfl)
              go_wp2_with (first | (go_at_call 55; refine (eqf_c _ _ a.evs (b.evs.take a.evs.length) _ (h2'.nw (hw3.trans (by repeat (first | assumption | exact Nw.refl _ | refine Nw.alloc ?_ _ | refine Nw.drew ?_ | refine Nw.drewN2 ?_ _ | (refine Nw.trans ?_ (by assumption)))))) (HCUT.out _ (hw3.trans (by repeat (first | assumption | exact Nw.refl _ | refine Nw.alloc ?_ _ | refine Nw.drew ?_ | refine Nw.drewN2 ?_ _ | (refine Nw.trans ?_ (by assumption))))))).mono ?_; rintro e w5 ⟨rfl, hn5⟩))
              all_goals (refine hK.out _ _ ?_ ?_ <;> first | (solve | (repeat (first | assumption | exact Nw.refl _ | refine Nw.alloc ?_ _ | refine Nw.drew ?_ | refine Nw.drewN2 ?_ _ | (refine Nw.trans ?_ (by assumption))))) | exact rfl)
            try simp only [Act.put, List.setIfInBounds_toArray, List.set_cons_zero, List.set_cons_succ, Nat.reduceAdd, List.length_nil, List.length_cons, List.nil_append, List.cons_append]
          refine Stairs.nil ?_
          intro x wR hR hx
          clear hx
          obtain ⟨hcR, hfR, hzR⟩ := nwc hR
          go_wp2
          go_ret
          exact Gives.b HF.out.symm (hw3.trans hR)
      · have hd : decide (a.names = b.names) = false := decide_eq_false hN
        have HF := hid (show frontP a b = false by unfold frontP; rw [hd]; simp)
        rw [hMa] at HA
        rw [hMb] at HB
        rw [hd] at HS
        clear hMa hMb hN hd
        go_wp2_with (first
          | (go_at_call 24; (first | with_reducible refine (HA.out _ ?_).mono ?_ | refine (HB.out _ ?_).mono ?_); exact (by repeat (first | assumption | exact Nw.refl _ | refine Nw.alloc ?_ _ | refine Nw.drew ?_ | refine Nw.drewN2 ?_ _ | (refine Nw.trans ?_ (by assumption)))); rintro e w1 ⟨rfl, hn1⟩; have x0 := hn1.cell x0; have x1 := hn1.cell x1; have y0 := hn1.cell y0; have y1 := hn1.cell y1; have hz0 : w.heap.size < w1.heap.size := Nat.lt_of_lt_of_le hz0 hn1.size; have hz1 : w.heap.size + 1 < w1.heap.size := Nat.lt_of_lt_of_le hz1 hn1.size)
          | (go_at_call 53; refine (HS.out _ (by repeat (first | assumption | exact Nw.refl _ | refine Nw.alloc ?_ _ | refine Nw.drew ?_ | refine Nw.drewN2 ?_ _ | (refine Nw.trans ?_ (by assumption))))).mono ?_; rintro e w3 ⟨rfl, hn3⟩; have x0 := hn3.cell x0; have x1 := hn3.cell x1; have y0 := hn3.cell y0; have y1 := hn3.cell y1; have hz0 : w.heap.size < w3.heap.size := Nat.lt_of_lt_of_le hz0 hn3.size; have hz1 : w.heap.size + 1 < w3.heap.size := Nat.lt_of_lt_of_le hz1 hn3.size)
          | fail)
        go_ret
        exact Gives.b HF.out.symm (by repeat (first | assumption | exact Nw.refl _ | refine Nw.alloc ?_ _ | refine Nw.drew ?_ | refine Nw.drewN2 ?_ _ | (refine Nw.trans ?_ (by assumption))))
    · rw [Bool.not_eq_true] at hMb
      have HF := hid (show frontP a b = false by unfold frontP; rw [hMb]; simp)
      rw [hMa] at HA
      rw [hMb] at HB
      clear hMa hMb
      go_wp2_with (first
        | (go_at_call 24; (first | with_reducible refine (HA.out _ ?_).mono ?_ | refine (HB.out _ ?_).mono ?_); exact (by repeat (first | assumption | exact Nw.refl _ | refine Nw.alloc ?_ _ | refine Nw.drew ?_ | refine Nw.drewN2 ?_ _ | (refine Nw.trans ?_ (by assumption)))); rintro e w1 ⟨rfl, hn1⟩; have x0 := hn1.cell x0; have x1 := hn1.cell x1; have y0 := hn1.cell y0; have y1 := hn1.cell y1; have hz0 : w.heap.size < w1.heap.size := Nat.lt_of_lt_of_le hz0 hn1.size; have hz1 : w.heap.size + 1 < w1.heap.size := Nat.lt_of_lt_of_le hz1 hn1.size)
        | (go_at_call 53; refine (HS.out _ (by repeat (first | assumption | exact Nw.refl _ | refine Nw.alloc ?_ _ | refine Nw.drew ?_ | refine Nw.drewN2 ?_ _ | (refine Nw.trans ?_ (by assumption))))).mono ?_; rintro e w3 ⟨rfl, hn3⟩; have x0 := hn3.cell x0; have x1 := hn3.cell x1; have y0 := hn3.cell y0; have y1 := hn3.cell y1; have hz0 : w.heap.size < w3.heap.size := Nat.lt_of_lt_of_le hz0 hn3.size; have hz1 : w.heap.size + 1 < w3.heap.size := Nat.lt_of_lt_of_le hz1 hn3.size)
        | fail)
      go_ret
      exact Gives.b HF.out.symm (by repeat (first | assumption | exact Nw.refl _ | refine Nw.alloc ?_ _ | refine Nw.drew ?_ | refine Nw.drewN2 ?_ _ | (refine Nw.trans ?_ (by assumption))))
  · rw [Bool.not_eq_true] at hMa
    have HF := hid (show frontP a b = false by unfold frontP; rw [hMa]; rfl)
    rw [hMa] at HA
    clear hMa
    go_wp2_with (first
      | (go_at_call 24; (first | with_reducible refine (HA.out _ ?_).mono ?_ | refine (HB.out _ ?_).mono ?_); exact (by repeat (first | assumption | exact Nw.refl _ | refine Nw.alloc ?_ _ | refine Nw.drew ?_ | refine Nw.drewN2 ?_ _ | (refine Nw.trans ?_ (by assumption)))); rintro e w1 ⟨rfl, hn1⟩; have x0 := hn1.cell x0; have x1 := hn1.cell x1; have y0 := hn1.cell y0; have y1 := hn1.cell y1; have hz0 : w.heap.size < w1.heap.size := Nat.lt_of_lt_of_le hz0 hn1.size; have hz1 : w.heap.size + 1 < w1.heap.size := Nat.lt_of_lt_of_le hz1 hn1.size)
      | (go_at_call 53; refine (HS.out _ (by repeat (first | assumption | exact Nw.refl _ | refine Nw.alloc ?_ _ | refine Nw.drew ?_ | refine Nw.drewN2 ?_ _ | (refine Nw.trans ?_ (by assumption))))).mono ?_; rintro e w3 ⟨rfl, hn3⟩; have x0 := hn3.cell x0; have x1 := hn3.cell x1; have y0 := hn3.cell y0; have y1 := hn3.cell y1; have hz0 : w.heap.size < w3.heap.size := Nat.lt_of_lt_of_le hz0 hn3.size; have hz1 : w.heap.size + 1 < w3.heap.size := Nat.lt_of_lt_of_le hz1 hn3.size)
      | fail)
    go_ret
    exact Gives.b HF.out.symm (by repeat (first | assumption | exact Nw.refl _ | refine Nw.alloc ?_ _ | refine Nw.drew ?_ | refine Nw.drewN2 ?_ _ | (refine Nw.trans ?_ (by assumption))))
set_option maxRecDepth 20000 in
set_option maxHeartbeats 3200000 in
theorem rfront_c (un ue vn ve : Value) (a b : T) (w : World) (h1 : Sl w un (Lx.strs a.names)) (h2 : Evs w ue a.evs) (h3 : Sl w vn (Lx.strs b.names)) (h4 : Evs w ve b.evs) (ha : Small a) (hb : Small b) :
    Calls Try.prog 47 #[.agg #[un, ue], .agg #[vn, ve]] w (Gives (.bool (frontP a b)) w) := by
  have HA := hid (fun w' (h : Nw w w') => rmay_c un ue a w' (h1.nw h) (h2.nw h) ha.s)
  have HB := hid (fun w' (h : Nw w w') => rmay_c vn ve b w' (h3.nw h) (h4.nw h) hb.s)
  have HS := hid (fun w' (h : Nw w w') => eqs_c un vn a.names b.names w' (h1.nw h) (h3.nw h))
  obtain ⟨p1, k1, rfl, _, _, _, _⟩ := strs_open h1
  obtain ⟨p2, k2, rfl, _, _, _, _⟩ := strs_open h3
  have h2' := h2
  have h4' := h4
  obtain ⟨p3, k3, rfl, hk3, hm3, _, _⟩ := h2
  obtain ⟨p4, k4, rfl, hk4, hm4, h40, hec4⟩ := h4
  have hm4' := hm4
  unfold maxLen at hm3 hm4
  have HE4 := hid hec4
  have la := ha.e
  have lb := hb.e
  clear hec4 ha hb h1 h3
  go_enter Try.func47, Try.ntmps47
  go_upto_region 1 with fail
  obtain ⟨x0, x1, y4, hn, hz4⟩ := boxes w (.slice p1 a.names.length k1) (.slice p3 a.evs.length k3) (.slice p2 b.names.length k2) (.slice p4 b.evs.length k4) 26 26
  have y0 := heap_cell y4 0
  have y1 := heap_cell y4 1
  simp only [List.getElem?_toArray, List.getElem?_cons_succ, List.getElem?_cons_zero] at y0 y1
  clear y4
  generalize ((w.alloc (.cells #[.slice p1 a.names.length k1, .slice p3 a.evs.length k3] 26)).alloc (.cells #[.slice p2 b.names.length k2, .slice p4 b.evs.length k4] 26)) = w0 at *
  have hz0 : w.heap.size < w0.heap.size := by omega
  have hz1 : w.heap.size + 1 < w0.heap.size := by omega
  clear hz4
  by_cases hMa : mayP a = true
  · by_cases hMb : mayP b = true
    · by_cases hN : a.names = b.names
      · have hd : decide (a.names = b.names) = true := decide_eq_true hN
        rw [hMa] at HA
        rw [hMb] at HB
        rw [hd] at HS
        by_cases hL : a.evs.length ≤ b.evs.length
        · have hdl : decide (a.evs.length ≤ b.evs.length) = true := decide_eq_true hL
          have HF := hid (show frontP a b = decide (a.evs = b.evs.take a.evs.length) by unfold frontP; rw [decide_eq_true (show a.evs.length ≤ b.evs.length by omega), hMa, hMb, hd]; simp)
          have hle2 : a.evs.length ≤ k4 := Nat.le_trans hL hk4
          have HCUT := hid (fun w' (h : Nw w w') => Evs.cut a.evs.length a.evs.length (by rw [List.length_take]; omega) hk4 hm4' h40 (HE4.out.nw h))
          clear hMa hMb hN hd
          refine wp_region_stairs (by kernel_rfl) (by kernel_rfl) (by kernel_rfl) ?_
          iterate 34
            refine Stairs.is ?_ ?_ ?_
            rotate_left 1
            · intro x wR hR hd K hK
              simp only [Act.put, List.setIfInBounds_toArray, List.set_cons_zero, List.set_cons_succ, Nat.reduceAdd, List.length_nil, List.length_cons, List.nil_append, List.cons_append, Say.ok] at hK ⊢
              clear hd
              change Hid _ at hK
              obtain ⟨hcR, hfR, hzR⟩ := nwc hR
              first | (refine wanted_yes ?_ ?_; rfl) | (refine wanted_no ?_ ?_; rfl)
              go_wp2_with (first 
            | (go_at_call 40; (first | with_reducible refine (HA.out _ ?_).mono ?_ | refine (HB.out _ ?_).mono ?_); exact (by repeat (first | assumption | exact Nw.refl _ | refine Nw.alloc ?_ _ | refine Nw.drew ?_ | refine Nw.drewN2 ?_ _ | (refine Nw.trans ?_ (by assumption)))); rintro e w5 ⟨rfl, hn5⟩)
            | (go_at_call 53; refine (HS.out _ (by repeat (first | assumption | exact Nw.refl _ | refine Nw.alloc ?_ _ | refine Nw.drew ?_ | refine Nw.drewN2 ?_ _ | (refine Nw.trans ?_ (by assumption))))).mono ?_; rintro e w6 ⟨rfl, hn6⟩)
            | (go_at_call 54; refine (sames_c _ _ a.evs (b.evs.take a.evs.length) _ (h2'.nw (hn.trans (by repeat (first | assumption | exact Nw.refl _ | refine Nw.alloc ?_ _ | refine Nw.drew ?_ | refine Nw.drewN2 ?_ _ | (refine Nw.trans ?_ (by assumption)))))) (HCUT.out _ (hn.trans (by repeat (first | assumption | exact Nw.refl _ | refine Nw.alloc ?_ _ | refine Nw.drew ?_ | refine Nw.drewN2 ?_ _ | (refine Nw.trans ?_ (by assumption))))))).mono ?_; rintro e w7 ⟨rfl, hn7⟩))
              all_goals (refine hK.out _ _ ?_ ?_ <;> first | (solve | (repeat (first | assumption | exact Nw.refl _ | refine Nw.alloc ?_ _ | refine Nw.drew ?_ | refine Nw.drewN2 ?_ _ | (refine Nw.trans ?_ (by assumption))))) | exact rfl)
            try simp only [Act.put, List.setIfInBounds_toArray, List.set_cons_zero, List.set_cons_succ, Nat.reduceAdd, List.length_nil, List.length_cons, List.nil_append, List.cons_append]
          refine Stairs.nil ?_
          intro x wR hR hx
          clear hx
          obtain ⟨hcR, hfR, hzR⟩ := nwc hR
          go_wp2
          go_ret
          exact Gives.b HF.out.symm (hn.trans hR)
        · have hdl : decide (a.evs.length ≤ b.evs.length) = false := decide_eq_false hL
          have HF := hid (show frontP a b = false by unfold frontP; rw [hdl]; simp)
          clear hMa hMb hN hd hL
          have HCUT := HF
          refine wp_region_stairs (by kernel_rfl) (by kernel_rfl) (by kernel_rfl) ?_
          iterate 34
            refine Stairs.is ?_ ?_ ?_
            rotate_left 1
            · intro x wR hR hd K hK
              simp only [Act.put, List.setIfInBounds_toArray, List.set_cons_zero, List.set_cons_succ, Nat.reduceAdd, List.length_nil, List.length_cons, List.nil_append, List.cons_append, Say.ok] at hK ⊢
              clear hd
              change Hid _ at hK
              obtain ⟨hcR, hfR, hzR⟩ := nwc hR
              first | (refine wanted_yes ?_ ?_; rfl) | (refine wanted_no ?_ ?_; rfl)
              go_wp2_with (first 
            | (go_at_call 40; (first | with_reducible refine (HA.out _ ?_).mono ?_ | refine (HB.out _ ?_).mono ?_); exact (by repeat (first | assumption | exact Nw.refl _ | refine Nw.alloc ?_ _ | refine Nw.drew ?_ | refine Nw.drewN2 ?_ _ | (refine Nw.trans ?_ (by assumption)))); rintro e w5 ⟨rfl, hn5⟩)
            | (go_at_call 53; refine (HS.out _ (by repeat (first | assumption | exact Nw.refl _ | refine Nw.alloc ?_ _ | refine Nw.drew ?_ | refine Nw.drewN2 ?_ _ | (refine Nw.trans ?_ (by assumption))))).mono ?_; rintro e w6 ⟨rfl, hn6⟩)
            | (go_at_call 54; refine (sames_c _ _ a.evs (b.evs.take a.evs.length) _ (h2'.nw (hn.trans (by repeat (first | assumption | exact Nw.refl _ | refine Nw.alloc ?_ _ | refine Nw.drew ?_ | refine Nw.drewN2 ?_ _ | (refine Nw.trans ?_ (by assumption)))))) (HCUT.out _ (hn.trans (by repeat (first | assumption | exact Nw.refl _ | refine Nw.alloc ?_ _ | refine Nw.drew ?_ | refine Nw.drewN2 ?_ _ | (refine Nw.trans ?_ (by assumption))))))).mono ?_; rintro e w7 ⟨rfl, hn7⟩))
              all_goals (refine hK.out _ _ ?_ ?_ <;> first | (solve | (repeat (first | assumption | exact Nw.refl _ | refine Nw.alloc ?_ _ | refine Nw.drew ?_ | refine Nw.drewN2 ?_ _ | (refine Nw.trans ?_ (by assumption))))) | exact rfl)
            try simp only [Act.put, List.setIfInBounds_toArray, List.set_cons_zero, List.set_cons_succ, Nat.reduceAdd, List.length_nil, List.length_cons, List.nil_append, List.cons_append]
          refine Stairs.nil ?_
          intro x wR hR hx
          clear hx
          obtain ⟨hcR, hfR, hzR⟩ := nwc hR
          go_wp2
          go_ret
          exact Gives.b HF.out.symm (hn.trans hR)
      · have hd : decide (a.names = b.names) = false := decide_eq_false hN
        have HF := hid (show frontP a b = false by unfold frontP; rw [hd]; simp)
        rw [hMa] at HA
        rw [hMb] at HB
        rw [hd] at HS
        clear hMa hMb hN hd
        have HCUT := HF
        refine wp_region_stairs (by kernel_rfl) (by kernel_rfl) (by kernel_rfl) ?_
        iterate 34
          refine Stairs.is ?_ ?_ ?_
          rotate_left 1
          · intro x wR hR hd K hK
            simp only [Act.put, List.setIfInBounds_toArray, List.set_cons_zero, List.set_cons_succ, Nat.reduceAdd, List.length_nil, List.length_cons, List.nil_append, List.cons_append, Say.ok] at hK ⊢
            clear hd
            change Hid _ at hK
            obtain ⟨hcR, hfR, hzR⟩ := nwc hR
            first | (refine wanted_yes ?_ ?_; rfl) | (refine wanted_no ?_ ?_; rfl)
            go_wp2_with (first 
          | (go_at_call 40; (first | with_reducible refine (HA.out _ ?_).mono ?_ | refine (HB.out _ ?_).mono ?_); exact (by repeat (first | assumption | exact Nw.refl _ | refine Nw.alloc ?_ _ | refine Nw.drew ?_ | refine Nw.drewN2 ?_ _ | (refine Nw.trans ?_ (by assumption)))); rintro e w5 ⟨rfl, hn5⟩)
          | (go_at_call 53; refine (HS.out _ (by repeat (first | assumption | exact Nw.refl _ | refine Nw.alloc ?_ _ | refine Nw.drew ?_ | refine Nw.drewN2 ?_ _ | (refine Nw.trans ?_ (by assumption))))).mono ?_; rintro e w6 ⟨rfl, hn6⟩)
          | (go_at_call 54; refine (sames_c _ _ a.evs (b.evs.take a.evs.length) _ (h2'.nw (hn.trans (by repeat (first | assumption | exact Nw.refl _ | refine Nw.alloc ?_ _ | refine Nw.drew ?_ | refine Nw.drewN2 ?_ _ | (refine Nw.trans ?_ (by assumption)))))) (HCUT.out _ (hn.trans (by repeat (first | assumption | exact Nw.refl _ | refine Nw.alloc ?_ _ | refine Nw.drew ?_ | refine Nw.drewN2 ?_ _ | (refine Nw.trans ?_ (by assumption))))))).mono ?_; rintro e w7 ⟨rfl, hn7⟩))
            all_goals (refine hK.out _ _ ?_ ?_ <;> first | (solve | (repeat (first | assumption | exact Nw.refl _ | refine Nw.alloc ?_ _ | refine Nw.drew ?_ | refine Nw.drewN2 ?_ _ | (refine Nw.trans ?_ (by assumption))))) | exact rfl)
          try simp only [Act.put, List.setIfInBounds_toArray, List.set_cons_zero, List.set_cons_succ, Nat.reduceAdd, List.length_nil, List.length_cons, List.nil_append, List.cons_append]
        refine Stairs.nil ?_
        intro x wR hR hx
        clear hx
        obtain ⟨hcR, hfR, hzR⟩ := nwc hR
        go_wp2
        go_ret
        exact Gives.b HF.out.symm (hn.trans hR)
    · rw [Bool.not_eq_true] at hMb
      have HF := hid (show frontP a b = false by unfold frontP; rw [hMb]; simp)
      rw [hMa] at HA
      rw [hMb] at HB
      clear hMa hMb
      have HCUT := HF
      refine wp_region_stairs (by kernel_rfl) (by kernel_rfl) (by kernel_rfl) ?_
      iterate 34
        refine Stairs.is ?_ ?_ ?_
        rotate_left 1
        · intro x wR hR hd K hK
          simp only [Act.put, List.setIfInBounds_toArray, List.set_cons_zero, List.set_cons_succ, Nat.reduceAdd, List.length_nil, List.length_cons, List.nil_append, List.cons_append, Say.ok] at hK ⊢
          clear hd
          change Hid _ at hK
          obtain ⟨hcR, hfR, hzR⟩ := nwc hR
          first | (refine wanted_yes ?_ ?_; rfl) | (refine wanted_no ?_ ?_; rfl)
          go_wp2_with (first 
        | (go_at_call 40; (first | with_reducible refine (HA.out _ ?_).mono ?_ | refine (HB.out _ ?_).mono ?_); exact (by repeat (first | assumption | exact Nw.refl _ | refine Nw.alloc ?_ _ | refine Nw.drew ?_ | refine Nw.drewN2 ?_ _ | (refine Nw.trans ?_ (by assumption)))); rintro e w5 ⟨rfl, hn5⟩)
        | (go_at_call 53; refine (HS.out _ (by repeat (first | assumption | exact Nw.refl _ | refine Nw.alloc ?_ _ | refine Nw.drew ?_ | refine Nw.drewN2 ?_ _ | (refine Nw.trans ?_ (by assumption))))).mono ?_; rintro e w6 ⟨rfl, hn6⟩)
        | (go_at_call 54; refine (sames_c _ _ a.evs (b.evs.take a.evs.length) _ (h2'.nw (hn.trans (by repeat (first | assumption | exact Nw.refl _ | refine Nw.alloc ?_ _ | refine Nw.drew ?_ | refine Nw.drewN2 ?_ _ | (refine Nw.trans ?_ (by assumption)))))) (HCUT.out _ (hn.trans (by repeat (first | assumption | exact Nw.refl _ | refine Nw.alloc ?_ _ | refine Nw.drew ?_ | refine Nw.drewN2 ?_ _ | (refine Nw.trans ?_ (by assumption))))))).mono ?_; rintro e w7 ⟨rfl, hn7⟩))
          all_goals (refine hK.out _ _ ?_ ?_ <;> first | (solve | (repeat (first | assumption | exact Nw.refl _ | refine Nw.alloc ?_ _ | refine Nw.drew ?_ | refine Nw.drewN2 ?_ _ | (refine Nw.trans ?_ (by assumption))))) | exact rfl)
        try simp only [Act.put, List.setIfInBounds_toArray, List.set_cons_zero, List.set_cons_succ, Nat.reduceAdd, List.length_nil, List.length_cons, List.nil_append, List.cons_append]
      refine Stairs.nil ?_
      intro x wR hR hx
      clear hx
      obtain ⟨hcR, hfR, hzR⟩ := nwc hR
      go_wp2
      go_ret
      exact Gives.b HF.out.symm (hn.trans hR)
  · rw [Bool.not_eq_true] at hMa
    have HF := hid (show frontP a b = false by unfold frontP; rw [hMa]; rfl)
    rw [hMa] at HA
    clear hMa
    have HCUT := HF
    refine wp_region_stairs (by kernel_rfl) (by kernel_rfl) (by kernel_rfl) ?_
    iterate 34
      refine Stairs.is ?_ ?_ ?_
      rotate_left 1
      · intro x wR hR hd K hK
        simp only [Act.put, List.setIfInBounds_toArray, List.set_cons_zero, List.set_cons_succ, Nat.reduceAdd, List.length_nil, List.length_cons, List.nil_append, List.cons_append, Say.ok] at hK ⊢
        clear hd
        change Hid _ at hK
        obtain ⟨hcR, hfR, hzR⟩ := nwc hR
        first | (refine wanted_yes ?_ ?_; rfl) | (refine wanted_no ?_ ?_; rfl)
        go_wp2_with (first 
      | (go_at_call 40; (first | with_reducible refine (HA.out _ ?_).mono ?_ | refine (HB.out _ ?_).mono ?_); exact (by repeat (first | assumption | exact Nw.refl _ | refine Nw.alloc ?_ _ | refine Nw.drew ?_ | refine Nw.drewN2 ?_ _ | (refine Nw.trans ?_ (by assumption)))); rintro e w5 ⟨rfl, hn5⟩)
      | (go_at_call 53; refine (HS.out _ (by repeat (first | assumption | exact Nw.refl _ | refine Nw.alloc ?_ _ | refine Nw.drew ?_ | refine Nw.drewN2 ?_ _ | (refine Nw.trans ?_ (by assumption))))).mono ?_; rintro e w6 ⟨rfl, hn6⟩)
      | (go_at_call 54; refine (sames_c _ _ a.evs (b.evs.take a.evs.length) _ (h2'.nw (hn.trans (by repeat (first | assumption | exact Nw.refl _ | refine Nw.alloc ?_ _ | refine Nw.drew ?_ | refine Nw.drewN2 ?_ _ | (refine Nw.trans ?_ (by assumption)))))) (HCUT.out _ (hn.trans (by repeat (first | assumption | exact Nw.refl _ | refine Nw.alloc ?_ _ | refine Nw.drew ?_ | refine Nw.drewN2 ?_ _ | (refine Nw.trans ?_ (by assumption))))))).mono ?_; rintro e w7 ⟨rfl, hn7⟩))
        all_goals (refine hK.out _ _ ?_ ?_ <;> first | (solve | (repeat (first | assumption | exact Nw.refl _ | refine Nw.alloc ?_ _ | refine Nw.drew ?_ | refine Nw.drewN2 ?_ _ | (refine Nw.trans ?_ (by assumption))))) | exact rfl)
      try simp only [Act.put, List.setIfInBounds_toArray, List.set_cons_zero, List.set_cons_succ, Nat.reduceAdd, List.length_nil, List.length_cons, List.nil_append, List.cons_append]
    refine Stairs.nil ?_
    intro x wR hR hx
    clear hx
    obtain ⟨hcR, hfR, hzR⟩ := nwc hR
    go_wp2
    go_ret
    exact Gives.b HF.out.symm (hn.trans hR)
end Tr
end Go.Proofs.Ytjelbfodkacipaa
