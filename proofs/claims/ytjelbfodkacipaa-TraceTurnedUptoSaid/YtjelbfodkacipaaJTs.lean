/- Joined texts.
The contracts of Front, both. No condition but lengths.
The contracts of the law's tells, great and awake. No condition but lengths.
Traces that come in; TraceMays walked. No condition but lengths.
The contract of the law's Make: a trace of the names p, q, r by numbers. No condition but lengths.
What Make makes may be; TraceMade walked. No condition but lengths.
-/
import Derived.Test.YtjelbfodkacipaaTrI
set_option linter.unusedSimpArgs false
set_option linter.unusedVariables false
namespace Go.Proofs.Ytjelbfodkacipaa
open Go.ChangeShapes Go.WideShapes Go.ChangeAt Go.RowKit
namespace Tr
open Go.Proofs.Ytjelbfodkacipaa.Lx (isIn nameB strs_open strs_cell contains_c)
open Go.Proofs.Ytjelbfodkacipaa.Rec (rises i64s_open i64_cell)
set_option maxRecDepth 20000 in
set_option maxHeartbeats 800000 in
theorem eqf_c (u v : Value) (a b : Es) (w : World) (hu : Evs w u a) (hv : Evs w v b) : Calls Try.prog 55 #[u, v, .func (.func 56) #[] #[]] w (Gives (.bool (decide (a = b))) w) := by
  obtain ⟨p, cap, rfl, hcap, hmx, _, hc⟩ := hu
  obtain ⟨p2, cap2, rfl, hcap2, hmx2, _, hc2⟩ := hv
  unfold maxLen at hmx hmx2
  have HC := hid hc
  have HC2 := hid hc2
  clear hc hc2
  by_cases hl : a.length = b.length
  · have HL := hid hl
    rw [← hl] at hcap2 ⊢
    clear hl
    go_enter Try.func55, Try.ntmps55
    go_wp2
    go_loopw [7, 8, 9, 17] (fun _ _ _ i wr => ∃ k : Nat, k ≤ a.length ∧ i = .int .i64 k ∧ Hid (a.take k = b.take k) ∧ Nw w wr) (fun _ _ _ i _ => a.length - (intOf i).toNat)
    case atStart => exact ⟨0, Nat.zero_le _, rfl, hid rfl, Nw.refl _⟩
    case round =>
      obtain ⟨k, hk, rfl, ht, hn⟩ := hrel
      by_cases hlt : k < a.length
      · have HK2 := hid (show k < b.length by have := HL.out; omega)
        obtain ⟨b1, o1, v1, rfl, c0, c1, s1⟩ := (HC.out.nw hn) k hlt
        obtain ⟨b2, o2, v2, rfl, d0, d1, s2⟩ := (HC2.out.nw hn) k HK2.out
        have hdk : decide (k < a.length) = true := decide_eq_true hlt
        have HT := hid (es_of_take a b k ht.out hlt HK2.out)
        have HS := hid (fun w' (h : Nw wr w') => front1_c v1 v2 (tm a k) (tm b k) (ids a k) (ids b k) w' (s1.nw h) (s2.nw h))
        obtain ⟨q, c, rfl, hcq, hmq, _, _⟩ := i64s_open s1
        obtain ⟨q2, c2, rfl, hcq2, hmq2, _, _⟩ := i64s_open s2
        unfold maxLen at hmq hmq2
        have g1 := World.block_lt_of_cell? wr _ c0
        have g2 := World.block_lt_of_cell? wr _ d0
        simp only at g1 g2
        clear s1 s2
        by_cases he : tm a k = tm b k ∧ ids a k = ids b k
        · have hde : decide (tm a k = tm b k ∧ ids a k = ids b k) = true := decide_eq_true he
          have HN := hid (HT.out.1 he)
          rw [hde] at HS
          clear ht HT he hde
          generalize tm a k = x at *
          generalize tm b k = y at *
          generalize ids a k = l at *
          generalize ids b k = m at *
          go_wp2_with (first
            | (go_at_call 56; refine (HS.out _ (by repeat (first | assumption | exact Nw.refl _ | refine Nw.alloc ?_ _ | refine Nw.drew ?_ | refine Nw.drewN2 ?_ _ | (refine Nw.trans ?_ (by assumption))))).mono ?_; rintro e w5 ⟨rfl, hn5⟩)
            | fail)
          go_roundw
          case rel => exact ⟨k + 1, by omega, by go_num, HN, (by repeat (first | assumption | exact Nw.refl _ | refine Nw.alloc ?_ _ | refine Nw.drew ?_ | refine Nw.drewN2 ?_ _ | (refine Nw.trans ?_ (by assumption))))⟩
          case measure => simp [intOf]; omega
        · have hde : decide (tm a k = tm b k ∧ ids a k = ids b k) = false := decide_eq_false he
          have HF := hid (show decide (a = b) = false from decide_eq_false (fun h => he (by rw [h]; exact ⟨rfl, rfl⟩)))
          rw [hde] at HS
          clear ht he HT hde
          generalize tm a k = x at *
          generalize tm b k = y at *
          generalize ids a k = l at *
          generalize ids b k = m at *
          go_wp2_with (first
            | (go_at_call 56; refine (HS.out _ (by repeat (first | assumption | exact Nw.refl _ | refine Nw.alloc ?_ _ | refine Nw.drew ?_ | refine Nw.drewN2 ?_ _ | (refine Nw.trans ?_ (by assumption))))).mono ?_; rintro e w5 ⟨rfl, hn5⟩)
            | fail)
          go_ret
          exact Gives.b HF.out.symm (by repeat (first | assumption | exact Nw.refl _ | refine Nw.alloc ?_ _ | refine Nw.drew ?_ | refine Nw.drewN2 ?_ _ | (refine Nw.trans ?_ (by assumption))))
      · have hdk : decide (k < a.length) = false := decide_eq_false hlt
        have HF := hid (show decide (a = b) = true from decide_eq_true (by have h0 := HL.out; have := ht.out; rwa [List.take_of_length_le (by omega), List.take_of_length_le (by omega)] at this))
        clear ht
        go_wp2
        go_ret
        exact Gives.b HF.out.symm (by repeat (first | assumption | exact Nw.refl _ | refine Nw.alloc ?_ _ | refine Nw.drew ?_ | refine Nw.drewN2 ?_ _ | (refine Nw.trans ?_ (by assumption))))
  · have hd : ((a.length : Int) != b.length) = true := by simp; omega
    have HF := hid (show decide (a = b) = false from decide_eq_false (fun h => hl (by rw [h])))
    go_enter Try.func55, Try.ntmps55
    go_wp2
    go_ret
    exact Gives.b HF.out.symm (by repeat (first | assumption | exact Nw.refl _ | refine Nw.alloc ?_ _ | refine Nw.drew ?_ | refine Nw.drewN2 ?_ _ | (refine Nw.trans ?_ (by assumption))))
def frontP (a b : T) : Bool := mayP a && (mayP b && (decide (a.names = b.names) && (decide (a.evs.length ≤ b.evs.length) && decide (a.evs = b.evs.take a.evs.length))))
set_option maxRecDepth 20000 in
set_option maxHeartbeats 1600000 in
theorem front_c (un ue vn ve : Value) (a b : T) (w : World) (h1 : Sl w un (Lx.strs a.names)) (h2 : Evs w ue a.evs) (h3 : Sl w vn (Lx.strs b.names)) (h4 : Evs w ve b.evs) (ha : Small a) (hb : Small b) :
    Calls Try.prog 32 #[.agg #[un, ue], .agg #[vn, ve]] w (Gives (.bool (frontP a b)) w) := by
  have HA := hid (fun w' (h : Nw w w') => may_c un ue a w' (h1.nw h) (h2.nw h) ha.s)
  have HB := hid (fun w' (h : Nw w w') => may_c vn ve b w' (h3.nw h) (h4.nw h) hb.s)
  have HS := hid (fun w' (h : Nw w w') => eqs_c un vn a.names b.names w' (h1.nw h) (h3.nw h))
  obtain ⟨p1, k1, rfl, _, _, _, _⟩ := strs_open h1
  obtain ⟨p2, k2, rfl, _, _, _, _⟩ := strs_open h3
  have h2' := h2
  have h4' := h4
  obtain ⟨p3, k3, rfl, hk3, hm3, _, _⟩ := h2
  obtain ⟨p4, k4, rfl, hk4, hm4, h40, hec4⟩ := h4
  have hm4' := hm4
  unfold maxLen at hm3 hm4
  have HE4 := hid hec4
  have la := ha.e
  have lb := hb.e
  clear hec4 ha hb h1 h3
  go_enter Try.func32, Try.ntmps32
  go_upto_region 1 with fail
  obtain ⟨x0, x1, y4, hn, hz4⟩ := boxes w (.slice p1 a.names.length k1) (.slice p3 a.evs.length k3) (.slice p2 b.names.length k2) (.slice p4 b.evs.length k4) 26 26
  have y0 := heap_cell y4 0
  have y1 := heap_cell y4 1
  simp only [List.getElem?_toArray, List.getElem?_cons_succ, List.getElem?_cons_zero] at y0 y1
  clear y4
  generalize ((w.alloc (.cells #[.slice p1 a.names.length k1, .slice p3 a.evs.length k3] 26)).alloc (.cells #[.slice p2 b.names.length k2, .slice p4 b.evs.length k4] 26)) = w0 at *
  have hz0 : w.heap.size < w0.heap.size := by omega
  have hz1 : w.heap.size + 1 < w0.heap.size := by omega
  clear hz4
  by_cases hMa : mayP a = true
  · by_cases hMb : mayP b = true
    · by_cases hN : a.names = b.names
      · have hd : decide (a.names = b.names) = true := decide_eq_true hN
        rw [hMa] at HA
        rw [hMb] at HB
        rw [hd] at HS
        by_cases hL : b.evs.length < a.evs.length
        · have hdl : decide (b.evs.length < a.evs.length) = true := decide_eq_true hL
          have HF := hid (show frontP a b = false by unfold frontP; rw [decide_eq_false (show ¬ a.evs.length ≤ b.evs.length by omega)]; simp)
          clear hMa hMb hN hd
          go_wp2_with (first
            | (go_at_call 24; (first | with_reducible refine (HA.out _ ?_).mono ?_ | refine (HB.out _ ?_).mono ?_); exact (by repeat (first | assumption | exact Nw.refl _ | refine Nw.alloc ?_ _ | refine Nw.drew ?_ | refine Nw.drewN2 ?_ _ | (refine Nw.trans ?_ (by assumption)))); rintro e w1 ⟨rfl, hn1⟩; have x0 := hn1.cell x0; have x1 := hn1.cell x1; have y0 := hn1.cell y0; have y1 := hn1.cell y1; have hz0 : w.heap.size < w1.heap.size := Nat.lt_of_lt_of_le hz0 hn1.size; have hz1 : w.heap.size + 1 < w1.heap.size := Nat.lt_of_lt_of_le hz1 hn1.size)
            | (go_at_call 53; refine (HS.out _ (by repeat (first | assumption | exact Nw.refl _ | refine Nw.alloc ?_ _ | refine Nw.drew ?_ | refine Nw.drewN2 ?_ _ | (refine Nw.trans ?_ (by assumption))))).mono ?_; rintro e w3 ⟨rfl, hn3⟩; have x0 := hn3.cell x0; have x1 := hn3.cell x1; have y0 := hn3.cell y0; have y1 := hn3.cell y1; have hz0 : w.heap.size < w3.heap.size := Nat.lt_of_lt_of_le hz0 hn3.size; have hz1 : w.heap.size + 1 < w3.heap.size := Nat.lt_of_lt_of_le hz1 hn3.size)
            | fail)
          go_ret
          exact Gives.b HF.out.symm (by repeat (first | assumption | exact Nw.refl _ | refine Nw.alloc ?_ _ | refine Nw.drew ?_ | refine Nw.drewN2 ?_ _ | (refine Nw.trans ?_ (by assumption))))
        · have hdl : decide (b.evs.length < a.evs.length) = false := decide_eq_false hL
          have HF := hid (show frontP a b = decide (a.evs = b.evs.take a.evs.length) by unfold frontP; rw [decide_eq_true (show a.evs.length ≤ b.evs.length by omega), hMa, hMb, hd]; simp)
          have hle : a.evs.length ≤ b.evs.length := by omega
          clear hMa hMb hN hd hL
          go_upto_region 3 with (first
            | (go_at_call 24; (first | with_reducible refine (HA.out _ ?_).mono ?_ | refine (HB.out _ ?_).mono ?_); exact (by repeat (first | assumption | exact Nw.refl _ | refine Nw.alloc ?_ _ | refine Nw.drew ?_ | refine Nw.drewN2 ?_ _ | (refine Nw.trans ?_ (by assumption)))); rintro e w1 ⟨rfl, hn1⟩; have x0 := hn1.cell x0; have x1 := hn1.cell x1; have y0 := hn1.cell y0; have y1 := hn1.cell y1; have hz0 : w.heap.size < w1.heap.size := Nat.lt_of_lt_of_le hz0 hn1.size; have hz1 : w.heap.size + 1 < w1.heap.size := Nat.lt_of_lt_of_le hz1 hn1.size)
            | (go_at_call 53; refine (HS.out _ (by repeat (first | assumption | exact Nw.refl _ | refine Nw.alloc ?_ _ | refine Nw.drew ?_ | refine Nw.drewN2 ?_ _ | (refine Nw.trans ?_ (by assumption))))).mono ?_; rintro e w3 ⟨rfl, hn3⟩; have x0 := hn3.cell x0; have x1 := hn3.cell x1; have y0 := hn3.cell y0; have y1 := hn3.cell y1; have hz0 : w.heap.size < w3.heap.size := Nat.lt_of_lt_of_le hz0 hn3.size; have hz1 : w.heap.size + 1 < w3.heap.size := Nat.lt_of_lt_of_le hz1 hn3.size)
            | fail)
          have hw3 := hn.trans (Nw.trans (by assumption) (Nw.trans (by assumption) hn3))
          have hle2 : a.evs.length ≤ k4 := Nat.le_trans hle hk4
          have HCUT := hid (fun w' (h : Nw w w') => Evs.cut a.evs.length a.evs.length (by rw [List.length_take]; omega) hk4 hm4' h40 (HE4.out.nw h))
          refine wp_region_stairs (by kernel_rfl) (by kernel_rfl) (by kernel_rfl) ?_
          iterate 10
            refine Stairs.is ?_ ?_ ?_
            rotate_left 1
            · intro x wR hR hd K hK
              simp only [Act.put, List.setIfInBounds_toArray, List.set_cons_zero, List.set_cons_succ, Nat.reduceAdd, List.length_nil, List.length_cons, List.nil_append, List.cons_append, Say.ok] at hK ⊢
              clear hd
              change Hid _ at hK
              obtain ⟨hcR, hfR, hzR⟩ := nwc hR
              first | (refine wanted_yes ?_ ?_; rfl) | (refine wanted_no ?_ ?_; rfl)
              go_wp2_with (first | (go_at_call 55; refine (eqf_c _ _ a.evs (b.evs.take a.evs.length) _ (h2'.nw (hw3.trans (by repeat (first | assumption | exact Nw.refl _ | refine Nw.alloc ?_ _ | refine Nw.drew ?_ | refine Nw.drewN2 ?_ _ | (refine Nw.trans ?_ (by assumption)))))) (HCUT.out _ (hw3.trans (by repeat (first | assumption | exact Nw.refl _ | refine Nw.alloc ?_ _ | refine Nw.drew ?_ | refine Nw.drewN2 ?_ _ | (refine Nw.trans ?_ (by assumption))))))).mono ?_; rintro e w5 ⟨rfl, hn5⟩))
              all_goals (refine hK.out _ _ ?_ ?_ <;> first | (solve | (repeat (first | assumption | exact Nw.refl _ | refine Nw.alloc ?_ _ | refine Nw.drew ?_ | refine Nw.drewN2 ?_ _ | (refine Nw.trans ?_ (by assumption))))) | exact rfl)
            try simp only [Act.put, List.setIfInBounds_toArray, List.set_cons_zero, List.set_cons_succ, Nat.reduceAdd, List.length_nil, List.length_cons, List.nil_append, List.cons_append]
          refine Stairs.nil ?_
          intro x wR hR hx
          clear hx
          obtain ⟨hcR, hfR, hzR⟩ := nwc hR
          go_wp2
          go_ret
          exact Gives.b HF.out.symm (hw3.trans hR)
      · have hd : decide (a.names = b.names) = false := decide_eq_false hN
        have HF := hid (show frontP a b = false by unfold frontP; rw [hd]; simp)
        rw [hMa] at HA
        rw [hMb] at HB
        rw [hd] at HS
        clear hMa hMb hN hd
        go_wp2_with (first
          | (go_at_call 24; (first | with_reducible refine (HA.out _ ?_).mono ?_ | refine (HB.out _ ?_).mono ?_); exact (by repeat (first | assumption | exact Nw.refl _ | refine Nw.alloc ?_ _ | refine Nw.drew ?_ | refine Nw.drewN2 ?_ _ | (refine Nw.trans ?_ (by assumption)))); rintro e w1 ⟨rfl, hn1⟩; have x0 := hn1.cell x0; have x1 := hn1.cell x1; have y0 := hn1.cell y0; have y1 := hn1.cell y1; have hz0 : w.heap.size < w1.heap.size := Nat.lt_of_lt_of_le hz0 hn1.size; have hz1 : w.heap.size + 1 < w1.heap.size := Nat.lt_of_lt_of_le hz1 hn1.size)
          | (go_at_call 53; refine (HS.out _ (by repeat (first | assumption | exact Nw.refl _ | refine Nw.alloc ?_ _ | refine Nw.drew ?_ | refine Nw.drewN2 ?_ _ | (refine Nw.trans ?_ (by assumption))))).mono ?_; rintro e w3 ⟨rfl, hn3⟩; have x0 := hn3.cell x0; have x1 := hn3.cell x1; have y0 := hn3.cell y0; have y1 := hn3.cell y1; have hz0 : w.heap.size < w3.heap.size := Nat.lt_of_lt_of_le hz0 hn3.size; have hz1 : w.heap.size + 1 < w3.heap.size := Nat.lt_of_lt_of_le hz1 hn3.size)
          | fail)
        go_ret
        exact Gives.b HF.out.symm (by repeat (first | assumption | exact Nw.refl _ | refine Nw.alloc ?_ _ | refine Nw.drew ?_ | refine Nw.drewN2 ?_ _ | (refine Nw.trans ?_ (by assumption))))
    · rw [Bool.not_eq_true] at hMb
      have HF := hid (show frontP a b = false by unfold frontP; rw [hMb]; simp)
      rw [hMa] at HA
      rw [hMb] at HB
      clear hMa hMb
      go_wp2_with (first
        | (go_at_call 24; (first | with_reducible refine (HA.out _ ?_).mono ?_ | refine (HB.out _ ?_).mono ?_); exact (by repeat (first | assumption | exact Nw.refl _ | refine Nw.alloc ?_ _ | refine Nw.drew ?_ | refine Nw.drewN2 ?_ _ | (refine Nw.trans ?_ (by assumption)))); rintro e w1 ⟨rfl, hn1⟩; have x0 := hn1.cell x0; have x1 := hn1.cell x1; have y0 := hn1.cell y0; have y1 := hn1.cell y1; have hz0 : w.heap.size < w1.heap.size := Nat.lt_of_lt_of_le hz0 hn1.size; have hz1 : w.heap.size + 1 < w1.heap.size := Nat.lt_of_lt_of_le hz1 hn1.size)
        | (go_at_call 53; refine (HS.out _ (by repeat (first | assumption | exact Nw.refl _ | refine Nw.alloc ?_ _ | refine Nw.drew ?_ | refine Nw.drewN2 ?_ _ | (refine Nw.trans ?_ (by assumption))))).mono ?_; rintro e w3 ⟨rfl, hn3⟩; have x0 := hn3.cell x0; have x1 := hn3.cell x1; have y0 := hn3.cell y0; have y1 := hn3.cell y1; have hz0 : w.heap.size < w3.heap.size := Nat.lt_of_lt_of_le hz0 hn3.size; have hz1 : w.heap.size + 1 < w3.heap.size := Nat.lt_of_lt_of_le hz1 hn3.size)
        | fail)
      go_ret
      exact Gives.b HF.out.symm (by repeat (first | assumption | exact Nw.refl _ | refine Nw.alloc ?_ _ | refine Nw.drew ?_ | refine Nw.drewN2 ?_ _ | (refine Nw.trans ?_ (by assumption))))
  · rw [Bool.not_eq_true] at hMa
    have HF := hid (show frontP a b = false by unfold frontP; rw [hMa]; rfl)
    rw [hMa] at HA
    clear hMa
    go_wp2_with (first
      | (go_at_call 24; (first | with_reducible refine (HA.out _ ?_).mono ?_ | refine (HB.out _ ?_).mono ?_); exact (by repeat (first | assumption | exact Nw.refl _ | refine Nw.alloc ?_ _ | refine Nw.drew ?_ | refine Nw.drewN2 ?_ _ | (refine Nw.trans ?_ (by assumption)))); rintro e w1 ⟨rfl, hn1⟩; have x0 := hn1.cell x0; have x1 := hn1.cell x1; have y0 := hn1.cell y0; have y1 := hn1.cell y1; have hz0 : w.heap.size < w1.heap.size := Nat.lt_of_lt_of_le hz0 hn1.size; have hz1 : w.heap.size + 1 < w1.heap.size := Nat.lt_of_lt_of_le hz1 hn1.size)
      | (go_at_call 53; refine (HS.out _ (by repeat (first | assumption | exact Nw.refl _ | refine Nw.alloc ?_ _ | refine Nw.drew ?_ | refine Nw.drewN2 ?_ _ | (refine Nw.trans ?_ (by assumption))))).mono ?_; rintro e w3 ⟨rfl, hn3⟩; have x0 := hn3.cell x0; have x1 := hn3.cell x1; have y0 := hn3.cell y0; have y1 := hn3.cell y1; have hz0 : w.heap.size < w3.heap.size := Nat.lt_of_lt_of_le hz0 hn3.size; have hz1 : w.heap.size + 1 < w3.heap.size := Nat.lt_of_lt_of_le hz1 hn3.size)
      | fail)
    go_ret
    exact Gives.b HF.out.symm (by repeat (first | assumption | exact Nw.refl _ | refine Nw.alloc ?_ _ | refine Nw.drew ?_ | refine Nw.drewN2 ?_ _ | (refine Nw.trans ?_ (by assumption))))
set_option maxRecDepth 20000 in
set_option maxHeartbeats 3200000 in
theorem rfront_c (un ue vn ve : Value) (a b : T) (w : World) (h1 : Sl w un (Lx.strs a.names)) (h2 : Evs w ue a.evs) (h3 : Sl w vn (Lx.strs b.names)) (h4 : Evs w ve b.evs) (ha : Small a) (hb : Small b) :
    Calls Try.prog 47 #[.agg #[un, ue], .agg #[vn, ve]] w (Gives (.bool (frontP a b)) w) := by
  have HA := hid (fun w' (h : Nw w w') => rmay_c un ue a w' (h1.nw h) (h2.nw h) ha.s)
  have HB := hid (fun w' (h : Nw w w') => rmay_c vn ve b w' (h3.nw h) (h4.nw h) hb.s)
  have HS := hid (fun w' (h : Nw w w') => eqs_c un vn a.names b.names w' (h1.nw h) (h3.nw h))
  obtain ⟨p1, k1, rfl, _, _, _, _⟩ := strs_open h1
  obtain ⟨p2, k2, rfl, _, _, _, _⟩ := strs_open h3
  have h2' := h2
  have h4' := h4
  obtain ⟨p3, k3, rfl, hk3, hm3, _, _⟩ := h2
  obtain ⟨p4, k4, rfl, hk4, hm4, h40, hec4⟩ := h4
  have hm4' := hm4
  unfold maxLen at hm3 hm4
  have HE4 := hid hec4
  have la := ha.e
  have lb := hb.e
  clear hec4 ha hb h1 h3
  go_enter Try.func47, Try.ntmps47
  go_upto_region 1 with fail
  obtain ⟨x0, x1, y4, hn, hz4⟩ := boxes w (.slice p1 a.names.length k1) (.slice p3 a.evs.length k3) (.slice p2 b.names.length k2) (.slice p4 b.evs.length k4) 26 26
  have y0 := heap_cell y4 0
  have y1 := heap_cell y4 1
  simp only [List.getElem?_toArray, List.getElem?_cons_succ, List.getElem?_cons_zero] at y0 y1
  clear y4
  generalize ((w.alloc (.cells #[.slice p1 a.names.length k1, .slice p3 a.evs.length k3] 26)).alloc (.cells #[.slice p2 b.names.length k2, .slice p4 b.evs.length k4] 26)) = w0 at *
  have hz0 : w.heap.size < w0.heap.size := by omega
  have hz1 : w.heap.size + 1 < w0.heap.size := by omega
  clear hz4
  by_cases hMa : mayP a = true
  · by_cases hMb : mayP b = true
    · by_cases hN : a.names = b.names
      · have hd : decide (a.names = b.names) = true := decide_eq_true hN
        rw [hMa] at HA
        rw [hMb] at HB
        rw [hd] at HS
        by_cases hL : a.evs.length ≤ b.evs.length
        · have hdl : decide (a.evs.length ≤ b.evs.length) = true := decide_eq_true hL
          have HF := hid (show frontP a b = decide (a.evs = b.evs.take a.evs.length) by unfold frontP; rw [decide_eq_true (show a.evs.length ≤ b.evs.length by omega), hMa, hMb, hd]; simp)
          have hle2 : a.evs.length ≤ k4 := Nat.le_trans hL hk4
          have HCUT := hid (fun w' (h : Nw w w') => Evs.cut a.evs.length a.evs.length (by rw [List.length_take]; omega) hk4 hm4' h40 (HE4.out.nw h))
          clear hMa hMb hN hd
          refine wp_region_stairs (by kernel_rfl) (by kernel_rfl) (by kernel_rfl) ?_
          iterate 34
            refine Stairs.is ?_ ?_ ?_
            rotate_left 1
            · intro x wR hR hd K hK
              simp only [Act.put, List.setIfInBounds_toArray, List.set_cons_zero, List.set_cons_succ, Nat.reduceAdd, List.length_nil, List.length_cons, List.nil_append, List.cons_append, Say.ok] at hK ⊢
              clear hd
              change Hid _ at hK
              obtain ⟨hcR, hfR, hzR⟩ := nwc hR
              first | (refine wanted_yes ?_ ?_; rfl) | (refine wanted_no ?_ ?_; rfl)
              go_wp2_with (first 
            | (go_at_call 40; (first | with_reducible refine (HA.out _ ?_).mono ?_ | refine (HB.out _ ?_).mono ?_); exact (by repeat (first | assumption | exact Nw.refl _ | refine Nw.alloc ?_ _ | refine Nw.drew ?_ | refine Nw.drewN2 ?_ _ | (refine Nw.trans ?_ (by assumption)))); rintro e w5 ⟨rfl, hn5⟩)
            | (go_at_call 53; refine (HS.out _ (by repeat (first | assumption | exact Nw.refl _ | refine Nw.alloc ?_ _ | refine Nw.drew ?_ | refine Nw.drewN2 ?_ _ | (refine Nw.trans ?_ (by assumption))))).mono ?_; rintro e w6 ⟨rfl, hn6⟩)
            | (go_at_call 54; refine (sames_c _ _ a.evs (b.evs.take a.evs.length) _ (h2'.nw (hn.trans (by repeat (first | assumption | exact Nw.refl _ | refine Nw.alloc ?_ _ | refine Nw.drew ?_ | refine Nw.drewN2 ?_ _ | (refine Nw.trans ?_ (by assumption)))))) (HCUT.out _ (hn.trans (by repeat (first | assumption | exact Nw.refl _ | refine Nw.alloc ?_ _ | refine Nw.drew ?_ | refine Nw.drewN2 ?_ _ | (refine Nw.trans ?_ (by assumption))))))).mono ?_; rintro e w7 ⟨rfl, hn7⟩))
              all_goals (refine hK.out _ _ ?_ ?_ <;> first | (solve | (repeat (first | assumption | exact Nw.refl _ | refine Nw.alloc ?_ _ | refine Nw.drew ?_ | refine Nw.drewN2 ?_ _ | (refine Nw.trans ?_ (by assumption))))) | exact rfl)
            try simp only [Act.put, List.setIfInBounds_toArray, List.set_cons_zero, List.set_cons_succ, Nat.reduceAdd, List.length_nil, List.length_cons, List.nil_append, List.cons_append]
          refine Stairs.nil ?_
          intro x wR hR hx
          clear hx
          obtain ⟨hcR, hfR, hzR⟩ := nwc hR
          go_wp2
          go_ret
          exact Gives.b HF.out.symm (hn.trans hR)
        · have hdl : decide (a.evs.length ≤ b.evs.length) = false := decide_eq_false hL
          have HF := hid (show frontP a b = false by unfold frontP; rw [hdl]; simp)
          clear hMa hMb hN hd hL
          have HCUT := HF
          refine wp_region_stairs (by kernel_rfl) (by kernel_rfl) (by kernel_rfl) ?_
          iterate 34
            refine Stairs.is ?_ ?_ ?_
            rotate_left 1
            · intro x wR hR hd K hK
              simp only [Act.put, List.setIfInBounds_toArray, List.set_cons_zero, List.set_cons_succ, Nat.reduceAdd, List.length_nil, List.length_cons, List.nil_append, List.cons_append, Say.ok] at hK ⊢
              clear hd
              change Hid _ at hK
              obtain ⟨hcR, hfR, hzR⟩ := nwc hR
              first | (refine wanted_yes ?_ ?_; rfl) | (refine wanted_no ?_ ?_; rfl)
              go_wp2_with (first 
            | (go_at_call 40; (first | with_reducible refine (HA.out _ ?_).mono ?_ | refine (HB.out _ ?_).mono ?_); exact (by repeat (first | assumption | exact Nw.refl _ | refine Nw.alloc ?_ _ | refine Nw.drew ?_ | refine Nw.drewN2 ?_ _ | (refine Nw.trans ?_ (by assumption)))); rintro e w5 ⟨rfl, hn5⟩)
            | (go_at_call 53; refine (HS.out _ (by repeat (first | assumption | exact Nw.refl _ | refine Nw.alloc ?_ _ | refine Nw.drew ?_ | refine Nw.drewN2 ?_ _ | (refine Nw.trans ?_ (by assumption))))).mono ?_; rintro e w6 ⟨rfl, hn6⟩)
            | (go_at_call 54; refine (sames_c _ _ a.evs (b.evs.take a.evs.length) _ (h2'.nw (hn.trans (by repeat (first | assumption | exact Nw.refl _ | refine Nw.alloc ?_ _ | refine Nw.drew ?_ | refine Nw.drewN2 ?_ _ | (refine Nw.trans ?_ (by assumption)))))) (HCUT.out _ (hn.trans (by repeat (first | assumption | exact Nw.refl _ | refine Nw.alloc ?_ _ | refine Nw.drew ?_ | refine Nw.drewN2 ?_ _ | (refine Nw.trans ?_ (by assumption))))))).mono ?_; rintro e w7 ⟨rfl, hn7⟩))
              all_goals (refine hK.out _ _ ?_ ?_ <;> first | (solve | (repeat (first | assumption | exact Nw.refl _ | refine Nw.alloc ?_ _ | refine Nw.drew ?_ | refine Nw.drewN2 ?_ _ | (refine Nw.trans ?_ (by assumption))))) | exact rfl)
            try simp only [Act.put, List.setIfInBounds_toArray, List.set_cons_zero, List.set_cons_succ, Nat.reduceAdd, List.length_nil, List.length_cons, List.nil_append, List.cons_append]
          refine Stairs.nil ?_
          intro x wR hR hx
          clear hx
          obtain ⟨hcR, hfR, hzR⟩ := nwc hR
          go_wp2
          go_ret
          exact Gives.b HF.out.symm (hn.trans hR)
      · have hd : decide (a.names = b.names) = false := decide_eq_false hN
        have HF := hid (show frontP a b = false by unfold frontP; rw [hd]; simp)
        rw [hMa] at HA
        rw [hMb] at HB
        rw [hd] at HS
        clear hMa hMb hN hd
        have HCUT := HF
        refine wp_region_stairs (by kernel_rfl) (by kernel_rfl) (by kernel_rfl) ?_
        iterate 34
          refine Stairs.is ?_ ?_ ?_
          rotate_left 1
          · intro x wR hR hd K hK
            simp only [Act.put, List.setIfInBounds_toArray, List.set_cons_zero, List.set_cons_succ, Nat.reduceAdd, List.length_nil, List.length_cons, List.nil_append, List.cons_append, Say.ok] at hK ⊢
            clear hd
            change Hid _ at hK
            obtain ⟨hcR, hfR, hzR⟩ := nwc hR
            first | (refine wanted_yes ?_ ?_; rfl) | (refine wanted_no ?_ ?_; rfl)
            go_wp2_with (first 
          | (go_at_call 40; (first | with_reducible refine (HA.out _ ?_).mono ?_ | refine (HB.out _ ?_).mono ?_); exact (by repeat (first | assumption | exact Nw.refl _ | refine Nw.alloc ?_ _ | refine Nw.drew ?_ | refine Nw.drewN2 ?_ _ | (refine Nw.trans ?_ (by assumption)))); rintro e w5 ⟨rfl, hn5⟩)
          | (go_at_call 53; refine (HS.out _ (by repeat (first | assumption | exact Nw.refl _ | refine Nw.alloc ?_ _ | refine Nw.drew ?_ | refine Nw.drewN2 ?_ _ | (refine Nw.trans ?_ (by assumption))))).mono ?_; rintro e w6 ⟨rfl, hn6⟩)
          | (go_at_call 54; refine (sames_c _ _ a.evs (b.evs.take a.evs.length) _ (h2'.nw (hn.trans (by repeat (first | assumption | exact Nw.refl _ | refine Nw.alloc ?_ _ | refine Nw.drew ?_ | refine Nw.drewN2 ?_ _ | (refine Nw.trans ?_ (by assumption)))))) (HCUT.out _ (hn.trans (by repeat (first | assumption | exact Nw.refl _ | refine Nw.alloc ?_ _ | refine Nw.drew ?_ | refine Nw.drewN2 ?_ _ | (refine Nw.trans ?_ (by assumption))))))).mono ?_; rintro e w7 ⟨rfl, hn7⟩))
            all_goals (refine hK.out _ _ ?_ ?_ <;> first | (solve | (repeat (first | assumption | exact Nw.refl _ | refine Nw.alloc ?_ _ | refine Nw.drew ?_ | refine Nw.drewN2 ?_ _ | (refine Nw.trans ?_ (by assumption))))) | exact rfl)
          try simp only [Act.put, List.setIfInBounds_toArray, List.set_cons_zero, List.set_cons_succ, Nat.reduceAdd, List.length_nil, List.length_cons, List.nil_append, List.cons_append]
        refine Stairs.nil ?_
        intro x wR hR hx
        clear hx
        obtain ⟨hcR, hfR, hzR⟩ := nwc hR
        go_wp2
        go_ret
        exact Gives.b HF.out.symm (hn.trans hR)
    · rw [Bool.not_eq_true] at hMb
      have HF := hid (show frontP a b = false by unfold frontP; rw [hMb]; simp)
      rw [hMa] at HA
      rw [hMb] at HB
      clear hMa hMb
      have HCUT := HF
      refine wp_region_stairs (by kernel_rfl) (by kernel_rfl) (by kernel_rfl) ?_
      iterate 34
        refine Stairs.is ?_ ?_ ?_
        rotate_left 1
        · intro x wR hR hd K hK
          simp only [Act.put, List.setIfInBounds_toArray, List.set_cons_zero, List.set_cons_succ, Nat.reduceAdd, List.length_nil, List.length_cons, List.nil_append, List.cons_append, Say.ok] at hK ⊢
          clear hd
          change Hid _ at hK
          obtain ⟨hcR, hfR, hzR⟩ := nwc hR
          first | (refine wanted_yes ?_ ?_; rfl) | (refine wanted_no ?_ ?_; rfl)
          go_wp2_with (first 
        | (go_at_call 40; (first | with_reducible refine (HA.out _ ?_).mono ?_ | refine (HB.out _ ?_).mono ?_); exact (by repeat (first | assumption | exact Nw.refl _ | refine Nw.alloc ?_ _ | refine Nw.drew ?_ | refine Nw.drewN2 ?_ _ | (refine Nw.trans ?_ (by assumption)))); rintro e w5 ⟨rfl, hn5⟩)
        | (go_at_call 53; refine (HS.out _ (by repeat (first | assumption | exact Nw.refl _ | refine Nw.alloc ?_ _ | refine Nw.drew ?_ | refine Nw.drewN2 ?_ _ | (refine Nw.trans ?_ (by assumption))))).mono ?_; rintro e w6 ⟨rfl, hn6⟩)
        | (go_at_call 54; refine (sames_c _ _ a.evs (b.evs.take a.evs.length) _ (h2'.nw (hn.trans (by repeat (first | assumption | exact Nw.refl _ | refine Nw.alloc ?_ _ | refine Nw.drew ?_ | refine Nw.drewN2 ?_ _ | (refine Nw.trans ?_ (by assumption)))))) (HCUT.out _ (hn.trans (by repeat (first | assumption | exact Nw.refl _ | refine Nw.alloc ?_ _ | refine Nw.drew ?_ | refine Nw.drewN2 ?_ _ | (refine Nw.trans ?_ (by assumption))))))).mono ?_; rintro e w7 ⟨rfl, hn7⟩))
          all_goals (refine hK.out _ _ ?_ ?_ <;> first | (solve | (repeat (first | assumption | exact Nw.refl _ | refine Nw.alloc ?_ _ | refine Nw.drew ?_ | refine Nw.drewN2 ?_ _ | (refine Nw.trans ?_ (by assumption))))) | exact rfl)
        try simp only [Act.put, List.setIfInBounds_toArray, List.set_cons_zero, List.set_cons_succ, Nat.reduceAdd, List.length_nil, List.length_cons, List.nil_append, List.cons_append]
      refine Stairs.nil ?_
      intro x wR hR hx
      clear hx
      obtain ⟨hcR, hfR, hzR⟩ := nwc hR
      go_wp2
      go_ret
      exact Gives.b HF.out.symm (hn.trans hR)
  · rw [Bool.not_eq_true] at hMa
    have HF := hid (show frontP a b = false by unfold frontP; rw [hMa]; rfl)
    rw [hMa] at HA
    clear hMa
    have HCUT := HF
    refine wp_region_stairs (by kernel_rfl) (by kernel_rfl) (by kernel_rfl) ?_
    iterate 34
      refine Stairs.is ?_ ?_ ?_
      rotate_left 1
      · intro x wR hR hd K hK
        simp only [Act.put, List.setIfInBounds_toArray, List.set_cons_zero, List.set_cons_succ, Nat.reduceAdd, List.length_nil, List.length_cons, List.nil_append, List.cons_append, Say.ok] at hK ⊢
        clear hd
        change Hid _ at hK
        obtain ⟨hcR, hfR, hzR⟩ := nwc hR
        first | (refine wanted_yes ?_ ?_; rfl) | (refine wanted_no ?_ ?_; rfl)
        go_wp2_with (first 
      | (go_at_call 40; (first | with_reducible refine (HA.out _ ?_).mono ?_ | refine (HB.out _ ?_).mono ?_); exact (by repeat (first | assumption | exact Nw.refl _ | refine Nw.alloc ?_ _ | refine Nw.drew ?_ | refine Nw.drewN2 ?_ _ | (refine Nw.trans ?_ (by assumption)))); rintro e w5 ⟨rfl, hn5⟩)
      | (go_at_call 53; refine (HS.out _ (by repeat (first | assumption | exact Nw.refl _ | refine Nw.alloc ?_ _ | refine Nw.drew ?_ | refine Nw.drewN2 ?_ _ | (refine Nw.trans ?_ (by assumption))))).mono ?_; rintro e w6 ⟨rfl, hn6⟩)
      | (go_at_call 54; refine (sames_c _ _ a.evs (b.evs.take a.evs.length) _ (h2'.nw (hn.trans (by repeat (first | assumption | exact Nw.refl _ | refine Nw.alloc ?_ _ | refine Nw.drew ?_ | refine Nw.drewN2 ?_ _ | (refine Nw.trans ?_ (by assumption)))))) (HCUT.out _ (hn.trans (by repeat (first | assumption | exact Nw.refl _ | refine Nw.alloc ?_ _ | refine Nw.drew ?_ | refine Nw.drewN2 ?_ _ | (refine Nw.trans ?_ (by assumption))))))).mono ?_; rintro e w7 ⟨rfl, hn7⟩))
        all_goals (refine hK.out _ _ ?_ ?_ <;> first | (solve | (repeat (first | assumption | exact Nw.refl _ | refine Nw.alloc ?_ _ | refine Nw.drew ?_ | refine Nw.drewN2 ?_ _ | (refine Nw.trans ?_ (by assumption))))) | exact rfl)
      try simp only [Act.put, List.setIfInBounds_toArray, List.set_cons_zero, List.set_cons_succ, Nat.reduceAdd, List.length_nil, List.length_cons, List.nil_append, List.cons_append]
    refine Stairs.nil ?_
    intro x wR hR hx
    clear hx
    obtain ⟨hcR, hfR, hzR⟩ := nwc hR
    go_wp2
    go_ret
    exact Gives.b HF.out.symm (hn.trans hR)
end Tr
end Go.Proofs.Ytjelbfodkacipaa
namespace Go.Proofs.Ytjelbfodkacipaa
open Go.ChangeShapes Go.WideShapes Go.ChangeAt Go.RowKit
namespace Tr
open Go.Proofs.Ytjelbfodkacipaa.Lx (isIn nameB strs_open strs_cell contains_c)
open Go.Proofs.Ytjelbfodkacipaa.Rec (rises i64s_open i64_cell)
def ReadsT (t : T) : Says := fun w v => TrR w v t
@[simp] theorem ReadsT.stab (t : T) : Stab (ReadsT t) := fun _ _ _ h hn => TrR.nw h hn
theorem samet_same (u v : Value) (a : T) (w : World) (h1 : TrR w u a) (h2 : TrR w v a) : Calls Try.prog 31 #[u, v] w (Gives (.bool true) w) := by
  obtain ⟨u1, u2, rfl, k1, k2⟩ := h1
  obtain ⟨v1, v2, rfl, k3, k4⟩ := h2
  have := samet_c u1 u2 v1 v2 a a w k1 k2 k3 k4
  rwa [decide_eq_true rfl] at this
set_option maxRecDepth 20000 in
set_option maxHeartbeats 3200000 in
theorem tells_c (un ue vn ve : Value) (a b : T) (i : Int) (s : ByteArray) (w : World) (h1 : Sl w un (Lx.strs a.names)) (h2 : Evs w ue a.evs) (h3 : Sl w vn (Lx.strs b.names)) (h4 : Evs w ve b.evs) (ha : Small a) (hb : Small b) (hi1 : -9223372036854775808 ≤ i) (hi2 : i ≤ 9223372036854775807) :
    Calls Try.prog 22 #[.agg #[un, ue], .agg #[vn, ve], .int .i64 i, .string s] w (Gives (.bool true) w) := by
  have HM := hid (fun w' (h : Nw w w') => may_c un ue a w' (h1.nw h) (h2.nw h) ha.s)
  have HM2 := hid (fun w' (h : Nw w w') => rmay_c un ue a w' (h1.nw h) (h2.nw h) ha.s)
  have HH := hid (fun w' (h : Nw w w') => holds_c un ue a i s w' (h1.nw h) (h2.nw h) ha)
  have HH2 := hid (fun w' (h : Nw w w') => rholds_c un ue a i s w' (h1.nw h) (h2.nw h) ha)
  have HC := hid (fun w' (h : Nw w w') => cut_c un ue a i w' (h1.nw h) (h2.nw h) ha hi1 hi2)
  have HC2 := hid (fun w' (h : Nw w w') => rcut_c un ue a i w' (h1.nw h) (h2.nw h) ha hi1 hi2)
  have HF := hid (fun w' (h : Nw w w') => front_c un ue vn ve a b w' (h1.nw h) (h2.nw h) (h3.nw h) (h4.nw h) ha hb)
  have HG := hid (fun w' (h : Nw w w') => front_c vn ve un ue b a w' (h3.nw h) (h4.nw h) (h1.nw h) (h2.nw h) hb ha)
  have HF2 := hid (fun w' (h : Nw w w') => rfront_c un ue vn ve a b w' (h1.nw h) (h2.nw h) (h3.nw h) (h4.nw h) ha hb)
  have HG2 := hid (fun w' (h : Nw w w') => rfront_c vn ve un ue b a w' (h3.nw h) (h4.nw h) (h1.nw h) (h2.nw h) hb ha)
  obtain ⟨p1, k1, rfl, _, _, _, _⟩ := strs_open h1
  obtain ⟨p2, k2, rfl, _, _, _, _⟩ := strs_open h3
  obtain ⟨p3, k3, rfl, _, _, _, _⟩ := h2
  obtain ⟨p4, k4, rfl, _, _, _, _⟩ := h4
  clear ha hb h1 h3
  generalize mayP a = ma at *
  generalize holdsP a i s = hh at *
  generalize cutP a i = ct at *
  generalize frontP a b = fab at *
  generalize frontP b a = fba at *
  generalize a.names.length = na at *
  generalize b.names.length = nb at *
  generalize a.evs.length = ea at *
  generalize b.evs.length = eb at *
  go_enter Try.func22, Try.ntmps22
  go_upto_region 1 with fail
  obtain ⟨x0, x1, y4, hn, hz4⟩ := boxes w (.slice p1 na k1) (.slice p3 ea k3) (.slice p2 nb k2) (.slice p4 eb k4) 26 26
  have y0 := heap_cell y4 0
  have y1 := heap_cell y4 1
  simp only [List.getElem?_toArray, List.getElem?_cons_succ, List.getElem?_cons_zero] at y0 y1
  clear y4
  generalize ((w.alloc (.cells #[.slice p1 na k1, .slice p3 ea k3] 26)).alloc (.cells #[.slice p2 nb k2, .slice p4 eb k4] 26)) = w0 at *
  have hz0 : w.heap.size < w0.heap.size := by omega
  have hz1 : w.heap.size + 1 < w0.heap.size := by omega
  clear hz4 hi1 hi2
  refine wp_region_stairs (by kernel_rfl) (by kernel_rfl) (by kernel_rfl) ?_
  iterate 19
    refine Stairs.is ?_ ?_ ?_
    rotate_left 1
    · intro x wR hR hd K hK
      simp only [Act.put, List.setIfInBounds_toArray, List.set_cons_zero, List.set_cons_succ, Nat.reduceAdd, List.length_nil, List.length_cons, List.nil_append, List.cons_append, Say.ok] at hK ⊢
      clear hd
      change Hid _ at hK
      obtain ⟨hcR, hfR, hzR⟩ := nwc hR
      first | (refine wanted_yes ?_ ?_; rfl) | (refine wanted_no ?_ ?_; rfl)
      go_wp2_with (first 
  | (go_at_call 24; refine (HM.out _ (by repeat (first | assumption | exact Nw.refl _ | refine Nw.alloc ?_ _ | refine Nw.drew ?_ | refine Nw.drewN2 ?_ _ | (refine Nw.trans ?_ (by assumption))))).mono ?_; rintro e w5 ⟨rfl, hn5⟩)
  | (go_at_call 40; refine (HM2.out _ (by repeat (first | assumption | exact Nw.refl _ | refine Nw.alloc ?_ _ | refine Nw.drew ?_ | refine Nw.drewN2 ?_ _ | (refine Nw.trans ?_ (by assumption))))).mono ?_; rintro e w5 ⟨rfl, hn5⟩)
  | (go_at_call 26; refine (HH.out _ (by repeat (first | assumption | exact Nw.refl _ | refine Nw.alloc ?_ _ | refine Nw.drew ?_ | refine Nw.drewN2 ?_ _ | (refine Nw.trans ?_ (by assumption))))).mono ?_; rintro e w5 ⟨rfl, hn5⟩)
  | (go_at_call 46; refine (HH2.out _ (by repeat (first | assumption | exact Nw.refl _ | refine Nw.alloc ?_ _ | refine Nw.drew ?_ | refine Nw.drewN2 ?_ _ | (refine Nw.trans ?_ (by assumption))))).mono ?_; rintro e w5 ⟨rfl, hn5⟩)
  | (go_at_call 25; refine (HC.out _ (by repeat (first | assumption | exact Nw.refl _ | refine Nw.alloc ?_ _ | refine Nw.drew ?_ | refine Nw.drewN2 ?_ _ | (refine Nw.trans ?_ (by assumption))))).mono ?_; rintro e w5 ⟨v5, rfl, hr5, hn5⟩)
  | (go_at_call 42; refine (HC2.out _ (by repeat (first | assumption | exact Nw.refl _ | refine Nw.alloc ?_ _ | refine Nw.drew ?_ | refine Nw.drewN2 ?_ _ | (refine Nw.trans ?_ (by assumption))))).mono ?_; rintro e w5 ⟨v5, rfl, hr5, hn5⟩)
  | (go_at_call 31; refine (samet_same _ _ ct _ (by first | exact hd.1 | exact hd.2.1) (by first | exact hd.2 | exact hd.2.2 | exact hd.2.1)).mono ?_; rintro e w5 ⟨rfl, hn5⟩)
  | (go_at_call 32; (first | with_reducible refine (HF.out _ ?_).mono ?_ | refine (HG.out _ ?_).mono ?_); exact (by repeat (first | assumption | exact Nw.refl _ | refine Nw.alloc ?_ _ | refine Nw.drew ?_ | refine Nw.drewN2 ?_ _ | (refine Nw.trans ?_ (by assumption)))); rintro e w5 ⟨rfl, hn5⟩)
  | (go_at_call 47; (first | with_reducible refine (HF2.out _ ?_).mono ?_ | refine (HG2.out _ ?_).mono ?_); exact (by repeat (first | assumption | exact Nw.refl _ | refine Nw.alloc ?_ _ | refine Nw.drew ?_ | refine Nw.drewN2 ?_ _ | (refine Nw.trans ?_ (by assumption)))); rintro e w5 ⟨rfl, hn5⟩)
)
      all_goals (refine hK.out _ _ ?_ ?_ <;> first | (solve | (repeat (first | assumption | exact Nw.refl _ | refine Nw.alloc ?_ _ | refine Nw.drew ?_ | refine Nw.drewN2 ?_ _ | (refine Nw.trans ?_ (by assumption))))) | exact rfl | exact hr5)
    try simp only [Act.put, List.setIfInBounds_toArray, List.set_cons_zero, List.set_cons_succ, Nat.reduceAdd, List.length_nil, List.length_cons, List.nil_append, List.cons_append]
  iterate 1
    refine Stairs.that (ReadsT ct) (by first | assumption | simp) ?_ ?_
    · intro x wR hR hd K hK
      simp only [Act.put, List.setIfInBounds_toArray, List.set_cons_zero, List.set_cons_succ, Nat.reduceAdd, List.length_nil, List.length_cons, List.nil_append, List.cons_append, Say.ok] at hK ⊢
      clear hd
      change Hid _ at hK
      obtain ⟨hcR, hfR, hzR⟩ := nwc hR
      first | (refine wanted_yes ?_ ?_; rfl) | (refine wanted_no ?_ ?_; rfl)
      go_wp2_with (first 
  | (go_at_call 24; refine (HM.out _ (by repeat (first | assumption | exact Nw.refl _ | refine Nw.alloc ?_ _ | refine Nw.drew ?_ | refine Nw.drewN2 ?_ _ | (refine Nw.trans ?_ (by assumption))))).mono ?_; rintro e w5 ⟨rfl, hn5⟩)
  | (go_at_call 40; refine (HM2.out _ (by repeat (first | assumption | exact Nw.refl _ | refine Nw.alloc ?_ _ | refine Nw.drew ?_ | refine Nw.drewN2 ?_ _ | (refine Nw.trans ?_ (by assumption))))).mono ?_; rintro e w5 ⟨rfl, hn5⟩)
  | (go_at_call 26; refine (HH.out _ (by repeat (first | assumption | exact Nw.refl _ | refine Nw.alloc ?_ _ | refine Nw.drew ?_ | refine Nw.drewN2 ?_ _ | (refine Nw.trans ?_ (by assumption))))).mono ?_; rintro e w5 ⟨rfl, hn5⟩)
  | (go_at_call 46; refine (HH2.out _ (by repeat (first | assumption | exact Nw.refl _ | refine Nw.alloc ?_ _ | refine Nw.drew ?_ | refine Nw.drewN2 ?_ _ | (refine Nw.trans ?_ (by assumption))))).mono ?_; rintro e w5 ⟨rfl, hn5⟩)
  | (go_at_call 25; refine (HC.out _ (by repeat (first | assumption | exact Nw.refl _ | refine Nw.alloc ?_ _ | refine Nw.drew ?_ | refine Nw.drewN2 ?_ _ | (refine Nw.trans ?_ (by assumption))))).mono ?_; rintro e w5 ⟨v5, rfl, hr5, hn5⟩)
  | (go_at_call 42; refine (HC2.out _ (by repeat (first | assumption | exact Nw.refl _ | refine Nw.alloc ?_ _ | refine Nw.drew ?_ | refine Nw.drewN2 ?_ _ | (refine Nw.trans ?_ (by assumption))))).mono ?_; rintro e w5 ⟨v5, rfl, hr5, hn5⟩)
  | (go_at_call 31; refine (samet_same _ _ ct _ (by first | exact hd.1 | exact hd.2.1) (by first | exact hd.2 | exact hd.2.2 | exact hd.2.1)).mono ?_; rintro e w5 ⟨rfl, hn5⟩)
  | (go_at_call 32; (first | with_reducible refine (HF.out _ ?_).mono ?_ | refine (HG.out _ ?_).mono ?_); exact (by repeat (first | assumption | exact Nw.refl _ | refine Nw.alloc ?_ _ | refine Nw.drew ?_ | refine Nw.drewN2 ?_ _ | (refine Nw.trans ?_ (by assumption)))); rintro e w5 ⟨rfl, hn5⟩)
  | (go_at_call 47; (first | with_reducible refine (HF2.out _ ?_).mono ?_ | refine (HG2.out _ ?_).mono ?_); exact (by repeat (first | assumption | exact Nw.refl _ | refine Nw.alloc ?_ _ | refine Nw.drew ?_ | refine Nw.drewN2 ?_ _ | (refine Nw.trans ?_ (by assumption)))); rintro e w5 ⟨rfl, hn5⟩)
)
      all_goals (refine hK.out _ _ ?_ ?_ <;> first | (solve | (repeat (first | assumption | exact Nw.refl _ | refine Nw.alloc ?_ _ | refine Nw.drew ?_ | refine Nw.drewN2 ?_ _ | (refine Nw.trans ?_ (by assumption))))) | exact rfl | exact hr5)
    try simp only [Act.put, List.setIfInBounds_toArray, List.set_cons_zero, List.set_cons_succ, Nat.reduceAdd, List.length_nil, List.length_cons, List.nil_append, List.cons_append]
  iterate 2
    refine Stairs.is ?_ ?_ ?_
    rotate_left 1
    · intro x wR hR hd K hK
      simp only [Act.put, List.setIfInBounds_toArray, List.set_cons_zero, List.set_cons_succ, Nat.reduceAdd, List.length_nil, List.length_cons, List.nil_append, List.cons_append, Say.ok] at hK ⊢
      try simp [Region.binds, sayAt, List.getD_cons_zero, List.getD_cons_succ, Say.ok, Vl] at hd
      try (first | have hs := str_ok hd | have hs := str_ok hd.2 | have hs := str_ok hd.1 | (obtain ⟨hd1, hd2, hd3⟩ := hd; first | have hs := str_ok hd1 | have hs := str_ok hd2 | have hs := str_ok hd3))
      change Hid _ at hK
      obtain ⟨hcR, hfR, hzR⟩ := nwc hR
      first | (refine wanted_yes ?_ ?_; rfl) | (refine wanted_no ?_ ?_; rfl)
      go_wp2_with (first 
  | (go_at_call 24; refine (HM.out _ (by repeat (first | assumption | exact Nw.refl _ | refine Nw.alloc ?_ _ | refine Nw.drew ?_ | refine Nw.drewN2 ?_ _ | (refine Nw.trans ?_ (by assumption))))).mono ?_; rintro e w5 ⟨rfl, hn5⟩)
  | (go_at_call 40; refine (HM2.out _ (by repeat (first | assumption | exact Nw.refl _ | refine Nw.alloc ?_ _ | refine Nw.drew ?_ | refine Nw.drewN2 ?_ _ | (refine Nw.trans ?_ (by assumption))))).mono ?_; rintro e w5 ⟨rfl, hn5⟩)
  | (go_at_call 26; refine (HH.out _ (by repeat (first | assumption | exact Nw.refl _ | refine Nw.alloc ?_ _ | refine Nw.drew ?_ | refine Nw.drewN2 ?_ _ | (refine Nw.trans ?_ (by assumption))))).mono ?_; rintro e w5 ⟨rfl, hn5⟩)
  | (go_at_call 46; refine (HH2.out _ (by repeat (first | assumption | exact Nw.refl _ | refine Nw.alloc ?_ _ | refine Nw.drew ?_ | refine Nw.drewN2 ?_ _ | (refine Nw.trans ?_ (by assumption))))).mono ?_; rintro e w5 ⟨rfl, hn5⟩)
  | (go_at_call 25; refine (HC.out _ (by repeat (first | assumption | exact Nw.refl _ | refine Nw.alloc ?_ _ | refine Nw.drew ?_ | refine Nw.drewN2 ?_ _ | (refine Nw.trans ?_ (by assumption))))).mono ?_; rintro e w5 ⟨v5, rfl, hr5, hn5⟩)
  | (go_at_call 42; refine (HC2.out _ (by repeat (first | assumption | exact Nw.refl _ | refine Nw.alloc ?_ _ | refine Nw.drew ?_ | refine Nw.drewN2 ?_ _ | (refine Nw.trans ?_ (by assumption))))).mono ?_; rintro e w5 ⟨v5, rfl, hr5, hn5⟩)
  | (go_at_call 31; refine (samet_same _ _ ct _ (by first | exact hd.1 | exact hd.2.1) (by first | exact hd.2 | exact hd.2.2 | exact hd.2.1)).mono ?_; rintro e w5 ⟨rfl, hn5⟩)
  | (go_at_call 32; (first | with_reducible refine (HF.out _ ?_).mono ?_ | refine (HG.out _ ?_).mono ?_); exact (by repeat (first | assumption | exact Nw.refl _ | refine Nw.alloc ?_ _ | refine Nw.drew ?_ | refine Nw.drewN2 ?_ _ | (refine Nw.trans ?_ (by assumption)))); rintro e w5 ⟨rfl, hn5⟩)
  | (go_at_call 47; (first | with_reducible refine (HF2.out _ ?_).mono ?_ | refine (HG2.out _ ?_).mono ?_); exact (by repeat (first | assumption | exact Nw.refl _ | refine Nw.alloc ?_ _ | refine Nw.drew ?_ | refine Nw.drewN2 ?_ _ | (refine Nw.trans ?_ (by assumption)))); rintro e w5 ⟨rfl, hn5⟩)
)
      all_goals (refine hK.out _ _ ?_ ?_ <;> first | (solve | (repeat (first | assumption | exact Nw.refl _ | refine Nw.alloc ?_ _ | refine Nw.drew ?_ | refine Nw.drewN2 ?_ _ | (refine Nw.trans ?_ (by assumption))))) | exact rfl | exact hr5)
    try simp only [Act.put, List.setIfInBounds_toArray, List.set_cons_zero, List.set_cons_succ, Nat.reduceAdd, List.length_nil, List.length_cons, List.nil_append, List.cons_append]
  iterate 1
    refine Stairs.that (ReadsT ct) (by first | assumption | simp) ?_ ?_
    · intro x wR hR hd K hK
      simp only [Act.put, List.setIfInBounds_toArray, List.set_cons_zero, List.set_cons_succ, Nat.reduceAdd, List.length_nil, List.length_cons, List.nil_append, List.cons_append, Say.ok] at hK ⊢
      try simp [Region.binds, sayAt, List.getD_cons_zero, List.getD_cons_succ, Say.ok, Vl] at hd
      try (first | have hs := str_ok hd | have hs := str_ok hd.2 | have hs := str_ok hd.1 | (obtain ⟨hd1, hd2, hd3⟩ := hd; first | have hs := str_ok hd1 | have hs := str_ok hd2 | have hs := str_ok hd3))
      change Hid _ at hK
      obtain ⟨hcR, hfR, hzR⟩ := nwc hR
      first | (refine wanted_yes ?_ ?_; rfl) | (refine wanted_no ?_ ?_; rfl)
      go_wp2_with (first 
  | (go_at_call 24; refine (HM.out _ (by repeat (first | assumption | exact Nw.refl _ | refine Nw.alloc ?_ _ | refine Nw.drew ?_ | refine Nw.drewN2 ?_ _ | (refine Nw.trans ?_ (by assumption))))).mono ?_; rintro e w5 ⟨rfl, hn5⟩)
  | (go_at_call 40; refine (HM2.out _ (by repeat (first | assumption | exact Nw.refl _ | refine Nw.alloc ?_ _ | refine Nw.drew ?_ | refine Nw.drewN2 ?_ _ | (refine Nw.trans ?_ (by assumption))))).mono ?_; rintro e w5 ⟨rfl, hn5⟩)
  | (go_at_call 26; refine (HH.out _ (by repeat (first | assumption | exact Nw.refl _ | refine Nw.alloc ?_ _ | refine Nw.drew ?_ | refine Nw.drewN2 ?_ _ | (refine Nw.trans ?_ (by assumption))))).mono ?_; rintro e w5 ⟨rfl, hn5⟩)
  | (go_at_call 46; refine (HH2.out _ (by repeat (first | assumption | exact Nw.refl _ | refine Nw.alloc ?_ _ | refine Nw.drew ?_ | refine Nw.drewN2 ?_ _ | (refine Nw.trans ?_ (by assumption))))).mono ?_; rintro e w5 ⟨rfl, hn5⟩)
  | (go_at_call 25; refine (HC.out _ (by repeat (first | assumption | exact Nw.refl _ | refine Nw.alloc ?_ _ | refine Nw.drew ?_ | refine Nw.drewN2 ?_ _ | (refine Nw.trans ?_ (by assumption))))).mono ?_; rintro e w5 ⟨v5, rfl, hr5, hn5⟩)
  | (go_at_call 42; refine (HC2.out _ (by repeat (first | assumption | exact Nw.refl _ | refine Nw.alloc ?_ _ | refine Nw.drew ?_ | refine Nw.drewN2 ?_ _ | (refine Nw.trans ?_ (by assumption))))).mono ?_; rintro e w5 ⟨v5, rfl, hr5, hn5⟩)
  | (go_at_call 31; refine (samet_same _ _ ct _ (by first | exact hd.1 | exact hd.2.1) (by first | exact hd.2 | exact hd.2.2 | exact hd.2.1)).mono ?_; rintro e w5 ⟨rfl, hn5⟩)
  | (go_at_call 32; (first | with_reducible refine (HF.out _ ?_).mono ?_ | refine (HG.out _ ?_).mono ?_); exact (by repeat (first | assumption | exact Nw.refl _ | refine Nw.alloc ?_ _ | refine Nw.drew ?_ | refine Nw.drewN2 ?_ _ | (refine Nw.trans ?_ (by assumption)))); rintro e w5 ⟨rfl, hn5⟩)
  | (go_at_call 47; (first | with_reducible refine (HF2.out _ ?_).mono ?_ | refine (HG2.out _ ?_).mono ?_); exact (by repeat (first | assumption | exact Nw.refl _ | refine Nw.alloc ?_ _ | refine Nw.drew ?_ | refine Nw.drewN2 ?_ _ | (refine Nw.trans ?_ (by assumption)))); rintro e w5 ⟨rfl, hn5⟩)
)
      all_goals (refine hK.out _ _ ?_ ?_ <;> first | (solve | (repeat (first | assumption | exact Nw.refl _ | refine Nw.alloc ?_ _ | refine Nw.drew ?_ | refine Nw.drewN2 ?_ _ | (refine Nw.trans ?_ (by assumption))))) | exact rfl | exact hr5)
    try simp only [Act.put, List.setIfInBounds_toArray, List.set_cons_zero, List.set_cons_succ, Nat.reduceAdd, List.length_nil, List.length_cons, List.nil_append, List.cons_append]
  iterate 21
    refine Stairs.is ?_ ?_ ?_
    rotate_left 1
    · intro x wR hR hd K hK
      simp only [Act.put, List.setIfInBounds_toArray, List.set_cons_zero, List.set_cons_succ, Nat.reduceAdd, List.length_nil, List.length_cons, List.nil_append, List.cons_append, Say.ok] at hK ⊢
      try simp [Region.binds, sayAt, List.getD_cons_zero, List.getD_cons_succ, Say.ok, Vl] at hd
      try (first | have hs := str_ok hd | have hs := str_ok hd.2 | have hs := str_ok hd.1 | (obtain ⟨hd1, hd2, hd3⟩ := hd; first | have hs := str_ok hd1 | have hs := str_ok hd2 | have hs := str_ok hd3))
      change Hid _ at hK
      obtain ⟨hcR, hfR, hzR⟩ := nwc hR
      first | (refine wanted_yes ?_ ?_; rfl) | (refine wanted_no ?_ ?_; rfl)
      go_wp2_with (first 
  | (go_at_call 24; refine (HM.out _ (by repeat (first | assumption | exact Nw.refl _ | refine Nw.alloc ?_ _ | refine Nw.drew ?_ | refine Nw.drewN2 ?_ _ | (refine Nw.trans ?_ (by assumption))))).mono ?_; rintro e w5 ⟨rfl, hn5⟩)
  | (go_at_call 40; refine (HM2.out _ (by repeat (first | assumption | exact Nw.refl _ | refine Nw.alloc ?_ _ | refine Nw.drew ?_ | refine Nw.drewN2 ?_ _ | (refine Nw.trans ?_ (by assumption))))).mono ?_; rintro e w5 ⟨rfl, hn5⟩)
  | (go_at_call 26; refine (HH.out _ (by repeat (first | assumption | exact Nw.refl _ | refine Nw.alloc ?_ _ | refine Nw.drew ?_ | refine Nw.drewN2 ?_ _ | (refine Nw.trans ?_ (by assumption))))).mono ?_; rintro e w5 ⟨rfl, hn5⟩)
  | (go_at_call 46; refine (HH2.out _ (by repeat (first | assumption | exact Nw.refl _ | refine Nw.alloc ?_ _ | refine Nw.drew ?_ | refine Nw.drewN2 ?_ _ | (refine Nw.trans ?_ (by assumption))))).mono ?_; rintro e w5 ⟨rfl, hn5⟩)
  | (go_at_call 25; refine (HC.out _ (by repeat (first | assumption | exact Nw.refl _ | refine Nw.alloc ?_ _ | refine Nw.drew ?_ | refine Nw.drewN2 ?_ _ | (refine Nw.trans ?_ (by assumption))))).mono ?_; rintro e w5 ⟨v5, rfl, hr5, hn5⟩)
  | (go_at_call 42; refine (HC2.out _ (by repeat (first | assumption | exact Nw.refl _ | refine Nw.alloc ?_ _ | refine Nw.drew ?_ | refine Nw.drewN2 ?_ _ | (refine Nw.trans ?_ (by assumption))))).mono ?_; rintro e w5 ⟨v5, rfl, hr5, hn5⟩)
  | (go_at_call 31; refine (samet_same _ _ ct _ (by first | exact hd.1 | exact hd.2.1) (by first | exact hd.2 | exact hd.2.2 | exact hd.2.1)).mono ?_; rintro e w5 ⟨rfl, hn5⟩)
  | (go_at_call 32; (first | with_reducible refine (HF.out _ ?_).mono ?_ | refine (HG.out _ ?_).mono ?_); exact (by repeat (first | assumption | exact Nw.refl _ | refine Nw.alloc ?_ _ | refine Nw.drew ?_ | refine Nw.drewN2 ?_ _ | (refine Nw.trans ?_ (by assumption)))); rintro e w5 ⟨rfl, hn5⟩)
  | (go_at_call 47; (first | with_reducible refine (HF2.out _ ?_).mono ?_ | refine (HG2.out _ ?_).mono ?_); exact (by repeat (first | assumption | exact Nw.refl _ | refine Nw.alloc ?_ _ | refine Nw.drew ?_ | refine Nw.drewN2 ?_ _ | (refine Nw.trans ?_ (by assumption)))); rintro e w5 ⟨rfl, hn5⟩)
)
      all_goals (refine hK.out _ _ ?_ ?_ <;> first | (solve | (repeat (first | assumption | exact Nw.refl _ | refine Nw.alloc ?_ _ | refine Nw.drew ?_ | refine Nw.drewN2 ?_ _ | (refine Nw.trans ?_ (by assumption))))) | exact rfl | exact hr5)
    try simp only [Act.put, List.setIfInBounds_toArray, List.set_cons_zero, List.set_cons_succ, Nat.reduceAdd, List.length_nil, List.length_cons, List.nil_append, List.cons_append]
  refine Stairs.nil ?_
  intro x wR hR hx
  have h19 := hx 19 (by decide)
  simp only [sayAt, List.getD_cons_zero, List.getD_cons_succ, Say.ok, Vl] at h19
  have h22 := hx 22 (by decide)
  simp only [sayAt, List.getD_cons_zero, List.getD_cons_succ, Say.ok, Vl] at h22
  clear hx
  obtain ⟨hcR, hfR, hzR⟩ := nwc hR
  go_wp2
  go_ret
  exact ⟨rfl, hn.trans hR⟩
/-! ### great -/
def greatB (t : T) : Bool := decide (200 < t.names.length) || (decide (200 < t.evs.length) || (List.range t.evs.length).any fun i => decide (200 < (ids t.evs i).length))
def greatP (t : T) : Int := if greatB t = true then 1 else 0
theorem great_at {t : T} {k : Nat} (h : k < t.evs.length) (h2 : 200 < (ids t.evs k).length) : greatP t = 1 := by
  unfold greatP
  rw [if_pos]
  unfold greatB
  rw [List.any_eq_true.2 ⟨k, List.mem_range.2 h, decide_eq_true h2⟩]
  simp
theorem great_no {t : T} (h1 : ¬ 200 < t.names.length) (h2 : ¬ 200 < t.evs.length) (h3 : ∀ j, j < t.evs.length → (ids t.evs j).length ≤ 200) : greatP t = 0 := by
  unfold greatP
  rw [if_neg]
  unfold greatB
  rw [decide_eq_false h1, decide_eq_false h2]
  simp only [Bool.false_or, List.any_eq_true, List.mem_range, decide_eq_true_eq, not_exists, not_and]
  intro j hj
  have := h3 j hj
  omega
set_option maxRecDepth 20000 in
set_option maxHeartbeats 800000 in
theorem great_c (vn ve : Value) (t : T) (w : World) (hvn : Sl w vn (Lx.strs t.names)) (hve : Evs w ve t.evs) :
    Calls Try.prog 16 #[.agg #[vn, ve]] w (Gives (.int .i64 (greatP t)) w) := by
  obtain ⟨pn, capn, rfl, hcapn, hmxn, _, _⟩ := strs_open hvn
  obtain ⟨p, cap, rfl, hcap, hmx, hp0, hec⟩ := hve
  have HE := hid hec
  unfold maxLen at hmxn hmx
  clear hec hvn
  by_cases h1 : 200 < t.names.length
  · have hd1 : decide ((200 : Int) < t.names.length) = true := decide_eq_true (by omega)
    have HF := hid (show greatP t = 1 by unfold greatP greatB; rw [decide_eq_true h1]; rfl)
    go_enter Try.func16, Try.ntmps16
    go_wp2
    go_ret
    exact Gives.i HF.out.symm (by repeat (first | assumption | exact Nw.refl _ | refine Nw.alloc ?_ _ | refine Nw.drew ?_ | refine Nw.drewN2 ?_ _ | (refine Nw.trans ?_ (by assumption))))
  · by_cases h2 : 200 < t.evs.length
    · have hd1 : decide ((200 : Int) < t.names.length) = false := decide_eq_false (by omega)
      have hd2 : decide ((200 : Int) < t.evs.length) = true := decide_eq_true (by omega)
      have HF := hid (show greatP t = 1 by unfold greatP greatB; rw [decide_eq_true h2]; simp)
      clear h1
      go_enter Try.func16, Try.ntmps16
      go_wp2
      go_ret
      exact Gives.i HF.out.symm (by repeat (first | assumption | exact Nw.refl _ | refine Nw.alloc ?_ _ | refine Nw.drew ?_ | refine Nw.drewN2 ?_ _ | (refine Nw.trans ?_ (by assumption))))
    · have hd1 : decide ((200 : Int) < t.names.length) = false := decide_eq_false (by omega)
      have hd2 : decide ((200 : Int) < t.evs.length) = false := decide_eq_false (by omega)
      have HNO := hid (fun h3 => great_no h1 h2 h3)
      clear h1 h2
      go_enter Try.func16, Try.ntmps16
      go_wp2
      have hnL := (Nw.refl w).alloc (.cells #[.slice pn t.names.length capn, .slice p t.evs.length cap] 26)
      generalize (w.alloc (.cells #[.slice pn t.names.length capn, .slice p t.evs.length cap] 26)) = wL at *
      go_loopw [4, 18] (fun _ i wr => ∃ k : Nat, k ≤ t.evs.length ∧ i = .int .i64 k ∧ Hid (∀ j, j < k → (ids t.evs j).length ≤ 200) ∧ Nw wL wr) (fun _ i _ => t.evs.length - (intOf i).toNat)
      case atStart => exact ⟨0, Nat.zero_le _, rfl, hid (fun j h => absurd h (Nat.not_lt_zero j)), Nw.refl _⟩
      case round =>
        obtain ⟨k, hk, rfl, hu, hnr⟩ := hrel
        have hnw := hnL.trans hnr
        by_cases hlt : k < t.evs.length
        · have hdk : decide (k < t.evs.length) = true := decide_eq_true hlt
          obtain ⟨b1, o1, vi, rfl, c0, c1, hsl⟩ := (HE.out.nw hnw) k hlt
          obtain ⟨q, c, rfl, hcq, hmq, _, _⟩ := i64s_open hsl
          unfold maxLen at hmq
          clear hsl
          by_cases h4 : 200 < (ids t.evs k).length
          · have hd4 : decide ((200 : Int) < (ids t.evs k).length) = true := decide_eq_true (by omega)
            have HF := hid (great_at hlt h4)
            clear h4
            generalize ids t.evs k = l at *
            go_wp2
            go_ret
            exact Gives.i HF.out.symm (by repeat (first | assumption | exact Nw.refl _ | refine Nw.alloc ?_ _ | refine Nw.drew ?_ | refine Nw.drewN2 ?_ _ | (refine Nw.trans ?_ (by assumption))))
          · have hd4 : decide ((200 : Int) < (ids t.evs k).length) = false := decide_eq_false (by omega)
            have HF := hid (show ∀ j, j < k + 1 → (ids t.evs j).length ≤ 200 from fun j hj => by
              by_cases hjk : j = k
              · subst hjk; omega
              · exact hu.out j (by omega))
            clear h4
            generalize hl : ids t.evs k = l at *
            clear hl
            go_wp2
            go_roundw
            case rel => exact ⟨k + 1, by omega, by go_num, HF, (by repeat (first | assumption | exact Nw.refl _ | refine Nw.alloc ?_ _ | refine Nw.drew ?_ | refine Nw.drewN2 ?_ _ | (refine Nw.trans ?_ (by assumption))))⟩
            case measure => simp [intOf]; omega
        · obtain rfl : k = t.evs.length := by omega
          have hdk : decide (t.evs.length < t.evs.length) = false := decide_eq_false (by omega)
          have HF := hid (HNO.out hu.out)
          go_wp2
          go_ret
          exact Gives.i HF.out.symm hnw
/-! ### awake -/
def aw : T := ⟨[⟨#[112]⟩, ⟨#[113]⟩], [(3, [1])]⟩
theorem aw_small : Small aw := by
  refine ⟨by decide, by decide, fun i hi => ?_, fun s hs => ?_⟩
  · match i, hi with
    | 0, _ => decide
  · simp only [aw, List.mem_cons, List.not_mem_nil, or_false] at hs
    rcases hs with rfl | rfl <;> decide
theorem front_r (u v : Value) (a b : T) (w : World) (h1 : TrR w u a) (h2 : TrR w v b) (ha : Small a) (hb : Small b) : Calls Try.prog 32 #[u, v] w (Gives (.bool (frontP a b)) w) := by
  obtain ⟨u1, u2, rfl, k1, k2⟩ := h1
  obtain ⟨v1, v2, rfl, k3, k4⟩ := h2
  exact front_c u1 u2 v1 v2 a b w k1 k2 k3 k4 ha hb
theorem size_alloc (w : World) (o : Obj) : (w.alloc o).heap.size = w.heap.size + 1 := by
  show (w.heap.push _).size = _
  rw [Array.size_push]
theorem aw_reads (w : World) : Sl ((((w.alloc (.cells #[.string ⟨#[112]⟩, .string ⟨#[113]⟩] 9)).alloc (.cells #[.int .i64 1] 3)).alloc (.cells #[.int .u64 3, .slice (some ⟨w.heap.size + 1, 0, none⟩) 1 1] 39)).alloc (.cells #[.slice (some ⟨w.heap.size, 0, none⟩) 2 2, .slice (some ⟨w.heap.size + 1 + 1, 0, none⟩) 1 1] 26)) (.slice (some ⟨w.heap.size, 0, none⟩) 2 2) (Lx.strs aw.names) ∧
    Evs ((((w.alloc (.cells #[.string ⟨#[112]⟩, .string ⟨#[113]⟩] 9)).alloc (.cells #[.int .i64 1] 3)).alloc (.cells #[.int .u64 3, .slice (some ⟨w.heap.size + 1, 0, none⟩) 1 1] 39)).alloc (.cells #[.slice (some ⟨w.heap.size, 0, none⟩) 2 2, .slice (some ⟨w.heap.size + 1 + 1, 0, none⟩) 1 1] 26)) (.slice (some ⟨w.heap.size + 1 + 1, 0, none⟩) 1 1) aw.evs ∧
    Nw w ((((w.alloc (.cells #[.string ⟨#[112]⟩, .string ⟨#[113]⟩] 9)).alloc (.cells #[.int .i64 1] 3)).alloc (.cells #[.int .u64 3, .slice (some ⟨w.heap.size + 1, 0, none⟩) 1 1] 39)).alloc (.cells #[.slice (some ⟨w.heap.size, 0, none⟩) 2 2, .slice (some ⟨w.heap.size + 1 + 1, 0, none⟩) 1 1] 26)) ∧
    ((((w.alloc (.cells #[.string ⟨#[112]⟩, .string ⟨#[113]⟩] 9)).alloc (.cells #[.int .i64 1] 3)).alloc (.cells #[.int .u64 3, .slice (some ⟨w.heap.size + 1, 0, none⟩) 1 1] 39)).alloc (.cells #[.slice (some ⟨w.heap.size, 0, none⟩) 2 2, .slice (some ⟨w.heap.size + 1 + 1, 0, none⟩) 1 1] 26)).cell? ⟨w.heap.size + 1 + 1 + 1, 0, none⟩ = some (.slice (some ⟨w.heap.size, 0, none⟩) 2 2) ∧
    ((((w.alloc (.cells #[.string ⟨#[112]⟩, .string ⟨#[113]⟩] 9)).alloc (.cells #[.int .i64 1] 3)).alloc (.cells #[.int .u64 3, .slice (some ⟨w.heap.size + 1, 0, none⟩) 1 1] 39)).alloc (.cells #[.slice (some ⟨w.heap.size, 0, none⟩) 2 2, .slice (some ⟨w.heap.size + 1 + 1, 0, none⟩) 1 1] 26)).cell? ⟨w.heap.size + 1 + 1 + 1, 1, none⟩ = some (.slice (some ⟨w.heap.size + 1 + 1, 0, none⟩) 1 1) := by
  have s1 := Sl.newAt w (Lx.strs aw.names) 9 (0, 0) w.heap.size 2 rfl rfl (by decide)
  have z1 := size_alloc w (.cells #[.string ⟨#[112]⟩, .string ⟨#[113]⟩] 9)
  change Sl (w.alloc (.cells #[.string ⟨#[112]⟩, .string ⟨#[113]⟩] 9)) _ _ at s1
  have n1 := (Nw.refl w).alloc (.cells #[.string ⟨#[112]⟩, .string ⟨#[113]⟩] 9)
  generalize w.alloc (.cells #[.string ⟨#[112]⟩, .string ⟨#[113]⟩] 9) = w1 at *
  have s2 := Sl.newAt w1 [.int .i64 1] 3 (0, 0) (w.heap.size + 1) 1 z1.symm rfl (by decide)
  change Sl (w1.alloc (.cells #[.int .i64 1] 3)) _ _ at s2
  have z2 := size_alloc w1 (.cells #[.int .i64 1] 3)
  have n2 := (Nw.refl w1).alloc (.cells #[.int .i64 1] 3)
  generalize w1.alloc (.cells #[.int .i64 1] 3) = w2 at *
  rw [z1] at z2
  have b3 := box2 w2 (.int .u64 3) (.slice (some ⟨w.heap.size + 1, 0, none⟩) 1 1) 39
  have z3 := size_alloc w2 (.cells #[.int .u64 3, .slice (some ⟨w.heap.size + 1, 0, none⟩) 1 1] 39)
  have n3 := (Nw.refl w2).alloc (.cells #[.int .u64 3, .slice (some ⟨w.heap.size + 1, 0, none⟩) 1 1] 39)
  generalize w2.alloc (.cells #[.int .u64 3, .slice (some ⟨w.heap.size + 1, 0, none⟩) 1 1] 39) = w3 at *
  rw [z2] at z3 b3
  have b4 := box2 w3 (.slice (some ⟨w.heap.size, 0, none⟩) 2 2) (.slice (some ⟨w.heap.size + 1 + 1, 0, none⟩) 1 1) 26
  have n4 := (Nw.refl w3).alloc (.cells #[.slice (some ⟨w.heap.size, 0, none⟩) 2 2, .slice (some ⟨w.heap.size + 1 + 1, 0, none⟩) 1 1] 26)
  generalize w3.alloc (.cells #[.slice (some ⟨w.heap.size, 0, none⟩) 2 2, .slice (some ⟨w.heap.size + 1 + 1, 0, none⟩) 1 1] 26) = w4 at *
  rw [z3] at b4
  refine ⟨s1.nw (n2.trans (n3.trans n4)), ⟨_, _, rfl, by decide, by decide, (fun h => by cases h), fun i hi => ?_⟩, n1.trans (n2.trans (n3.trans n4)), b4.1, b4.2⟩
  match i, hi with
  | 0, _ => exact ⟨_, 0, _, rfl, n4.cell b3.1, n4.cell b3.2, s2.nw (n3.trans n4)⟩
set_option maxRecDepth 20000 in
set_option maxHeartbeats 800000 in
theorem awake_c (w : World) : Calls Try.prog 17 #[] w (Gives (.bool true) w) := by
  have hrd := aw_reads w
  go_enter Try.func17, Try.ntmps17
  go_upto_region 2 with fail
  obtain ⟨h1, h2, hn, x0, x1⟩ := hrd
  generalize ((((w.alloc (.cells #[.string ⟨#[112]⟩, .string ⟨#[113]⟩] 9)).alloc (.cells #[.int .i64 1] 3)).alloc (.cells #[.int .u64 3, .slice (some ⟨w.heap.size + 1, 0, none⟩) 1 1] 39)).alloc (.cells #[.slice (some ⟨w.heap.size, 0, none⟩) 2 2, .slice (some ⟨w.heap.size + 1 + 1, 0, none⟩) 1 1] 26)) = w0 at *
  have g0 := World.block_lt_of_cell? w0 _ x0
  simp only at g0
  have HM := hid (fun w' (h : Nw w0 w') => show Calls Try.prog 24 #[.agg #[.slice (some ⟨w.heap.size, 0, none⟩) 2 2, .slice (some ⟨w.heap.size + 1 + 1, 0, none⟩) 1 1]] w' (Gives (.bool true) w') by
    have := may_c _ _ aw w' (h1.nw h) (h2.nw h) aw_small.s
    rwa [show mayP aw = true by decide +kernel] at this)
  have HQ := hid (fun w' (h : Nw w0 w') => show Calls Try.prog 26 #[.agg #[.slice (some ⟨w.heap.size, 0, none⟩) 2 2, .slice (some ⟨w.heap.size + 1 + 1, 0, none⟩) 1 1], .int .i64 0, .string ⟨#[113]⟩] w' (Gives (.bool true) w') by
    have := holds_c _ _ aw 0 ⟨#[113]⟩ w' (h1.nw h) (h2.nw h) aw_small
    rwa [show holdsP aw 0 ⟨#[113]⟩ = true by decide +kernel] at this)
  have HP := hid (fun w' (h : Nw w0 w') => show Calls Try.prog 26 #[.agg #[.slice (some ⟨w.heap.size, 0, none⟩) 2 2, .slice (some ⟨w.heap.size + 1 + 1, 0, none⟩) 1 1], .int .i64 0, .string ⟨#[112]⟩] w' (Gives (.bool false) w') by
    have := holds_c _ _ aw 0 ⟨#[112]⟩ w' (h1.nw h) (h2.nw h) aw_small
    rwa [show holdsP aw 0 ⟨#[112]⟩ = false by decide +kernel] at this)
  have HC := hid (fun w' (h : Nw w0 w') => cut_c _ _ aw 0 w' (h1.nw h) (h2.nw h) aw_small (by decide) (by decide))
  have hcs : Small (cutP aw 0) := by
    rw [show cutP aw 0 = ⟨aw.names, []⟩ from if_pos (by decide +kernel)]
    exact ⟨by decide, by decide, (fun i hi => by cases hi), aw_small.s⟩
  have HF := hid (fun u w' (h : Nw w0 w') (hu : TrR w' u (cutP aw 0)) => show Calls Try.prog 32 #[u, .agg #[.slice (some ⟨w.heap.size, 0, none⟩) 2 2, .slice (some ⟨w.heap.size + 1 + 1, 0, none⟩) 1 1]] w' (Gives (.bool true) w') by
    have := front_r u _ (cutP aw 0) aw w' hu ⟨_, _, rfl, h1.nw h, h2.nw h⟩ hcs aw_small
    rwa [show frontP (cutP aw 0) aw = true by decide +kernel] at this)
  clear h1 h2 hcs
  generalize cutP aw 0 = ct at *
  refine wp_region_stairs (by kernel_rfl) (by kernel_rfl) (by kernel_rfl) ?_
  iterate 13
    refine Stairs.is ?_ ?_ ?_
    rotate_left 1
    · intro x wR hR hd K hK
      simp only [Act.put, List.setIfInBounds_toArray, List.set_cons_zero, List.set_cons_succ, Nat.reduceAdd, List.length_nil, List.length_cons, List.nil_append, List.cons_append, Say.ok] at hK ⊢
      clear hd
      change Hid _ at hK
      obtain ⟨hcR, hfR, hzR⟩ := nwc hR
      first | (refine wanted_yes ?_ ?_; rfl) | (refine wanted_no ?_ ?_; rfl)
      go_wp2_with (first 
    | (go_at_call 24; refine (HM.out _ (by repeat (first | assumption | exact Nw.refl _ | refine Nw.alloc ?_ _ | refine Nw.drew ?_ | refine Nw.drewN2 ?_ _ | (refine Nw.trans ?_ (by assumption))))).mono ?_; rintro e w5 ⟨rfl, hn5⟩)
    | (go_at_call 26; (first | with_reducible refine (HQ.out _ ?_).mono ?_ | refine (HP.out _ ?_).mono ?_); exact (by repeat (first | assumption | exact Nw.refl _ | refine Nw.alloc ?_ _ | refine Nw.drew ?_ | refine Nw.drewN2 ?_ _ | (refine Nw.trans ?_ (by assumption)))); rintro e w5 ⟨rfl, hn5⟩)
    | (go_at_call 25; refine (HC.out _ (by repeat (first | assumption | exact Nw.refl _ | refine Nw.alloc ?_ _ | refine Nw.drew ?_ | refine Nw.drewN2 ?_ _ | (refine Nw.trans ?_ (by assumption))))).mono ?_; rintro e w5 ⟨v5, rfl, hr5, hn5⟩)
    | (go_at_call 32; refine (HF.out _ _ (by repeat (first | assumption | exact Nw.refl _ | refine Nw.alloc ?_ _ | refine Nw.drew ?_ | refine Nw.drewN2 ?_ _ | (refine Nw.trans ?_ (by assumption)))) (by first | exact hd | exact hd.1 | exact hd.2 | exact hd.2.1)).mono ?_; rintro e w5 ⟨rfl, hn5⟩))
      all_goals (refine hK.out _ _ ?_ ?_ <;> first | (solve | (repeat (first | assumption | exact Nw.refl _ | refine Nw.alloc ?_ _ | refine Nw.drew ?_ | refine Nw.drewN2 ?_ _ | (refine Nw.trans ?_ (by assumption))))) | exact rfl | exact hr5)
    try simp only [Act.put, List.setIfInBounds_toArray, List.set_cons_zero, List.set_cons_succ, Nat.reduceAdd, List.length_nil, List.length_cons, List.nil_append, List.cons_append]
  iterate 1
    refine Stairs.that (ReadsT ct) (by first | assumption | simp) ?_ ?_
    · intro x wR hR hd K hK
      simp only [Act.put, List.setIfInBounds_toArray, List.set_cons_zero, List.set_cons_succ, Nat.reduceAdd, List.length_nil, List.length_cons, List.nil_append, List.cons_append, Say.ok] at hK ⊢
      clear hd
      change Hid _ at hK
      obtain ⟨hcR, hfR, hzR⟩ := nwc hR
      first | (refine wanted_yes ?_ ?_; rfl) | (refine wanted_no ?_ ?_; rfl)
      go_wp2_with (first 
    | (go_at_call 24; refine (HM.out _ (by repeat (first | assumption | exact Nw.refl _ | refine Nw.alloc ?_ _ | refine Nw.drew ?_ | refine Nw.drewN2 ?_ _ | (refine Nw.trans ?_ (by assumption))))).mono ?_; rintro e w5 ⟨rfl, hn5⟩)
    | (go_at_call 26; (first | with_reducible refine (HQ.out _ ?_).mono ?_ | refine (HP.out _ ?_).mono ?_); exact (by repeat (first | assumption | exact Nw.refl _ | refine Nw.alloc ?_ _ | refine Nw.drew ?_ | refine Nw.drewN2 ?_ _ | (refine Nw.trans ?_ (by assumption)))); rintro e w5 ⟨rfl, hn5⟩)
    | (go_at_call 25; refine (HC.out _ (by repeat (first | assumption | exact Nw.refl _ | refine Nw.alloc ?_ _ | refine Nw.drew ?_ | refine Nw.drewN2 ?_ _ | (refine Nw.trans ?_ (by assumption))))).mono ?_; rintro e w5 ⟨v5, rfl, hr5, hn5⟩)
    | (go_at_call 32; refine (HF.out _ _ (by repeat (first | assumption | exact Nw.refl _ | refine Nw.alloc ?_ _ | refine Nw.drew ?_ | refine Nw.drewN2 ?_ _ | (refine Nw.trans ?_ (by assumption)))) (by first | exact hd | exact hd.1 | exact hd.2 | exact hd.2.1)).mono ?_; rintro e w5 ⟨rfl, hn5⟩))
      all_goals (refine hK.out _ _ ?_ ?_ <;> first | (solve | (repeat (first | assumption | exact Nw.refl _ | refine Nw.alloc ?_ _ | refine Nw.drew ?_ | refine Nw.drewN2 ?_ _ | (refine Nw.trans ?_ (by assumption))))) | exact rfl | exact hr5)
    try simp only [Act.put, List.setIfInBounds_toArray, List.set_cons_zero, List.set_cons_succ, Nat.reduceAdd, List.length_nil, List.length_cons, List.nil_append, List.cons_append]
  iterate 4
    refine Stairs.is ?_ ?_ ?_
    rotate_left 1
    · intro x wR hR hd K hK
      simp only [Act.put, List.setIfInBounds_toArray, List.set_cons_zero, List.set_cons_succ, Nat.reduceAdd, List.length_nil, List.length_cons, List.nil_append, List.cons_append, Say.ok] at hK ⊢
      try simp [Region.binds, sayAt, List.getD_cons_zero, List.getD_cons_succ, Say.ok, Vl] at hd
      try (first | have hs := str_ok hd | have hs := str_ok hd.2 | have hs := str_ok hd.1 | (obtain ⟨hd1, hd2, hd3⟩ := hd; first | have hs := str_ok hd1 | have hs := str_ok hd2 | have hs := str_ok hd3))
      change Hid _ at hK
      obtain ⟨hcR, hfR, hzR⟩ := nwc hR
      first | (refine wanted_yes ?_ ?_; rfl) | (refine wanted_no ?_ ?_; rfl)
      go_wp2_with (first 
    | (go_at_call 24; refine (HM.out _ (by repeat (first | assumption | exact Nw.refl _ | refine Nw.alloc ?_ _ | refine Nw.drew ?_ | refine Nw.drewN2 ?_ _ | (refine Nw.trans ?_ (by assumption))))).mono ?_; rintro e w5 ⟨rfl, hn5⟩)
    | (go_at_call 26; (first | with_reducible refine (HQ.out _ ?_).mono ?_ | refine (HP.out _ ?_).mono ?_); exact (by repeat (first | assumption | exact Nw.refl _ | refine Nw.alloc ?_ _ | refine Nw.drew ?_ | refine Nw.drewN2 ?_ _ | (refine Nw.trans ?_ (by assumption)))); rintro e w5 ⟨rfl, hn5⟩)
    | (go_at_call 25; refine (HC.out _ (by repeat (first | assumption | exact Nw.refl _ | refine Nw.alloc ?_ _ | refine Nw.drew ?_ | refine Nw.drewN2 ?_ _ | (refine Nw.trans ?_ (by assumption))))).mono ?_; rintro e w5 ⟨v5, rfl, hr5, hn5⟩)
    | (go_at_call 32; refine (HF.out _ _ (by repeat (first | assumption | exact Nw.refl _ | refine Nw.alloc ?_ _ | refine Nw.drew ?_ | refine Nw.drewN2 ?_ _ | (refine Nw.trans ?_ (by assumption)))) (by first | exact hd | exact hd.1 | exact hd.2 | exact hd.2.1)).mono ?_; rintro e w5 ⟨rfl, hn5⟩))
      all_goals (refine hK.out _ _ ?_ ?_ <;> first | (solve | (repeat (first | assumption | exact Nw.refl _ | refine Nw.alloc ?_ _ | refine Nw.drew ?_ | refine Nw.drewN2 ?_ _ | (refine Nw.trans ?_ (by assumption))))) | exact rfl | exact hr5)
    try simp only [Act.put, List.setIfInBounds_toArray, List.set_cons_zero, List.set_cons_succ, Nat.reduceAdd, List.length_nil, List.length_cons, List.nil_append, List.cons_append]
  refine Stairs.nil ?_
  intro x wR hR hx
  have h13 := hx 13 (by decide)
  simp only [sayAt, List.getD_cons_zero, List.getD_cons_succ, Say.ok, Vl] at h13
  clear hx
  obtain ⟨hcR, hfR, hzR⟩ := nwc hR
  go_wp2
  go_ret
  exact ⟨rfl, hn.trans hR⟩
end Tr
end Go.Proofs.Ytjelbfodkacipaa
namespace Go.Proofs.Ytjelbfodkacipaa
open Go.ChangeShapes Go.WideShapes Go.ChangeAt Go.RowKit
open Go.ChangeMaps (open_string shut_string)
namespace Tr
open Go.Proofs.Ytjelbfodkacipaa.Lx (isIn nameB strs_open strs_cell contains_c)
open Go.Proofs.Ytjelbfodkacipaa.Rec (rises i64s_open i64_cell)
section
variable {H : Type} {enc : TypeId × Value → H} {P : Program}
theorem choose_list {α β : Type} (d : β) (Q : α → β → Prop) : ∀ l : List α, (∀ x ∈ l, ∃ y, Q x y) → ∃ ys : List β, ys.length = l.length ∧ ∀ i (h : i < l.length), Q l[i] (ys.getD i d)
  | [], _ => ⟨[], rfl, fun i h => by cases h⟩
  | x :: r, h => by
    obtain ⟨y, hy⟩ := h x (by simp)
    obtain ⟨ys, h1, h2⟩ := choose_list d Q r (fun z hz => h z (by simp [hz]))
    refine ⟨y :: ys, by simp [h1], fun i hi => ?_⟩
    cases i with
    | zero => exact hy
    | succ i => exact h2 i (by simpa using hi)
theorem open_strs {t e : TypeId} {W : World} {base : Nat} {v : Value} {d : DataW H} {p : List MemPlace} (ht : P.underlying t = some (.slice e)) (he : P.underlying e = some .string) (hc : P.cellsOf e = 1)
    (hval : Value.okWide P W .any base t v) (hj : DataW.Trod enc P W 0 (fun _ => true) true t v d p) :
    ∃ l : List ByteArray, Sl W v (Lx.strs l) ∧ l.length ≤ Rows.uptoBulk d ∧ (∀ s ∈ l, s.size ≤ Rows.uptoBulk d) := by
  obtain ⟨a0, len, cap, rfl⟩ := okWide_slice ht hval
  obtain ⟨fuel, hf⟩ := hj
  exact open_strs_at (v := .slice a0 len cap) (y := (d, p)) ht he hc (by simpa [Value.cells] using hf)
theorem open_u16s {t e : TypeId} {W : World} {base : Nat} {v : Value} {d : DataW H} {p : List MemPlace} (ht : P.underlying t = some (.slice e)) (he : P.underlying e = some (.int .u16)) (hc : P.cellsOf e = 1)
    (hval : Value.okWide P W .any base t v) (hj : DataW.Trod enc P W 0 (fun _ => true) true t v d p) :
    ∃ zs : List Int, Sl W v (zs.map (.int .u16)) ∧ (∀ z ∈ zs, 0 ≤ z ∧ z ≤ 65535) ∧ zs.length ≤ Rows.uptoBulk d := by
  obtain ⟨zs, h1, h2, sp, h3⟩ := open_sl ht he hc hval hj
  exact ⟨zs, h1, fun z hz => bounds_u16 (h2 z hz), bulk_ints h3⟩
theorem open_ints_at {t e : TypeId} {W : World} {n : Nat} {v : Value} {y : DataW H × List MemPlace} (ht : P.underlying t = some (.slice e)) (he : P.underlying e = some (.int .i64)) (hc : P.cellsOf e = 1)
    (hf : DataW.trod enc P W 0 (fun _ => true) true n t [v] = some y) :
    ∃ zs : List Int, Sl W v (i64s zs) ∧ (∀ z ∈ zs, -9223372036854775808 ≤ z ∧ z ≤ 9223372036854775807) ∧ zs.length ≤ Rows.uptoBulk y.1 := by
  obtain ⟨d, p⟩ := y
  rcases open_ints ht he hc hf with ⟨hcs, hx⟩ | ⟨a, len', cap', zs, hcs, _, hl, hm, hz, hx, hcell, hwz⟩
  · simp at hcs
    subst hcs
    exact ⟨[], Sl.nil W, (fun z h => by cases h), Nat.zero_le _⟩
  · simp at hcs
    subst hcs
    simp only [Prod.mk.injEq] at hx
    simp only [if_true] at hz
    have hlen : (zs.take len').length = len' := by simp; omega
    refine ⟨zs.take len', ⟨some a, cap', by simp [i64s]; omega, by simp [i64s]; omega, hm, (fun h => by cases h), Cells.of_add fun i hi => ?_⟩, fun z h => bounds_i64 (hwz z (List.mem_of_mem_take h)), bulk_ints (k := .i64) (sp := lits .i64 (zs.drop len')) (Or.inl hx.1)⟩
    simp [i64s] at hi
    rw [hcell i (by omega)]
    simp [i64s, List.getElem?_eq_getElem (show i < zs.length by omega)]
/-- What is known of an event's number and ids. -/
def EvIn (b : Nat) (x : Int × List Int) : Prop := (0 ≤ x.1 ∧ x.1 < 18446744073709551616) ∧ (∀ z ∈ x.2, -9223372036854775808 ≤ z ∧ z ≤ 9223372036854775807) ∧ x.2.length ≤ b
theorem open_evs_at {t e e2 : TypeId} {f0 f1 : Field} {W : World} {n : Nat} {v : Value} {y : DataW H × List MemPlace} (ht : P.underlying t = some (.slice e)) (he : P.underlying e = some (.struct #[f0, f1]))
    (ce : P.cellsOf e = 2) (o0 : f0.offset = 0) (o1 : f1.offset = 1) (c0 : P.cellsOf f0.type = 1) (c1 : P.cellsOf f1.type = 1) (h0 : P.underlying f0.type = some (.int .u64)) (h1 : P.underlying f1.type = some (.slice e2)) (he2 : P.underlying e2 = some (.int .i64)) (hc2 : P.cellsOf e2 = 1)
    (hf : DataW.trod enc P W 0 (fun _ => true) true n t [v] = some y) :
    ∃ es : Es, Evs W v es ∧ es.length ≤ Rows.uptoBulk y.1 ∧ ∀ i, i < es.length → EvIn (Rows.uptoBulk y.1) (es.getD i (0, [])) := by
  obtain ⟨d, p⟩ := y
  rcases Deep.open_slice_pairs ht he ce o0 o1 c0 c1 hf with ⟨hcs, hx⟩ | ⟨a, len', cap', m, n, V0, V1, D0, D1, P0, P1, hcs, _, hl, hm, hmm, hx, hc⟩
  · simp at hcs
    subst hcs
    exact ⟨[], Evs.nil W, Nat.zero_le _, fun i h => by cases h⟩
  · simp at hcs
    subst hcs
    simp only [Prod.mk.injEq] at hx
    simp only [if_true] at hmm
    subst hmm
    obtain ⟨es, hl1, hes⟩ := choose_list (0, []) (fun (i : Nat) (x : Int × List Int) => V0 i = .int .u64 x.1 ∧ Sl W (V1 i) (i64s x.2) ∧ (0 ≤ x.1 ∧ x.1 < 18446744073709551616) ∧ (∀ z ∈ x.2, -9223372036854775808 ≤ z ∧ z ≤ 9223372036854775807) ∧ x.2.length ≤ Rows.uptoBulk (D1 i)) (List.range len') (fun i hi => by
      have hi' := List.mem_range.1 hi
      have := hc i (by omega)
      obtain ⟨k, hk, _, hw⟩ := DataW.trod_int h0 this.2.2.1
      obtain ⟨zs, k1, k2, k3⟩ := open_ints_at h1 he2 hc2 this.2.2.2
      have hb := bounds_u64 hw
      exact ⟨(k, zs), by simpa using hk, k1, ⟨hb.1, by omega⟩, k2, k3⟩)
    rw [List.length_range] at hl1
    have hbk : ∀ i, i < len' → Rows.uptoBulk (D1 i) ≤ Rows.uptoBulk d := fun i hi => by
      have h5 := bulk_mem ((List.range len').map fun i => DataW.agg [D0 i, D1 i]) (.agg [D0 i, D1 i]) (List.mem_map.2 ⟨i, List.mem_range.2 hi, rfl⟩)
      rw [hx.1]
      simp only [Rows.uptoBulk, Rows.uptoBulkAll] at h5 ⊢
      omega
    have hbl : len' ≤ Rows.uptoBulk d := by
      have h5 := bulk_len ((List.range len').map fun i => DataW.agg [D0 i, D1 i])
      rw [List.length_map, List.length_range] at h5
      rw [hx.1]
      simp only [Rows.uptoBulk]
      omega
    refine ⟨es, ⟨some a, m, by rw [hl1], by omega, hm, (fun h => by cases h), fun i hi => ?_⟩, by rw [hl1]; exact hbl, fun i hi => ?_⟩
    · rw [hl1] at hi
      have e0 := addr_add_of_cell (by have := (hc 0 (by omega)).1; simpa using this : W.cell? (a.add 0) = some (V0 0))
      obtain ⟨q1, q2, _⟩ := hes i (by simpa using hi)
      simp only [List.getElem_range] at q1 q2
      have := hc i (by omega)
      rw [e0, addr_add, addr_add] at this
      refine ⟨a.block, a.off, V1 i, by rw [← e0], ?_, ?_, q2⟩
      · have h6 := this.1
        rw [q1] at h6
        simpa [tm] using h6
      · rw [← Nat.add_assoc] at this
        simpa using this.2.1
    · rw [hl1] at hi
      obtain ⟨_, _, q3, q4, q5⟩ := hes i (by simpa using hi)
      simp only [List.getElem_range] at q3 q4 q5
      exact ⟨q3, q4, Nat.le_trans q5 (hbk i hi)⟩
/-- What is known of a trace that comes in. -/
structure In (b : Nat) (t : T) : Prop where
  n : t.names.length ≤ b
  e : t.evs.length ≤ b
  i : ∀ i, i < t.evs.length → EvIn b (t.evs.getD i (0, []))
  s : ∀ s ∈ t.names, s.size ≤ b
theorem In.small {b : Nat} {t : T} (h : In b t) (hb : b ≤ 1000000000) : Small t := ⟨Nat.le_trans h.n hb, Nat.le_trans h.e hb, fun i hi => Nat.le_trans (h.i i hi).2.2 hb, fun s hs => Nat.le_trans (h.s s hs) hb⟩
theorem open_trace {t e0 e1 e2 : TypeId} {f0 f1 g0 g1 : Field} {W : World} {base : Nat} {v : Value} {d : DataW H} {p : List MemPlace} (ht : P.underlying t = some (.struct #[f0, f1])) (hone : Deep.oneCellFields P #[f0, f1] = true) (hC : P.cellsOf t = 2)
    (hs : P.underlying f0.type = some (.slice e0)) (he0 : P.underlying e0 = some .string) (hc0 : P.cellsOf e0 = 1) (hv : P.underlying f1.type = some (.slice e1)) (he1 : P.underlying e1 = some (.struct #[g0, g1]))
    (ce : P.cellsOf e1 = 2) (o0 : g0.offset = 0) (o1 : g1.offset = 1) (c0 : P.cellsOf g0.type = 1) (c1 : P.cellsOf g1.type = 1) (h0 : P.underlying g0.type = some (.int .u64)) (h1 : P.underlying g1.type = some (.slice e2)) (he2 : P.underlying e2 = some (.int .i64)) (hc2 : P.cellsOf e2 = 1)
    (hval : Value.okWide P W .any base t v) (hj : DataW.Trod enc P W 0 (fun _ => true) true t v d p) :
    ∃ (vn ve : Value) (tr : T), v = .agg #[vn, ve] ∧ Sl W vn (Lx.strs tr.names) ∧ Evs W ve tr.evs ∧ In (Rows.uptoBulk d) tr ∧ True := by
  obtain ⟨v0, v1, y0, y1, m, rfl, rfl, rfl, h2, h3⟩ := Joins.open_agg2 ht hone hC hval hj
  obtain ⟨l, k1, k2, k3⟩ := open_strs_at hs he0 hc0 h2
  obtain ⟨es, k4, k5, k6⟩ := open_evs_at hv he1 ce o0 o1 c0 c1 h0 h1 he2 hc2 h3
  have hb0 : Rows.uptoBulk y0.1 ≤ Rows.uptoBulk (.agg [y0.1, y1.1]) := by simp only [Rows.uptoBulk, Rows.uptoBulkAll]; omega
  have hb1 : Rows.uptoBulk y1.1 ≤ Rows.uptoBulk (.agg [y0.1, y1.1]) := by simp only [Rows.uptoBulk, Rows.uptoBulkAll]; omega
  exact ⟨v0, v1, ⟨l, es⟩, rfl, k1, k4, ⟨Nat.le_trans k2 hb0, Nat.le_trans k5 hb1, fun i hi => ⟨(k6 i hi).1, (k6 i hi).2.1, Nat.le_trans (k6 i hi).2.2 hb1⟩, fun s hs => Nat.le_trans (k3 s hs) hb0⟩, trivial⟩
end
/-! ### TraceMays -/
theorem great_or (t : T) : greatP t = 0 ∨ greatP t = 1 := by unfold greatP; split <;> simp
set_option maxRecDepth 20000 in
set_option maxHeartbeats 3200000 in
theorem mays_walk (vl vi un ue vn ve : Value) (l : List ByteArray) (is : List Int) (props : Int) (a b : T) (i : Int) (s : ByteArray) (w : World) (hvl : Sl w vl (Lx.strs l)) (hll : l.length ≤ 1000000000) (hls : ∀ s ∈ l, s.size ≤ 1000000000) (hvi : Sl w vi (i64s is)) (hil : is.length ≤ 1000000000)
    (h1 : Sl w un (Lx.strs a.names)) (h2 : Evs w ue a.evs) (h3 : Sl w vn (Lx.strs b.names)) (h4 : Evs w ve b.evs) (ha : Small a) (hb : Small b) (hi1 : -9223372036854775808 ≤ i) (hi2 : i ≤ 9223372036854775807) :
    Calls Try.prog 3 #[vl, vi, .int .i64 props, .agg #[un, ue], .agg #[vn, ve], .int .i64 i, .string s] w fun e w' => e = .returned (.bool true) ∧ Nw w w' := by
  have HG := hid (fun w' (h : Nw w w') => great_c un ue a w' (h1.nw h) (h2.nw h))
  have HG2 := hid (fun w' (h : Nw w w') => great_c vn ve b w' (h3.nw h) (h4.nw h))
  have HN := hid (fun w' (h : Nw w w') => names_c vl l w' (hvl.nw h) hls)
  have HN2 := hid (fun w' (h : Nw w w') => rnames_c vl l w' (hvl.nw h) hls)
  have HI := hid (fun w' (h : Nw w w') => Rec.tids_c vi is props w' (hvi.nw h))
  have HI2 := hid (fun w' (h : Nw w w') => Rec.rids_c vi is props w' (hvi.nw h))
  have HT := hid (fun w' (h : Nw w w') => tells_c un ue vn ve a b i s w' (h1.nw h) (h2.nw h) (h3.nw h) (h4.nw h) ha hb hi1 hi2)
  have hga := great_or a
  have hgb := great_or b
  obtain ⟨p1, k1, rfl, _, _, _, _⟩ := strs_open h1
  obtain ⟨p2, k2, rfl, _, _, _, _⟩ := strs_open h3
  obtain ⟨p3, k3, rfl, _, _, _, _⟩ := h2
  obtain ⟨p4, k4, rfl, _, _, _, _⟩ := h4
  obtain ⟨p5, k5, rfl, _, _, _, _⟩ := strs_open hvl
  obtain ⟨p6, k6, rfl, _, _, _, _⟩ := i64s_open hvi
  clear ha hb h1 h3 hvl hvi hls hi1 hi2
  generalize greatP a = ga at *
  generalize greatP b = gb at *
  generalize namesP l = nl at *
  generalize rises is props = ri at *
  generalize a.names.length = na at *
  generalize b.names.length = nb at *
  generalize a.evs.length = ea at *
  generalize b.evs.length = eb at *
  generalize l.length = ll at *
  generalize is.length = li at *
  go_enter Try.func3, Try.ntmps3
  go_upto_region 1 with fail
  obtain ⟨x0, x1, y4, hn, hz4⟩ := boxes w (.slice p1 na k1) (.slice p3 ea k3) (.slice p2 nb k2) (.slice p4 eb k4) 26 26
  have y0 := heap_cell y4 0
  have y1 := heap_cell y4 1
  simp only [List.getElem?_toArray, List.getElem?_cons_succ, List.getElem?_cons_zero] at y0 y1
  clear y4
  generalize ((w.alloc (.cells #[.slice p1 na k1, .slice p3 ea k3] 26)).alloc (.cells #[.slice p2 nb k2, .slice p4 eb k4] 26)) = w0 at *
  have hz0 : w.heap.size < w0.heap.size := by omega
  have hz1 : w.heap.size + 1 < w0.heap.size := by omega
  clear hz4
  by_cases c1 : 200 < ll
  · have d1 : decide ((200 : Int) < ll) = true := decide_eq_true (by omega)
    clear c1
    go_wp2_with (first
      | (go_at_call 16; (first | with_reducible refine (HG.out _ ?_).mono ?_ | refine (HG2.out _ ?_).mono ?_); exact (by repeat (first | assumption | exact Nw.refl _ | refine Nw.alloc ?_ _ | refine Nw.drew ?_ | refine Nw.drewN2 ?_ _ | (refine Nw.trans ?_ (by assumption)))); rintro e w1 ⟨rfl, hn1⟩; have x0 := hn1.cell x0; have x1 := hn1.cell x1; have y0 := hn1.cell y0; have y1 := hn1.cell y1; have hz0 := Nat.lt_of_lt_of_le hz0 hn1.size; have hz1 := Nat.lt_of_lt_of_le hz1 hn1.size)
      | (go_at_call 17; refine (awake_c _).mono ?_; rintro e w1 ⟨rfl, hn1⟩)
      | (go_at_call 18; refine (HN.out _ (by repeat (first | assumption | exact Nw.refl _ | refine Nw.alloc ?_ _ | refine Nw.drew ?_ | refine Nw.drewN2 ?_ _ | (refine Nw.trans ?_ (by assumption))))).mono ?_; rintro e w1 ⟨rfl, hn1⟩; have x0 := hn1.cell x0; have x1 := hn1.cell x1; have y0 := hn1.cell y0; have y1 := hn1.cell y1; have hz0 := Nat.lt_of_lt_of_le hz0 hn1.size; have hz1 := Nat.lt_of_lt_of_le hz1 hn1.size)
      | (go_at_call 19; refine (HN2.out _ (by repeat (first | assumption | exact Nw.refl _ | refine Nw.alloc ?_ _ | refine Nw.drew ?_ | refine Nw.drewN2 ?_ _ | (refine Nw.trans ?_ (by assumption))))).mono ?_; rintro e w1 ⟨rfl, hn1⟩; have x0 := hn1.cell x0; have x1 := hn1.cell x1; have y0 := hn1.cell y0; have y1 := hn1.cell y1; have hz0 := Nat.lt_of_lt_of_le hz0 hn1.size; have hz1 := Nat.lt_of_lt_of_le hz1 hn1.size)
      | (go_at_call 20; refine (HI.out _ (by repeat (first | assumption | exact Nw.refl _ | refine Nw.alloc ?_ _ | refine Nw.drew ?_ | refine Nw.drewN2 ?_ _ | (refine Nw.trans ?_ (by assumption))))).mono ?_; rintro e w1 ⟨rfl, hn1⟩; have x0 := hn1.cell x0; have x1 := hn1.cell x1; have y0 := hn1.cell y0; have y1 := hn1.cell y1; have hz0 := Nat.lt_of_lt_of_le hz0 hn1.size; have hz1 := Nat.lt_of_lt_of_le hz1 hn1.size)
      | (go_at_call 21; refine (HI2.out _ (by repeat (first | assumption | exact Nw.refl _ | refine Nw.alloc ?_ _ | refine Nw.drew ?_ | refine Nw.drewN2 ?_ _ | (refine Nw.trans ?_ (by assumption))))).mono ?_; rintro e w1 ⟨rfl, hn1⟩; have x0 := hn1.cell x0; have x1 := hn1.cell x1; have y0 := hn1.cell y0; have y1 := hn1.cell y1; have hz0 := Nat.lt_of_lt_of_le hz0 hn1.size; have hz1 := Nat.lt_of_lt_of_le hz1 hn1.size)
      | (go_at_call 22; refine (HT.out _ (by repeat (first | assumption | exact Nw.refl _ | refine Nw.alloc ?_ _ | refine Nw.drew ?_ | refine Nw.drewN2 ?_ _ | (refine Nw.trans ?_ (by assumption))))).mono ?_; rintro e w1 ⟨rfl, hn1⟩; have x0 := hn1.cell x0; have x1 := hn1.cell x1; have y0 := hn1.cell y0; have y1 := hn1.cell y1; have hz0 := Nat.lt_of_lt_of_le hz0 hn1.size; have hz1 := Nat.lt_of_lt_of_le hz1 hn1.size)
      | fail)
    go_ret
    exact ⟨rfl, (by repeat (first | assumption | exact Nw.refl _ | refine Nw.alloc ?_ _ | refine Nw.drew ?_ | refine Nw.drewN2 ?_ _ | (refine Nw.trans ?_ (by assumption))))⟩
  · have d1 : decide ((200 : Int) < ll) = false := decide_eq_false (by omega)
    clear c1
    by_cases c2 : 200 < li
    · have d2 : decide ((200 : Int) < li) = true := decide_eq_true (by omega)
      clear c2
      go_wp2_with (first
        | (go_at_call 16; (first | with_reducible refine (HG.out _ ?_).mono ?_ | refine (HG2.out _ ?_).mono ?_); exact (by repeat (first | assumption | exact Nw.refl _ | refine Nw.alloc ?_ _ | refine Nw.drew ?_ | refine Nw.drewN2 ?_ _ | (refine Nw.trans ?_ (by assumption)))); rintro e w1 ⟨rfl, hn1⟩; have x0 := hn1.cell x0; have x1 := hn1.cell x1; have y0 := hn1.cell y0; have y1 := hn1.cell y1; have hz0 := Nat.lt_of_lt_of_le hz0 hn1.size; have hz1 := Nat.lt_of_lt_of_le hz1 hn1.size)
        | (go_at_call 17; refine (awake_c _).mono ?_; rintro e w1 ⟨rfl, hn1⟩)
        | (go_at_call 18; refine (HN.out _ (by repeat (first | assumption | exact Nw.refl _ | refine Nw.alloc ?_ _ | refine Nw.drew ?_ | refine Nw.drewN2 ?_ _ | (refine Nw.trans ?_ (by assumption))))).mono ?_; rintro e w1 ⟨rfl, hn1⟩; have x0 := hn1.cell x0; have x1 := hn1.cell x1; have y0 := hn1.cell y0; have y1 := hn1.cell y1; have hz0 := Nat.lt_of_lt_of_le hz0 hn1.size; have hz1 := Nat.lt_of_lt_of_le hz1 hn1.size)
        | (go_at_call 19; refine (HN2.out _ (by repeat (first | assumption | exact Nw.refl _ | refine Nw.alloc ?_ _ | refine Nw.drew ?_ | refine Nw.drewN2 ?_ _ | (refine Nw.trans ?_ (by assumption))))).mono ?_; rintro e w1 ⟨rfl, hn1⟩; have x0 := hn1.cell x0; have x1 := hn1.cell x1; have y0 := hn1.cell y0; have y1 := hn1.cell y1; have hz0 := Nat.lt_of_lt_of_le hz0 hn1.size; have hz1 := Nat.lt_of_lt_of_le hz1 hn1.size)
        | (go_at_call 20; refine (HI.out _ (by repeat (first | assumption | exact Nw.refl _ | refine Nw.alloc ?_ _ | refine Nw.drew ?_ | refine Nw.drewN2 ?_ _ | (refine Nw.trans ?_ (by assumption))))).mono ?_; rintro e w1 ⟨rfl, hn1⟩; have x0 := hn1.cell x0; have x1 := hn1.cell x1; have y0 := hn1.cell y0; have y1 := hn1.cell y1; have hz0 := Nat.lt_of_lt_of_le hz0 hn1.size; have hz1 := Nat.lt_of_lt_of_le hz1 hn1.size)
        | (go_at_call 21; refine (HI2.out _ (by repeat (first | assumption | exact Nw.refl _ | refine Nw.alloc ?_ _ | refine Nw.drew ?_ | refine Nw.drewN2 ?_ _ | (refine Nw.trans ?_ (by assumption))))).mono ?_; rintro e w1 ⟨rfl, hn1⟩; have x0 := hn1.cell x0; have x1 := hn1.cell x1; have y0 := hn1.cell y0; have y1 := hn1.cell y1; have hz0 := Nat.lt_of_lt_of_le hz0 hn1.size; have hz1 := Nat.lt_of_lt_of_le hz1 hn1.size)
        | (go_at_call 22; refine (HT.out _ (by repeat (first | assumption | exact Nw.refl _ | refine Nw.alloc ?_ _ | refine Nw.drew ?_ | refine Nw.drewN2 ?_ _ | (refine Nw.trans ?_ (by assumption))))).mono ?_; rintro e w1 ⟨rfl, hn1⟩; have x0 := hn1.cell x0; have x1 := hn1.cell x1; have y0 := hn1.cell y0; have y1 := hn1.cell y1; have hz0 := Nat.lt_of_lt_of_le hz0 hn1.size; have hz1 := Nat.lt_of_lt_of_le hz1 hn1.size)
        | fail)
      go_ret
      exact ⟨rfl, (by repeat (first | assumption | exact Nw.refl _ | refine Nw.alloc ?_ _ | refine Nw.drew ?_ | refine Nw.drewN2 ?_ _ | (refine Nw.trans ?_ (by assumption))))⟩
    · have d2 : decide ((200 : Int) < li) = false := decide_eq_false (by omega)
      clear c2
      rcases hga with rfl | rfl
      · rcases hgb with rfl | rfl
        all_goals
          go_wp2_with (first
            | (go_at_call 16; (first | with_reducible refine (HG.out _ ?_).mono ?_ | refine (HG2.out _ ?_).mono ?_); exact (by repeat (first | assumption | exact Nw.refl _ | refine Nw.alloc ?_ _ | refine Nw.drew ?_ | refine Nw.drewN2 ?_ _ | (refine Nw.trans ?_ (by assumption)))); rintro e w1 ⟨rfl, hn1⟩; have x0 := hn1.cell x0; have x1 := hn1.cell x1; have y0 := hn1.cell y0; have y1 := hn1.cell y1; have hz0 := Nat.lt_of_lt_of_le hz0 hn1.size; have hz1 := Nat.lt_of_lt_of_le hz1 hn1.size)
            | (go_at_call 17; refine (awake_c _).mono ?_; rintro e w1 ⟨rfl, hn1⟩)
            | (go_at_call 18; refine (HN.out _ (by repeat (first | assumption | exact Nw.refl _ | refine Nw.alloc ?_ _ | refine Nw.drew ?_ | refine Nw.drewN2 ?_ _ | (refine Nw.trans ?_ (by assumption))))).mono ?_; rintro e w1 ⟨rfl, hn1⟩; have x0 := hn1.cell x0; have x1 := hn1.cell x1; have y0 := hn1.cell y0; have y1 := hn1.cell y1; have hz0 := Nat.lt_of_lt_of_le hz0 hn1.size; have hz1 := Nat.lt_of_lt_of_le hz1 hn1.size)
            | (go_at_call 19; refine (HN2.out _ (by repeat (first | assumption | exact Nw.refl _ | refine Nw.alloc ?_ _ | refine Nw.drew ?_ | refine Nw.drewN2 ?_ _ | (refine Nw.trans ?_ (by assumption))))).mono ?_; rintro e w1 ⟨rfl, hn1⟩; have x0 := hn1.cell x0; have x1 := hn1.cell x1; have y0 := hn1.cell y0; have y1 := hn1.cell y1; have hz0 := Nat.lt_of_lt_of_le hz0 hn1.size; have hz1 := Nat.lt_of_lt_of_le hz1 hn1.size)
            | (go_at_call 20; refine (HI.out _ (by repeat (first | assumption | exact Nw.refl _ | refine Nw.alloc ?_ _ | refine Nw.drew ?_ | refine Nw.drewN2 ?_ _ | (refine Nw.trans ?_ (by assumption))))).mono ?_; rintro e w1 ⟨rfl, hn1⟩; have x0 := hn1.cell x0; have x1 := hn1.cell x1; have y0 := hn1.cell y0; have y1 := hn1.cell y1; have hz0 := Nat.lt_of_lt_of_le hz0 hn1.size; have hz1 := Nat.lt_of_lt_of_le hz1 hn1.size)
            | (go_at_call 21; refine (HI2.out _ (by repeat (first | assumption | exact Nw.refl _ | refine Nw.alloc ?_ _ | refine Nw.drew ?_ | refine Nw.drewN2 ?_ _ | (refine Nw.trans ?_ (by assumption))))).mono ?_; rintro e w1 ⟨rfl, hn1⟩; have x0 := hn1.cell x0; have x1 := hn1.cell x1; have y0 := hn1.cell y0; have y1 := hn1.cell y1; have hz0 := Nat.lt_of_lt_of_le hz0 hn1.size; have hz1 := Nat.lt_of_lt_of_le hz1 hn1.size)
            | (go_at_call 22; refine (HT.out _ (by repeat (first | assumption | exact Nw.refl _ | refine Nw.alloc ?_ _ | refine Nw.drew ?_ | refine Nw.drewN2 ?_ _ | (refine Nw.trans ?_ (by assumption))))).mono ?_; rintro e w1 ⟨rfl, hn1⟩; have x0 := hn1.cell x0; have x1 := hn1.cell x1; have y0 := hn1.cell y0; have y1 := hn1.cell y1; have hz0 := Nat.lt_of_lt_of_le hz0 hn1.size; have hz1 := Nat.lt_of_lt_of_le hz1 hn1.size)
            | fail)
          go_ret
          exact ⟨rfl, (by repeat (first | assumption | exact Nw.refl _ | refine Nw.alloc ?_ _ | refine Nw.drew ?_ | refine Nw.drewN2 ?_ _ | (refine Nw.trans ?_ (by assumption))))⟩
      · clear hgb
        go_wp2_with (first
          | (go_at_call 16; (first | with_reducible refine (HG.out _ ?_).mono ?_ | refine (HG2.out _ ?_).mono ?_); exact (by repeat (first | assumption | exact Nw.refl _ | refine Nw.alloc ?_ _ | refine Nw.drew ?_ | refine Nw.drewN2 ?_ _ | (refine Nw.trans ?_ (by assumption)))); rintro e w1 ⟨rfl, hn1⟩; have x0 := hn1.cell x0; have x1 := hn1.cell x1; have y0 := hn1.cell y0; have y1 := hn1.cell y1; have hz0 := Nat.lt_of_lt_of_le hz0 hn1.size; have hz1 := Nat.lt_of_lt_of_le hz1 hn1.size)
          | (go_at_call 17; refine (awake_c _).mono ?_; rintro e w1 ⟨rfl, hn1⟩)
          | (go_at_call 18; refine (HN.out _ (by repeat (first | assumption | exact Nw.refl _ | refine Nw.alloc ?_ _ | refine Nw.drew ?_ | refine Nw.drewN2 ?_ _ | (refine Nw.trans ?_ (by assumption))))).mono ?_; rintro e w1 ⟨rfl, hn1⟩; have x0 := hn1.cell x0; have x1 := hn1.cell x1; have y0 := hn1.cell y0; have y1 := hn1.cell y1; have hz0 := Nat.lt_of_lt_of_le hz0 hn1.size; have hz1 := Nat.lt_of_lt_of_le hz1 hn1.size)
          | (go_at_call 19; refine (HN2.out _ (by repeat (first | assumption | exact Nw.refl _ | refine Nw.alloc ?_ _ | refine Nw.drew ?_ | refine Nw.drewN2 ?_ _ | (refine Nw.trans ?_ (by assumption))))).mono ?_; rintro e w1 ⟨rfl, hn1⟩; have x0 := hn1.cell x0; have x1 := hn1.cell x1; have y0 := hn1.cell y0; have y1 := hn1.cell y1; have hz0 := Nat.lt_of_lt_of_le hz0 hn1.size; have hz1 := Nat.lt_of_lt_of_le hz1 hn1.size)
          | (go_at_call 20; refine (HI.out _ (by repeat (first | assumption | exact Nw.refl _ | refine Nw.alloc ?_ _ | refine Nw.drew ?_ | refine Nw.drewN2 ?_ _ | (refine Nw.trans ?_ (by assumption))))).mono ?_; rintro e w1 ⟨rfl, hn1⟩; have x0 := hn1.cell x0; have x1 := hn1.cell x1; have y0 := hn1.cell y0; have y1 := hn1.cell y1; have hz0 := Nat.lt_of_lt_of_le hz0 hn1.size; have hz1 := Nat.lt_of_lt_of_le hz1 hn1.size)
          | (go_at_call 21; refine (HI2.out _ (by repeat (first | assumption | exact Nw.refl _ | refine Nw.alloc ?_ _ | refine Nw.drew ?_ | refine Nw.drewN2 ?_ _ | (refine Nw.trans ?_ (by assumption))))).mono ?_; rintro e w1 ⟨rfl, hn1⟩; have x0 := hn1.cell x0; have x1 := hn1.cell x1; have y0 := hn1.cell y0; have y1 := hn1.cell y1; have hz0 := Nat.lt_of_lt_of_le hz0 hn1.size; have hz1 := Nat.lt_of_lt_of_le hz1 hn1.size)
          | (go_at_call 22; refine (HT.out _ (by repeat (first | assumption | exact Nw.refl _ | refine Nw.alloc ?_ _ | refine Nw.drew ?_ | refine Nw.drewN2 ?_ _ | (refine Nw.trans ?_ (by assumption))))).mono ?_; rintro e w1 ⟨rfl, hn1⟩; have x0 := hn1.cell x0; have x1 := hn1.cell x1; have y0 := hn1.cell y0; have y1 := hn1.cell y1; have hz0 := Nat.lt_of_lt_of_le hz0 hn1.size; have hz1 := Nat.lt_of_lt_of_le hz1 hn1.size)
          | fail)
        go_ret
        exact ⟨rfl, (by repeat (first | assumption | exact Nw.refl _ | refine Nw.alloc ?_ _ | refine Nw.drew ?_ | refine Nw.drewN2 ?_ _ | (refine Nw.trans ?_ (by assumption))))⟩
end Tr
end Go.Proofs.Ytjelbfodkacipaa
namespace Go.Proofs.Ytjelbfodkacipaa
open Go.ChangeShapes Go.WideShapes Go.ChangeAt Go.RowKit
namespace Tr
open Go.Proofs.Ytjelbfodkacipaa.Lx (isIn nameB strs_open strs_cell contains_c)
open Go.Proofs.Ytjelbfodkacipaa.Rec (rises i64s_open i64_cell)
def id3To (n k : Nat) : List Int := ((List.range k).filter fun i => decide (n / 2 ^ i % 2 = 1)).map fun i : Nat => (i : Int)
def id3 (n : Nat) : List Int := id3To n 3
theorem id3_succ (n k : Nat) : id3To n (k + 1) = id3To n k ++ (if decide (n / 2 ^ k % 2 = 1) = true then [(k : Int)] else []) := by
  unfold id3To
  rw [List.range_succ, List.filter_append, List.map_append]
  congr 1
  by_cases h : n / 2 ^ k % 2 = 1
  · simp [h]
  · simp [h]
theorem id3_len (n k : Nat) : (id3To n k).length ≤ k := by
  unfold id3To
  rw [List.length_map]
  have := List.length_filter_le (fun i => decide (n / 2 ^ i % 2 = 1)) (List.range k)
  simpa using this
theorem bit3 : ∀ n : Nat, n < 8 → ∀ j : Nat, j < 3 → (bits .and .u16 ((n : Int) / 2 ^ j) 1 == 1) = decide (n / 2 ^ j % 2 = 1) := by decide +kernel
set_option maxRecDepth 20000 in
theorem ids_c (m : Int) (n : Nat) (hm : m = (n : Int)) (hn8 : n < 8) (w : World) : Calls Try.prog 48 #[.int .u16 m] w (Hands 3 w (i64s (id3 n))) := by
  subst hm
  go_enter Try.func48, Try.ntmps48
  go_wp2
  go_loopw [3, 4, 5] (fun v _ i wr => ∃ j : Nat, j ≤ 3 ∧ i = .int .i64 j ∧ Own wr w.heap.size 3 v (i64s (id3To n j)) ∧ Nw w wr) (fun _ _ i _ => 3 - (intOf i).toNat)
  case atStart => exact ⟨0, by omega, rfl, Own.nil _ _ _, Nw.refl _⟩
  case round =>
    obtain ⟨j, hj, rfl, hown, hn⟩ := hrel
    obtain ⟨pv, cv, rfl, hcv, hmv, _⟩ := i64s_open hown.sl
    have HO := hid hown
    have hll := id3_len n j
    clear hown
    by_cases hlt : j < 3
    · have hdj : decide ((j : Int) < 3) = true := decide_eq_true (by omega)
      have HB := hid (bit3 n hn8 j hlt)
      have HS := hid (id3_succ n j)
      cases hb : decide (n / 2 ^ j % 2 = 1) with
      | true =>
        rw [hb] at HB HS
        have hbb : (bits .and .u16 ((n : Int) / 2 ^ j) 1 == 1) = true := HB.out
        clear hb
        generalize id3To n j = ij at *
        go_wp2_with (first
          | ((at_builtin; refine app1 rfl _ _ _ rfl _ _ _ Try.underlying23 info_i64 rfl (by decide) (hn.alloc _) (HO.out.nw ((Nw.refl _).alloc _)) rfl (Sl.new wr [_] _ _ (by simp [maxLen])) rfl (by simp [Value.oneCell']) ?_ ?_; rotate_left; (simp only [i64s_length, List.length_cons, List.length_nil]; omega); intro v1 w1 hown1 hg1 hn1))
          | fail)
        go_roundw
        case rel => exact ⟨j + 1, by omega, by go_num, by rw [HS.out, if_pos rfl]; simpa [i64s] using hown1, hn1⟩
        case measure => simp [intOf]; omega
      | false =>
        rw [hb] at HB HS
        have hbb : (bits .and .u16 ((n : Int) / 2 ^ j) 1 == 1) = false := HB.out
        clear hb
        generalize id3To n j = ij at *
        go_wp2
        go_roundw
        case rel => exact ⟨j + 1, by omega, by go_num, by rw [HS.out]; simpa using HO.out, hn⟩
        case measure => simp [intOf]; omega
    · obtain rfl : j = 3 := by omega
      have hdj : decide ((3 : Int) < 3) = false := rfl
      go_wp2
      go_ret
      exact ⟨_, rfl, HO.out, hn⟩
/-! ### What Make makes -/
def u16s (ns : List Nat) : List Value := ns.map fun n : Nat => Value.int .u16 (n : Int)
theorem u16s_length (ns : List Nat) : (u16s ns).length = ns.length := by simp [u16s]
theorem u16_cell {w : World} {p : Option Addr} {l : List Nat} (h : Cells w p (u16s l)) (i : Nat) (hi : i < l.length) :
    ∃ b off, p = some ⟨b, off, none⟩ ∧ w.cell? ⟨b, off + i, none⟩ = some (.int .u16 ((l.getD i 0 : Nat) : Int)) := by
  obtain ⟨b, off, e, h⟩ := h i (by rw [u16s_length]; exact hi)
  refine ⟨b, off, e, ?_⟩
  rw [h]; simp [u16s, List.getD_eq_getElem?_getD, hi]
theorem u16s_of (zs : List Int) (h : ∀ z ∈ zs, 0 ≤ z ∧ z ≤ 65535) : ∃ ns : List Nat, zs.map (Value.int .u16) = u16s ns ∧ (∀ n ∈ ns, n ≤ 65535) ∧ ns.length = zs.length := by
  refine ⟨zs.map Int.toNat, ?_, fun n hn => ?_, by simp⟩
  · unfold u16s
    rw [List.map_map]
    refine List.map_congr_left fun z hz => ?_
    have := h z hz
    simp only [Function.comp_apply]
    congr 1; omega
  · obtain ⟨z, hz, rfl⟩ := List.mem_map.1 hn
    have := h z hz
    omega
def pqr : List ByteArray := [⟨#[112]⟩, ⟨#[113]⟩, ⟨#[114]⟩]
def dOf (n : Nat) : Nat := if 65000 ≤ n then 1125899906842624 else if n / 32 % 32 = 31 then 3000 else n / 8 % 4
def stp (s : Int × Es) (n : Nat) : Int × Es := (s.1 + dOf n, s.2 ++ [(s.1 + dOf n, id3 (n % 8))])
def runM (start : Int) (ns : List Nat) : Int × Es := ns.foldl stp (min start 9223372036854775808, [])
def makeP (start : Int) (ns : List Nat) : T := ⟨pqr, (runM start (ns.take 60)).2⟩
theorem runM_snoc (start : Int) (ns : List Nat) (n : Nat) : runM start (ns ++ [n]) = stp (runM start ns) n := by simp [runM]
theorem dOf_le (n : Nat) : dOf n ≤ 1125899906842624 := by
  unfold dOf
  split
  · omega
  · split <;> omega
theorem fold_facts (ns : List Nat) : ∀ s : Int × Es, 0 ≤ s.1 → 0 ≤ (ns.foldl stp s).1 ∧ (ns.foldl stp s).1 ≤ s.1 + ns.length * 1125899906842624 ∧ (ns.foldl stp s).2.length = s.2.length + ns.length := by
  induction ns with
  | nil => intro s h; simp; omega
  | cons n r ih =>
    intro s h
    have h1 := dOf_le n
    have h2 := ih (stp s n) (by simp only [stp]; omega)
    simp only [List.foldl_cons, List.length_cons]
    simp only [stp, List.length_append, List.length_singleton] at h2 ⊢
    omega
theorem runM_facts (start : Int) (h0 : 0 ≤ start) (ns : List Nat) : 0 ≤ (runM start ns).1 ∧ (runM start ns).1 ≤ 9223372036854775808 + ns.length * 1125899906842624 ∧ (runM start ns).2.length = ns.length := by
  have := fold_facts ns (min start 9223372036854775808, []) (by simp only; omega)
  unfold runM
  simp only [List.length_nil] at this
  omega
theorem runM_at (start : Int) (ns : List Nat) (k : Nat) (hk : k < ns.length) : runM start (ns.take (k + 1)) = stp (runM start (ns.take k)) (ns.getD k 0) := by
  rw [List.take_add_one, List.getElem?_eq_getElem hk, Option.toList_some, runM_snoc]
  simp [List.getD_eq_getElem?_getD, hk]
/-! ### The walk -/
theorem pqr_new (w : World) (g : Nat) (hg : g = w.heap.size) : Sl (w.alloc (.cells #[.string ⟨#[112]⟩, .string ⟨#[113]⟩, .string ⟨#[114]⟩] 9)) (.slice (some ⟨g, 0, none⟩) 3 3) (Lx.strs pqr) :=
  Sl.newAt w (Lx.strs pqr) 9 (0, 0) g 3 hg rfl (by decide)
/-- Blocks ahead of the loop: what is handed back, the names, the trace that is filled. -/
theorem make_start (w : World) : (((w.alloc (.cells #[.slice none 0 0, .slice none 0 0] 26)).alloc (.cells #[.string ⟨#[112]⟩, .string ⟨#[113]⟩, .string ⟨#[114]⟩] 9)).alloc (.cells #[.slice (some ⟨w.heap.size + 1, 0, none⟩) 3 3, .slice none 0 0] 26)).heap[w.heap.size]? = some (.cells #[.slice none 0 0, .slice none 0 0] 26 (0, 0)) ∧
    (((w.alloc (.cells #[.slice none 0 0, .slice none 0 0] 26)).alloc (.cells #[.string ⟨#[112]⟩, .string ⟨#[113]⟩, .string ⟨#[114]⟩] 9)).alloc (.cells #[.slice (some ⟨w.heap.size + 1, 0, none⟩) 3 3, .slice none 0 0] 26)).heap[w.heap.size + 1 + 1]? = some (.cells #[.slice (some ⟨w.heap.size + 1, 0, none⟩) 3 3, .slice none 0 0] 26 (0, 0)) ∧
    Sl (((w.alloc (.cells #[.slice none 0 0, .slice none 0 0] 26)).alloc (.cells #[.string ⟨#[112]⟩, .string ⟨#[113]⟩, .string ⟨#[114]⟩] 9)).alloc (.cells #[.slice (some ⟨w.heap.size + 1, 0, none⟩) 3 3, .slice none 0 0] 26)) (.slice (some ⟨w.heap.size + 1, 0, none⟩) 3 3) (Lx.strs pqr) ∧
    Nw w (((w.alloc (.cells #[.slice none 0 0, .slice none 0 0] 26)).alloc (.cells #[.string ⟨#[112]⟩, .string ⟨#[113]⟩, .string ⟨#[114]⟩] 9)).alloc (.cells #[.slice (some ⟨w.heap.size + 1, 0, none⟩) 3 3, .slice none 0 0] 26)) ∧
    (((w.alloc (.cells #[.slice none 0 0, .slice none 0 0] 26)).alloc (.cells #[.string ⟨#[112]⟩, .string ⟨#[113]⟩, .string ⟨#[114]⟩] 9)).alloc (.cells #[.slice (some ⟨w.heap.size + 1, 0, none⟩) 3 3, .slice none 0 0] 26)).heap.size = w.heap.size + 1 + 1 + 1 := by
  have y1 := heap_new w (.cells #[.slice none 0 0, .slice none 0 0] 26)
  have z1 := size_alloc w (.cells #[.slice none 0 0, .slice none 0 0] 26)
  have n1 := (Nw.refl w).alloc (.cells #[.slice none 0 0, .slice none 0 0] 26)
  generalize w.alloc (.cells #[.slice none 0 0, .slice none 0 0] 26) = w1 at *
  have s2 := pqr_new w1 (w.heap.size + 1) z1.symm
  have z2 := size_alloc w1 (.cells #[.string ⟨#[112]⟩, .string ⟨#[113]⟩, .string ⟨#[114]⟩] 9)
  have n2 := (Nw.refl w1).alloc (.cells #[.string ⟨#[112]⟩, .string ⟨#[113]⟩, .string ⟨#[114]⟩] 9)
  generalize w1.alloc (.cells #[.string ⟨#[112]⟩, .string ⟨#[113]⟩, .string ⟨#[114]⟩] 9) = w2 at *
  rw [z1] at z2
  have y3 := heap_new w2 (.cells #[.slice (some ⟨w.heap.size + 1, 0, none⟩) 3 3, .slice none 0 0] 26)
  have z3 := size_alloc w2 (.cells #[.slice (some ⟨w.heap.size + 1, 0, none⟩) 3 3, .slice none 0 0] 26)
  have n3 := (Nw.refl w2).alloc (.cells #[.slice (some ⟨w.heap.size + 1, 0, none⟩) 3 3, .slice none 0 0] 26)
  rw [z2] at y3 z3
  exact ⟨(n2.trans n3).heap y1, y3, s2.nw n3, n1.trans (n2.trans n3), z3⟩
set_option maxRecDepth 20000 in
set_option maxHeartbeats 3200000 in
theorem make_c (start : Int) (h0 : 0 ≤ start) (h64 : start < 18446744073709551616) (vn : Value) (ns : List Nat) (w : World) (hvn : Sl w vn (u16s ns)) (hns : ∀ n ∈ ns, n ≤ 65535) :
    Calls Try.prog 23 #[.int .u64 start, vn] w (HandsT w (makeP start ns)) := by
  obtain ⟨p, cap, rfl, hcap, hmx, hp0, hc⟩ := hvn.open (u16s_length ns)
  have HC := hid hc
  have HNS := hid hns
  unfold maxLen at hmx
  have HST := hid (make_start w)
  clear hc hvn hns
  go_enter Try.func23, Try.ntmps23
  go_upto_region 3 with fail
  generalize hm : (if (9223372036854775808 : Int) < start then (9223372036854775808 : Int) else start) = m0
  have HM := hid (show (runM start (ns.take 0)).1 = m0 by rw [← hm]; show min start 9223372036854775808 = _; split <;> omega)
  clear hm
  obtain ⟨y4, y5, s1, hnL, hsz⟩ := HST.out
  generalize (((w.alloc (.cells #[.slice none 0 0, .slice none 0 0] 26)).alloc (.cells #[.string ⟨#[112]⟩, .string ⟨#[113]⟩, .string ⟨#[114]⟩] 9)).alloc (.cells #[.slice (some ⟨w.heap.size + 1, 0, none⟩) 3 3, .slice none 0 0] 26)) = wL at *
  have hg5 : w.heap.size + 1 + 1 < wL.heap.size := by omega
  clear hsz
  go_wp2
  go_loopw [6, 7, 8, 9, 16] (fun o _ _ _ i wr => ∃ (k : Nat) (v : Value), k ≤ ns.length ∧ k ≤ 60 ∧ i = .int .i64 k ∧ o = .int .u64 (runM start (ns.take k)).1 ∧ CpSt wL (w.heap.size + 1 + 1) (.slice (some ⟨w.heap.size + 1, 0, none⟩) 3 3) v (runM start (ns.take k)).2 wr) (fun _ _ _ _ i _ => ns.length - (intOf i).toNat)
  case atStart => exact ⟨0, _, by omega, by omega, rfl, by rw [HM.out], y5, EvOwn.nil _ _, Mods.refl _ _⟩
  case round =>
    obtain ⟨k, v, hk, hk60, rfl, rfl, hst⟩ := hrel
    have hnr : Nw w wr := hnL.ofMods hst.2.2 (fun j e => by omega)
    have HL := hid (show (runM start (ns.take k)).2.length = k by rw [(runM_facts start h0 (ns.take k)).2.2, List.length_take]; omega)
    have HS0 := hid (fun hlt => runM_at start ns k hlt)
    have HE0 := hid (show (k = 60 ∨ k = ns.length) → makeP start ns = ⟨pqr, (runM start (ns.take k)).2⟩ from fun h => by
      unfold makeP
      rcases h with rfl | rfl
      · rfl
      · rw [List.take_of_length_le hk60, List.take_of_length_le (Nat.le_refl _)])
    have hf1 := (runM_facts start h0 (ns.take k)).1
    have hf2 : (runM start (ns.take k)).1 ≤ 9290926031265333248 := by
      have h1 := (runM_facts start h0 (ns.take k)).2.1
      rw [List.length_take] at h1
      have : min k ns.length ≤ 60 := by omega
      omega
    generalize runM start (ns.take k) = r at *
    obtain ⟨now, et⟩ := r
    dsimp only at *
    obtain ⟨qv, cv, rfl⟩ := hst.2.1.shape HL.out
    by_cases hlt : k < ns.length ∧ ¬ k = 60
    · have hdk : decide (k < ns.length) = true := decide_eq_true hlt.1
      have hd60 : ((k : Int) == 60) = false := beq_eq_false_iff_ne.2 (by have := hlt.2; omega)
      obtain ⟨b1, o1, rfl, hcell⟩ := u16_cell (HC.out.nw hnr) k hlt.1
      have hx : ns.getD k 0 ≤ 65535 := HNS.out _ (by rw [List.getD_eq_getElem?_getD, List.getElem?_eq_getElem hlt.1]; exact List.getElem_mem hlt.1)
      have HS1 := hid (HS0.out hlt.1)
      have hkk := hlt.1
      have hk61 : k + 1 ≤ 60 := by have := hlt.2; omega
      clear HS0 HE0 hlt HNS
      generalize ns.getD k 0 = nx at *
      by_cases c1 : 65000 ≤ nx
      · have d1 : decide ((65000 : Int) ≤ nx) = true := decide_eq_true (by omega)
        have HS := hid (show runM start (ns.take (k + 1)) = (now + 1125899906842624, et ++ [(now + 1125899906842624, id3 (nx % 8))]) by rw [HS1.out]; unfold stp dOf; rw [if_pos c1]; rfl)
        clear HS1 c1
        go_upto_region 13 with fail
        have e1 := heap_cell hst.1 1
        simp only [List.getElem?_toArray, List.getElem?_cons_succ, List.getElem?_cons_zero] at e1
        have g2 := lt_of_heap hst.1
        have st5 := CloneS.stab wr.heap.size (id3 (nx % 8))
        have st6 := EvS.stab wr.heap.size (now + 1125899906842624) (id3 (nx % 8))
        have st7 := OneS.stab wr.heap.size (now + 1125899906842624) (id3 (nx % 8))
        refine wp_region_tail 8 (by kernel_rfl) (by kernel_rfl) (by kernel_rfl) (by kernel_rfl) (by kernel_rfl) ?_
        dsimp only [List.take, List.drop]
        iterate 5
          refine Stairs.is ?_ ?_ ?_
          rotate_left 1
          · intro x wR hR hd K hK
            simp only [Act.put, List.setIfInBounds_toArray, List.set_cons_zero, List.set_cons_succ, Say.ok] at hK ⊢
            clear hd
            change Hid _ at hK
            obtain ⟨hcR, hfR, hzR⟩ := nwc hR
            first | (refine wanted_yes ?_ ?_; rfl) | (refine wanted_no ?_ ?_; rfl)
            go_wp2_with (first | (go_at_call 48; refine (ids_c ((nx : Int) % 8) (nx % 8) (by omega) (by omega) _).mono ?_; rintro e w5 ⟨u5, rfl, hown5, hn5⟩))
            all_goals (refine hK.out _ _ ?_ ?_ <;> first | (solve | (repeat (first | assumption | exact Nw.refl _ | refine Nw.alloc ?_ _ | refine Nw.drew ?_ | refine Nw.drewN2 ?_ _ | (refine Nw.trans ?_ (by assumption))))) | exact rfl)
          try simp only [Act.put, List.setIfInBounds_toArray, List.set_cons_zero, List.set_cons_succ]
        iterate 1
          refine Stairs.that (CloneS wr.heap.size (id3 (nx % 8))) (by first | assumption | simp) ?_ ?_
          · intro x wR hR hd K hK
            simp only [Act.put, List.setIfInBounds_toArray, List.set_cons_zero, List.set_cons_succ, Say.ok] at hK ⊢
            clear hd
            change Hid _ at hK
            obtain ⟨hcR, hfR, hzR⟩ := nwc hR
            first | (refine wanted_yes ?_ ?_; rfl) | (refine wanted_no ?_ ?_; rfl)
            go_wp2_with (first | (go_at_call 48; refine (ids_c ((nx : Int) % 8) (nx % 8) (by omega) (by omega) _).mono ?_; rintro e w5 ⟨u5, rfl, hown5, hn5⟩))
            all_goals (refine hK.out _ _ ?_ ?_ <;> first | (solve | (repeat (first | assumption | exact Nw.refl _ | refine Nw.alloc ?_ _ | refine Nw.drew ?_ | refine Nw.drewN2 ?_ _ | (refine Nw.trans ?_ (by assumption))))) | exact rfl | exact hown5.mono hR.size)
          try simp only [Act.put, List.setIfInBounds_toArray, List.set_cons_zero, List.set_cons_succ, List.length_nil, List.length_cons, List.nil_append, List.cons_append, Nat.reduceAdd]
        iterate 1
          refine Stairs.that (EvS wr.heap.size (now + 1125899906842624) (id3 (nx % 8))) (by first | assumption | simp) ?_ ?_
          · intro x wR hR hd K hK
            simp only [Act.put, List.setIfInBounds_toArray, List.set_cons_zero, List.set_cons_succ, Say.ok] at hK ⊢
            try simp [Region.binds, sayAt, Say.ok] at hd
            change Hid _ at hK
            obtain ⟨hcR, hfR, hzR⟩ := nwc hR
            have hu6 : CloneS wr.heap.size (id3 (nx % 8)) wR (x 5) := (by first | exact hd | exact hd.2 | exact hd.1); obtain ⟨q6, c6, e6⟩ := ints_shape hu6; rw [e6] at hK hu6 ⊢
            first | (refine wanted_yes ?_ ?_; rfl) | (refine wanted_no ?_ ?_; rfl)
            go_wp2_with (first | (go_at_call 48; refine (ids_c ((nx : Int) % 8) (nx % 8) (by omega) (by omega) _).mono ?_; rintro e w5 ⟨u5, rfl, hown5, hn5⟩))
            all_goals (refine hK.out _ _ ?_ ?_ <;> first | (solve | (repeat (first | assumption | exact Nw.refl _ | refine Nw.alloc ?_ _ | refine Nw.drew ?_ | refine Nw.drewN2 ?_ _ | (refine Nw.trans ?_ (by assumption))))) | exact rfl | exact ⟨_, rfl, hu6⟩)
          try simp only [Act.put, List.setIfInBounds_toArray, List.set_cons_zero, List.set_cons_succ, List.length_nil, List.length_cons, List.nil_append, List.cons_append, Nat.reduceAdd]
        iterate 1
          refine Stairs.that (OneS wr.heap.size (now + 1125899906842624) (id3 (nx % 8))) (by first | assumption | simp) ?_ ?_
          · intro x wR hR hd K hK
            simp only [Act.put, List.setIfInBounds_toArray, List.set_cons_zero, List.set_cons_succ, Say.ok] at hK ⊢
            try simp [Region.binds, sayAt, Say.ok] at hd
            change Hid _ at hK
            obtain ⟨hcR, hfR, hzR⟩ := nwc hR
            obtain ⟨u7, e7, hu7⟩ := hd; obtain ⟨q7, c7, rfl⟩ := ints_shape hu7; rw [e7] at hK ⊢
            first | (refine wanted_yes ?_ ?_; rfl) | (refine wanted_no ?_ ?_; rfl)
            go_wp2_with (first | (go_at_call 48; refine (ids_c ((nx : Int) % 8) (nx % 8) (by omega) (by omega) _).mono ?_; rintro e w5 ⟨u5, rfl, hown5, hn5⟩))
            all_goals (refine hK.out _ _ ?_ ?_ <;> first | (solve | (repeat (first | assumption | exact Nw.refl _ | refine Nw.alloc ?_ _ | refine Nw.drew ?_ | refine Nw.drewN2 ?_ _ | (refine Nw.trans ?_ (by assumption))))) | exact rfl | exact ⟨_, _, rfl, cells_newAt _ [_, _] _ _ _ rfl, Own.nw hu7 ((Nw.refl _).alloc _)⟩)
          try simp only [Act.put, List.setIfInBounds_toArray, List.set_cons_zero, List.set_cons_succ, List.length_nil, List.length_cons, List.nil_append, List.cons_append, Nat.reduceAdd]
        refine Stairs.nil ?_
        intro x wR hR hx yR
        have h5 := hx 5 (by decide)
        simp only [sayAt, Say.ok] at h5
        have h6 := hx 6 (by decide)
        simp only [sayAt, Say.ok] at h6
        have h7 := hx 7 (by decide)
        simp only [sayAt, Say.ok] at h7
        clear hx
        simp only [fill, Act.put, List.setIfInBounds_toArray, List.set_cons_zero, List.set_cons_succ]
        obtain ⟨hcR, hfR, hzR⟩ := nwc hR
        obtain ⟨g8, u8, e8, hcs8, hu8⟩ := h7
        obtain ⟨q8, c8, rfl⟩ := ints_shape hu8
        rw [e8]
        obtain ⟨vs, hvl, hrow, hall⟩ := hst.2.1
        have hB : wL.heap.size ≤ wR.heap.size := Nat.le_trans hst.2.2.size hR.size
        generalize id3 (nx % 8) = l at *
        go_wp2_with (first
          | (at_builtin; refine appat rfl _ _ _ rfl _ _ _ _ Try.underlying24 info_event rfl (by decide) (by decide) hB (hR.ownsRow hrow) rfl rfl (show [Value.int .u64 (now + 1125899906842624), Value.slice q8 l.length c8].length = 2 from rfl) hcs8 (by simp [Value.oneCell']) ?_ ?_; rotate_left; (have := HL.out; omega); intro v2 w2 hown2 hg2 hat2; obtain ⟨⟨q9, c9, rfl⟩, y2, hst2⟩ := CpSt.step hst hR hg5 HL.out hvl hrow hall hu8 hown2 hg2 hat2; have y21 := heap_cell y2 1; have y2f := heap_frozen y2 1; simp only [List.getElem?_toArray, List.getElem?_cons_succ, List.getElem?_cons_zero] at y21)
          | fail)
        go_roundw
        case rel => exact ⟨k + 1, _, by omega, by omega, by go_num, by rw [HS.out], by rw [HS.out]; exact hst2⟩
        case measure => simp [intOf]; omega
      · have d1 : decide ((65000 : Int) ≤ nx) = false := decide_eq_false (by omega)
        by_cases c2 : nx / 32 % 32 = 31
        · have d2 : ((nx : Int) / 32 % 32 == 31) = true := by rw [beq_iff_eq]; omega
          have HS := hid (show runM start (ns.take (k + 1)) = (now + 3000, et ++ [(now + 3000, id3 (nx % 8))]) by rw [HS1.out]; unfold stp dOf; rw [if_neg c1, if_pos c2]; rfl)
          clear HS1 c1 c2
          go_upto_region 13 with fail
          have e1 := heap_cell hst.1 1
          simp only [List.getElem?_toArray, List.getElem?_cons_succ, List.getElem?_cons_zero] at e1
          have g2 := lt_of_heap hst.1
          have st5 := CloneS.stab wr.heap.size (id3 (nx % 8))
          have st6 := EvS.stab wr.heap.size (now + 3000) (id3 (nx % 8))
          have st7 := OneS.stab wr.heap.size (now + 3000) (id3 (nx % 8))
          refine wp_region_tail 8 (by kernel_rfl) (by kernel_rfl) (by kernel_rfl) (by kernel_rfl) (by kernel_rfl) ?_
          dsimp only [List.take, List.drop]
          iterate 5
            refine Stairs.is ?_ ?_ ?_
            rotate_left 1
            · intro x wR hR hd K hK
              simp only [Act.put, List.setIfInBounds_toArray, List.set_cons_zero, List.set_cons_succ, Say.ok] at hK ⊢
              clear hd
              change Hid _ at hK
              obtain ⟨hcR, hfR, hzR⟩ := nwc hR
              first | (refine wanted_yes ?_ ?_; rfl) | (refine wanted_no ?_ ?_; rfl)
              go_wp2_with (first | (go_at_call 48; refine (ids_c ((nx : Int) % 8) (nx % 8) (by omega) (by omega) _).mono ?_; rintro e w5 ⟨u5, rfl, hown5, hn5⟩))
              all_goals (refine hK.out _ _ ?_ ?_ <;> first | (solve | (repeat (first | assumption | exact Nw.refl _ | refine Nw.alloc ?_ _ | refine Nw.drew ?_ | refine Nw.drewN2 ?_ _ | (refine Nw.trans ?_ (by assumption))))) | exact rfl)
            try simp only [Act.put, List.setIfInBounds_toArray, List.set_cons_zero, List.set_cons_succ]
          iterate 1
            refine Stairs.that (CloneS wr.heap.size (id3 (nx % 8))) (by first | assumption | simp) ?_ ?_
            · intro x wR hR hd K hK
              simp only [Act.put, List.setIfInBounds_toArray, List.set_cons_zero, List.set_cons_succ, Say.ok] at hK ⊢
              clear hd
              change Hid _ at hK
              obtain ⟨hcR, hfR, hzR⟩ := nwc hR
              first | (refine wanted_yes ?_ ?_; rfl) | (refine wanted_no ?_ ?_; rfl)
              go_wp2_with (first | (go_at_call 48; refine (ids_c ((nx : Int) % 8) (nx % 8) (by omega) (by omega) _).mono ?_; rintro e w5 ⟨u5, rfl, hown5, hn5⟩))
              all_goals (refine hK.out _ _ ?_ ?_ <;> first | (solve | (repeat (first | assumption | exact Nw.refl _ | refine Nw.alloc ?_ _ | refine Nw.drew ?_ | refine Nw.drewN2 ?_ _ | (refine Nw.trans ?_ (by assumption))))) | exact rfl | exact hown5.mono hR.size)
            try simp only [Act.put, List.setIfInBounds_toArray, List.set_cons_zero, List.set_cons_succ, List.length_nil, List.length_cons, List.nil_append, List.cons_append, Nat.reduceAdd]
          iterate 1
            refine Stairs.that (EvS wr.heap.size (now + 3000) (id3 (nx % 8))) (by first | assumption | simp) ?_ ?_
            · intro x wR hR hd K hK
              simp only [Act.put, List.setIfInBounds_toArray, List.set_cons_zero, List.set_cons_succ, Say.ok] at hK ⊢
              try simp [Region.binds, sayAt, Say.ok] at hd
              change Hid _ at hK
              obtain ⟨hcR, hfR, hzR⟩ := nwc hR
              have hu6 : CloneS wr.heap.size (id3 (nx % 8)) wR (x 5) := (by first | exact hd | exact hd.2 | exact hd.1); obtain ⟨q6, c6, e6⟩ := ints_shape hu6; rw [e6] at hK hu6 ⊢
              first | (refine wanted_yes ?_ ?_; rfl) | (refine wanted_no ?_ ?_; rfl)
              go_wp2_with (first | (go_at_call 48; refine (ids_c ((nx : Int) % 8) (nx % 8) (by omega) (by omega) _).mono ?_; rintro e w5 ⟨u5, rfl, hown5, hn5⟩))
              all_goals (refine hK.out _ _ ?_ ?_ <;> first | (solve | (repeat (first | assumption | exact Nw.refl _ | refine Nw.alloc ?_ _ | refine Nw.drew ?_ | refine Nw.drewN2 ?_ _ | (refine Nw.trans ?_ (by assumption))))) | exact rfl | exact ⟨_, rfl, hu6⟩)
            try simp only [Act.put, List.setIfInBounds_toArray, List.set_cons_zero, List.set_cons_succ, List.length_nil, List.length_cons, List.nil_append, List.cons_append, Nat.reduceAdd]
          iterate 1
            refine Stairs.that (OneS wr.heap.size (now + 3000) (id3 (nx % 8))) (by first | assumption | simp) ?_ ?_
            · intro x wR hR hd K hK
              simp only [Act.put, List.setIfInBounds_toArray, List.set_cons_zero, List.set_cons_succ, Say.ok] at hK ⊢
              try simp [Region.binds, sayAt, Say.ok] at hd
              change Hid _ at hK
              obtain ⟨hcR, hfR, hzR⟩ := nwc hR
              obtain ⟨u7, e7, hu7⟩ := hd; obtain ⟨q7, c7, rfl⟩ := ints_shape hu7; rw [e7] at hK ⊢
              first | (refine wanted_yes ?_ ?_; rfl) | (refine wanted_no ?_ ?_; rfl)
              go_wp2_with (first | (go_at_call 48; refine (ids_c ((nx : Int) % 8) (nx % 8) (by omega) (by omega) _).mono ?_; rintro e w5 ⟨u5, rfl, hown5, hn5⟩))
              all_goals (refine hK.out _ _ ?_ ?_ <;> first | (solve | (repeat (first | assumption | exact Nw.refl _ | refine Nw.alloc ?_ _ | refine Nw.drew ?_ | refine Nw.drewN2 ?_ _ | (refine Nw.trans ?_ (by assumption))))) | exact rfl | exact ⟨_, _, rfl, cells_newAt _ [_, _] _ _ _ rfl, Own.nw hu7 ((Nw.refl _).alloc _)⟩)
            try simp only [Act.put, List.setIfInBounds_toArray, List.set_cons_zero, List.set_cons_succ, List.length_nil, List.length_cons, List.nil_append, List.cons_append, Nat.reduceAdd]
          refine Stairs.nil ?_
          intro x wR hR hx yR
          have h5 := hx 5 (by decide)
          simp only [sayAt, Say.ok] at h5
          have h6 := hx 6 (by decide)
          simp only [sayAt, Say.ok] at h6
          have h7 := hx 7 (by decide)
          simp only [sayAt, Say.ok] at h7
          clear hx
          simp only [fill, Act.put, List.setIfInBounds_toArray, List.set_cons_zero, List.set_cons_succ]
          obtain ⟨hcR, hfR, hzR⟩ := nwc hR
          obtain ⟨g8, u8, e8, hcs8, hu8⟩ := h7
          obtain ⟨q8, c8, rfl⟩ := ints_shape hu8
          rw [e8]
          obtain ⟨vs, hvl, hrow, hall⟩ := hst.2.1
          have hB : wL.heap.size ≤ wR.heap.size := Nat.le_trans hst.2.2.size hR.size
          generalize id3 (nx % 8) = l at *
          go_wp2_with (first
            | (at_builtin; refine appat rfl _ _ _ rfl _ _ _ _ Try.underlying24 info_event rfl (by decide) (by decide) hB (hR.ownsRow hrow) rfl rfl (show [Value.int .u64 (now + 3000), Value.slice q8 l.length c8].length = 2 from rfl) hcs8 (by simp [Value.oneCell']) ?_ ?_; rotate_left; (have := HL.out; omega); intro v2 w2 hown2 hg2 hat2; obtain ⟨⟨q9, c9, rfl⟩, y2, hst2⟩ := CpSt.step hst hR hg5 HL.out hvl hrow hall hu8 hown2 hg2 hat2; have y21 := heap_cell y2 1; have y2f := heap_frozen y2 1; simp only [List.getElem?_toArray, List.getElem?_cons_succ, List.getElem?_cons_zero] at y21)
            | fail)
          go_roundw
          case rel => exact ⟨k + 1, _, by omega, by omega, by go_num, by rw [HS.out], by rw [HS.out]; exact hst2⟩
          case measure => simp [intOf]; omega
        · have d2 : ((nx : Int) / 32 % 32 == 31) = false := beq_eq_false_iff_ne.2 (by omega)
          have HS := hid (show runM start (ns.take (k + 1)) = (now + (nx : Int) / 8 % 4, et ++ [(now + (nx : Int) / 8 % 4, id3 (nx % 8))]) by
            have : ((dOf nx : Nat) : Int) = (nx : Int) / 8 % 4 := by unfold dOf; rw [if_neg c1, if_neg c2]; omega
            rw [HS1.out]
            unfold stp
            rw [this])
          clear HS1 c1 c2
          go_upto_region 13 with fail
          have e1 := heap_cell hst.1 1
          simp only [List.getElem?_toArray, List.getElem?_cons_succ, List.getElem?_cons_zero] at e1
          have g2 := lt_of_heap hst.1
          have st5 := CloneS.stab wr.heap.size (id3 (nx % 8))
          have st6 := EvS.stab wr.heap.size (now + (nx : Int) / 8 % 4) (id3 (nx % 8))
          have st7 := OneS.stab wr.heap.size (now + (nx : Int) / 8 % 4) (id3 (nx % 8))
          refine wp_region_tail 8 (by kernel_rfl) (by kernel_rfl) (by kernel_rfl) (by kernel_rfl) (by kernel_rfl) ?_
          dsimp only [List.take, List.drop]
          iterate 5
            refine Stairs.is ?_ ?_ ?_
            rotate_left 1
            · intro x wR hR hd K hK
              simp only [Act.put, List.setIfInBounds_toArray, List.set_cons_zero, List.set_cons_succ, Say.ok] at hK ⊢
              clear hd
              change Hid _ at hK
              obtain ⟨hcR, hfR, hzR⟩ := nwc hR
              first | (refine wanted_yes ?_ ?_; rfl) | (refine wanted_no ?_ ?_; rfl)
              go_wp2_with (first | (go_at_call 48; refine (ids_c ((nx : Int) % 8) (nx % 8) (by omega) (by omega) _).mono ?_; rintro e w5 ⟨u5, rfl, hown5, hn5⟩))
              all_goals (refine hK.out _ _ ?_ ?_ <;> first | (solve | (repeat (first | assumption | exact Nw.refl _ | refine Nw.alloc ?_ _ | refine Nw.drew ?_ | refine Nw.drewN2 ?_ _ | (refine Nw.trans ?_ (by assumption))))) | exact rfl)
            try simp only [Act.put, List.setIfInBounds_toArray, List.set_cons_zero, List.set_cons_succ]
          iterate 1
            refine Stairs.that (CloneS wr.heap.size (id3 (nx % 8))) (by first | assumption | simp) ?_ ?_
            · intro x wR hR hd K hK
              simp only [Act.put, List.setIfInBounds_toArray, List.set_cons_zero, List.set_cons_succ, Say.ok] at hK ⊢
              clear hd
              change Hid _ at hK
              obtain ⟨hcR, hfR, hzR⟩ := nwc hR
              first | (refine wanted_yes ?_ ?_; rfl) | (refine wanted_no ?_ ?_; rfl)
              go_wp2_with (first | (go_at_call 48; refine (ids_c ((nx : Int) % 8) (nx % 8) (by omega) (by omega) _).mono ?_; rintro e w5 ⟨u5, rfl, hown5, hn5⟩))
              all_goals (refine hK.out _ _ ?_ ?_ <;> first | (solve | (repeat (first | assumption | exact Nw.refl _ | refine Nw.alloc ?_ _ | refine Nw.drew ?_ | refine Nw.drewN2 ?_ _ | (refine Nw.trans ?_ (by assumption))))) | exact rfl | exact hown5.mono hR.size)
            try simp only [Act.put, List.setIfInBounds_toArray, List.set_cons_zero, List.set_cons_succ, List.length_nil, List.length_cons, List.nil_append, List.cons_append, Nat.reduceAdd]
          iterate 1
            refine Stairs.that (EvS wr.heap.size (now + (nx : Int) / 8 % 4) (id3 (nx % 8))) (by first | assumption | simp) ?_ ?_
            · intro x wR hR hd K hK
              simp only [Act.put, List.setIfInBounds_toArray, List.set_cons_zero, List.set_cons_succ, Say.ok] at hK ⊢
              try simp [Region.binds, sayAt, Say.ok] at hd
              change Hid _ at hK
              obtain ⟨hcR, hfR, hzR⟩ := nwc hR
              have hu6 : CloneS wr.heap.size (id3 (nx % 8)) wR (x 5) := (by first | exact hd | exact hd.2 | exact hd.1); obtain ⟨q6, c6, e6⟩ := ints_shape hu6; rw [e6] at hK hu6 ⊢
              first | (refine wanted_yes ?_ ?_; rfl) | (refine wanted_no ?_ ?_; rfl)
              go_wp2_with (first | (go_at_call 48; refine (ids_c ((nx : Int) % 8) (nx % 8) (by omega) (by omega) _).mono ?_; rintro e w5 ⟨u5, rfl, hown5, hn5⟩))
              all_goals (refine hK.out _ _ ?_ ?_ <;> first | (solve | (repeat (first | assumption | exact Nw.refl _ | refine Nw.alloc ?_ _ | refine Nw.drew ?_ | refine Nw.drewN2 ?_ _ | (refine Nw.trans ?_ (by assumption))))) | exact rfl | exact ⟨_, rfl, hu6⟩)
            try simp only [Act.put, List.setIfInBounds_toArray, List.set_cons_zero, List.set_cons_succ, List.length_nil, List.length_cons, List.nil_append, List.cons_append, Nat.reduceAdd]
          iterate 1
            refine Stairs.that (OneS wr.heap.size (now + (nx : Int) / 8 % 4) (id3 (nx % 8))) (by first | assumption | simp) ?_ ?_
            · intro x wR hR hd K hK
              simp only [Act.put, List.setIfInBounds_toArray, List.set_cons_zero, List.set_cons_succ, Say.ok] at hK ⊢
              try simp [Region.binds, sayAt, Say.ok] at hd
              change Hid _ at hK
              obtain ⟨hcR, hfR, hzR⟩ := nwc hR
              obtain ⟨u7, e7, hu7⟩ := hd; obtain ⟨q7, c7, rfl⟩ := ints_shape hu7; rw [e7] at hK ⊢
              first | (refine wanted_yes ?_ ?_; rfl) | (refine wanted_no ?_ ?_; rfl)
              go_wp2_with (first | (go_at_call 48; refine (ids_c ((nx : Int) % 8) (nx % 8) (by omega) (by omega) _).mono ?_; rintro e w5 ⟨u5, rfl, hown5, hn5⟩))
              all_goals (refine hK.out _ _ ?_ ?_ <;> first | (solve | (repeat (first | assumption | exact Nw.refl _ | refine Nw.alloc ?_ _ | refine Nw.drew ?_ | refine Nw.drewN2 ?_ _ | (refine Nw.trans ?_ (by assumption))))) | exact rfl | exact ⟨_, _, rfl, cells_newAt _ [_, _] _ _ _ rfl, Own.nw hu7 ((Nw.refl _).alloc _)⟩)
            try simp only [Act.put, List.setIfInBounds_toArray, List.set_cons_zero, List.set_cons_succ, List.length_nil, List.length_cons, List.nil_append, List.cons_append, Nat.reduceAdd]
          refine Stairs.nil ?_
          intro x wR hR hx yR
          have h5 := hx 5 (by decide)
          simp only [sayAt, Say.ok] at h5
          have h6 := hx 6 (by decide)
          simp only [sayAt, Say.ok] at h6
          have h7 := hx 7 (by decide)
          simp only [sayAt, Say.ok] at h7
          clear hx
          simp only [fill, Act.put, List.setIfInBounds_toArray, List.set_cons_zero, List.set_cons_succ]
          obtain ⟨hcR, hfR, hzR⟩ := nwc hR
          obtain ⟨g8, u8, e8, hcs8, hu8⟩ := h7
          obtain ⟨q8, c8, rfl⟩ := ints_shape hu8
          rw [e8]
          obtain ⟨vs, hvl, hrow, hall⟩ := hst.2.1
          have hB : wL.heap.size ≤ wR.heap.size := Nat.le_trans hst.2.2.size hR.size
          generalize id3 (nx % 8) = l at *
          go_wp2_with (first
            | (at_builtin; refine appat rfl _ _ _ rfl _ _ _ _ Try.underlying24 info_event rfl (by decide) (by decide) hB (hR.ownsRow hrow) rfl rfl (show [Value.int .u64 (now + (nx : Int) / 8 % 4), Value.slice q8 l.length c8].length = 2 from rfl) hcs8 (by simp [Value.oneCell']) ?_ ?_; rotate_left; (have := HL.out; omega); intro v2 w2 hown2 hg2 hat2; obtain ⟨⟨q9, c9, rfl⟩, y2, hst2⟩ := CpSt.step hst hR hg5 HL.out hvl hrow hall hu8 hown2 hg2 hat2; have y21 := heap_cell y2 1; have y2f := heap_frozen y2 1; simp only [List.getElem?_toArray, List.getElem?_cons_succ, List.getElem?_cons_zero] at y21)
            | fail)
          go_roundw
          case rel => exact ⟨k + 1, _, by omega, by omega, by go_num, by rw [HS.out], by rw [HS.out]; exact hst2⟩
          case measure => simp [intOf]; omega
    · have HF := hid (HE0.out (by omega))
      have y4r := hst.2.2.heap y4 (by omega)
      have d0 := heap_cell y4r 0
      have d1 := heap_cell y4r 1
      have e0 := heap_cell hst.1 0
      have e1 := heap_cell hst.1 1
      simp only [List.getElem?_toArray, List.getElem?_cons_succ, List.getElem?_cons_zero] at d0 d1 e0 e1
      have f0 := heap_frozen y4r 0
      have f1 := heap_frozen y4r 1
      have s1r := Sl.mods s1 hst.2.2 (fun h0 j hj e => by subst e; exact absurd rfl (Sl.apart (s1.nw (Nw.refl _)) y5 strs_not h0 _ hj))
      have hev := hst.2.1
      have hz49 : w.heap.size < wL.heap.size := by omega
      have hsplit : k = ns.length ∨ (k < ns.length ∧ k = 60) := by omega
      clear HS0 HE0
      rcases hsplit with rfl | ⟨hkl, rfl⟩
      · have hdk : decide (ns.length < ns.length) = false := decide_eq_false (by omega)
        clear hlt
        go_wp2
        ((try simp only [Exit.inBlock, Exit.then]); refine bodyPost_ret (results_cell_row rfl _ _ _ _ _ _ _ rfl (heap_set (heap_set y4r 0 _) 1 _) Try.underlying26 rfl (by kernel_rfl)) rfl ?_)
        rw [HF.out]
        refine ⟨_, rfl, ⟨_, _, rfl, ?_, ?_⟩, ?_⟩
        · exact Sl.set2 (a := .slice (some ⟨w.heap.size + 1, 0, none⟩) 3 3) (b := .slice none 0 0) (Sl.set2 s1r y4r strs_not) (heap_set y4r 0 _) strs_not
        · exact (EvOwn.set (a := .slice (some ⟨w.heap.size + 1, 0, none⟩) 3 3) (b := .slice none 0 0) (EvOwn.set hev hz49 y4r (fun _ => nofun) (fun _ => nofun)) hz49 (heap_set y4r 0 _) (fun _ => nofun) (fun _ => nofun)).evs
        · exact (hnr.setCell (p := ⟨w.heap.size, 0, none⟩) (Nat.le_refl _) _).setCell (p := ⟨w.heap.size, 1, none⟩) (Nat.le_refl _) _
      · have hdk : decide (60 < ns.length) = true := decide_eq_true hkl
        have hdk2 : decide ((60 : Int) < ns.length) = true := decide_eq_true (by omega)
        obtain ⟨b1, o1, rfl, hcell⟩ := u16_cell (HC.out.nw hnr) 60 hkl
        clear hlt
        go_wp2
        ((try simp only [Exit.inBlock, Exit.then]); refine bodyPost_ret (results_cell_row rfl _ _ _ _ _ _ _ rfl (heap_set (heap_set y4r 0 _) 1 _) Try.underlying26 rfl (by kernel_rfl)) rfl ?_)
        rw [HF.out]
        refine ⟨_, rfl, ⟨_, _, rfl, ?_, ?_⟩, ?_⟩
        · exact Sl.set2 (a := .slice (some ⟨w.heap.size + 1, 0, none⟩) 3 3) (b := .slice none 0 0) (Sl.set2 s1r y4r strs_not) (heap_set y4r 0 _) strs_not
        · exact (EvOwn.set (a := .slice (some ⟨w.heap.size + 1, 0, none⟩) 3 3) (b := .slice none 0 0) (EvOwn.set hev hz49 y4r (fun _ => nofun) (fun _ => nofun)) hz49 (heap_set y4r 0 _) (fun _ => nofun) (fun _ => nofun)).evs
        · exact (hnr.setCell (p := ⟨w.heap.size, 0, none⟩) (Nat.le_refl _) _).setCell (p := ⟨w.heap.size, 1, none⟩) (Nat.le_refl _) _
end Tr
end Go.Proofs.Ytjelbfodkacipaa
namespace Go.Proofs.Ytjelbfodkacipaa
open Go.ChangeShapes Go.WideShapes Go.ChangeAt Go.RowKit
namespace Tr
open Go.Proofs.Ytjelbfodkacipaa.Lx (isIn nameB strs_open strs_cell contains_c)
open Go.Proofs.Ytjelbfodkacipaa.Rec (rises i64s_open i64_cell)
theorem eOk_snoc_lt (n : Int) (es : Es) (e : Int × List Int) (i : Nat) (h : i < es.length) : eOk n (es ++ [e]) i = eOk n es i := by
  unfold eOk
  rw [ids_snoc_lt _ _ _ h, tm_snoc_lt _ _ _ h]
  cases i with
  | zero => simp
  | succ i => rw [Nat.add_sub_cancel, tm_snoc_lt _ _ _ (by omega)]
theorem id3_rises : ∀ n : Nat, n < 8 → rises (id3 n) 3 = true := by decide +kernel
theorem id3_lens (n : Nat) : (id3 n).length ≤ 3 := id3_len n 3
/-- What holds of the events all along. -/
def Fine (s : Int × Es) : Prop := ∀ i, i < s.2.length → eOk 3 s.2 i = true ∧ tm s.2 i ≤ s.1 ∧ 0 ≤ tm s.2 i ∧ (ids s.2 i).length ≤ 3 ∧ (∀ x ∈ ids s.2 i, 0 ≤ x ∧ x < 3)
theorem Fine.step {s : Int × Es} (h : Fine s) (h0 : 0 ≤ s.1) (n : Nat) : Fine (stp s n) := by
  intro i hi
  simp only [stp, List.length_append, List.length_singleton] at hi ⊢
  by_cases hlt : i < s.2.length
  · obtain ⟨h1, h2, h3, h4, h5⟩ := h i hlt
    rw [eOk_snoc_lt _ _ _ _ hlt, tm_snoc_lt _ _ _ hlt, ids_snoc_lt _ _ _ hlt]
    exact ⟨h1, by omega, h3, h4, h5⟩
  · obtain rfl : i = s.2.length := by omega
    rw [tm_snoc, ids_snoc]
    have hr := id3_rises (n % 8) (by omega)
    refine ⟨?_, by omega, by simp only; omega, id3_lens _, Rec.rises_mem hr⟩
    refine e_yes (by rw [ids_snoc]; exact hr) ?_
    by_cases hz : s.2.length = 0
    · exact Or.inl hz
    · right
      rw [tm_snoc, tm_snoc_lt _ _ _ (by omega)]
      have := (h (s.2.length - 1) (by omega)).2.1
      simp only
      omega
theorem fold_fine (ns : List Nat) : ∀ s : Int × Es, 0 ≤ s.1 → Fine s → Fine (ns.foldl stp s) := by
  induction ns with
  | nil => intro s _ h; exact h
  | cons n r ih => intro s h0 h; exact ih _ (by simp only [stp]; omega) (h.step h0 n)
theorem runM_fine (start : Int) (h0 : 0 ≤ start) (ns : List Nat) : Fine (runM start ns) := fold_fine ns _ (by simp only; omega) (fun i hi => by cases hi)
theorem pqr_ok : namesP pqr = true := by decide +kernel
theorem make_may (start : Int) (h0 : 0 ≤ start) (ns : List Nat) : mayP (makeP start ns) = true := by
  unfold mayP makeP
  rw [pqr_ok, Bool.true_and]
  unfold evsP mayTo
  rw [List.all_eq_true]
  intro i hi
  exact (runM_fine start h0 (ns.take 60) i (List.mem_range.1 hi)).1
theorem make_len (start : Int) (h0 : 0 ≤ start) (ns : List Nat) : (makeP start ns).evs.length ≤ 60 := by
  unfold makeP
  rw [(runM_facts start h0 (ns.take 60)).2.2, List.length_take]
  omega
theorem make_small (start : Int) (h0 : 0 ≤ start) (ns : List Nat) : Small (makeP start ns) := by
  refine ⟨by show pqr.length ≤ _; decide, Nat.le_trans (make_len start h0 ns) (by decide), fun i hi => Nat.le_trans (runM_fine start h0 (ns.take 60) i hi).2.2.2.1 (by decide), fun s hs => ?_⟩
  simp only [makeP, pqr, List.mem_cons, List.not_mem_nil, or_false] at hs
  rcases hs with rfl | rfl | rfl <;> decide
theorem cut_small {t : T} (h : Small t) (n : Int) : Small (cutP t n) := by
  unfold cutP
  split
  · refine ⟨h.n, by simp only [List.length_take]; have := h.e; omega, fun i hi => ?_, h.s⟩
    simp only [List.length_take] at hi
    rw [ids_take _ _ _ (by omega)]
    exact h.i i (by omega)
  · exact ⟨by decide, by decide, (fun i hi => by cases hi), (fun s hs => by cases hs)⟩
theorem tells_r (u v : Value) (a b : T) (i : Int) (s : ByteArray) (w : World) (h1 : TrR w u a) (h2 : TrR w v b) (ha : Small a) (hb : Small b) (hi1 : -9223372036854775808 ≤ i) (hi2 : i ≤ 9223372036854775807) :
    Calls Try.prog 22 #[u, v, .int .i64 i, .string s] w (Gives (.bool true) w) := by
  obtain ⟨u1, u2, rfl, k1, k2⟩ := h1
  obtain ⟨v1, v2, rfl, k3, k4⟩ := h2
  exact tells_c u1 u2 v1 v2 a b i s w k1 k2 k3 k4 ha hb hi1 hi2
theorem evs_shape {w : World} {v : Value} {es : Es} (h : Evs w v es) : ∃ p c, v = .slice p es.length c := by
  obtain ⟨p, c, e, _⟩ := h
  exact ⟨p, c, e⟩
theorem pqr_idx : ∀ k, k < 3 → idxP pqr (pqr.getD k ⟨#[]⟩) = (k : Int) := by decide +kernel
theorem made_holds (start : Int) (h0 : 0 ≤ start) (ns : List Nat) (k j : Nat) (hk : k < (makeP start ns).evs.length) (hj : j < 3) : holdsP (makeP start ns) k (pqr.getD j ⟨#[]⟩) = decide ((j : Int) ∈ ids (makeP start ns).evs k) := by
  rw [holds_at _ _ _ (make_may start h0 ns) hk, Bool.eq_iff_iff, decide_eq_true_eq, decide_eq_true_eq]
  show idxP pqr (pqr.getD j ⟨#[]⟩) ∈ _ ↔ _
  rw [pqr_idx j hj]
theorem make_c3 (start : Int) (h0 : 0 ≤ start) (h64 : start < 18446744073709551616) (vn : Value) (ns : List Nat) (w : World) (hvn : Sl w vn (u16s ns)) (hns : ∀ n ∈ ns, n ≤ 65535) :
    Calls Try.prog 23 #[.int .u64 start, vn] w fun e w' => ∃ q c p d, e = .returned (.agg #[.slice q 3 c, .slice p (makeP start ns).evs.length d]) ∧ Sl w' (.slice q 3 c) (Lx.strs pqr) ∧ Evs w' (.slice p (makeP start ns).evs.length d) (makeP start ns).evs ∧ Nw w w' :=
  (make_c start h0 h64 vn ns w hvn hns).mono fun e w' h => by
    obtain ⟨v, rfl, ⟨v1, v2, rfl, h1, h2⟩, h3⟩ := h
    obtain ⟨q, c, rfl, _⟩ := strs_open h1
    obtain ⟨p, d, rfl⟩ := evs_shape h2
    exact ⟨q, c, p, d, rfl, h1, h2, h3⟩
theorem pqr_shape {w : World} {v : Value} (h : Sl w v (Lx.strs pqr)) : ∃ p c, v = .slice p 3 c := by
  obtain ⟨p, c, e, _⟩ := h
  exact ⟨p, c, e⟩
set_option maxRecDepth 20000 in
set_option maxHeartbeats 3200000 in
theorem made_walk (start : Int) (h0 : 0 ≤ start) (h64 : start < 18446744073709551616) (v1 v2 : Value) (ns ms : List Nat) (i : Int) (s : ByteArray) (w : World) (hv1 : Sl w v1 (u16s ns)) (hns : ∀ n ∈ ns, n ≤ 65535) (hv2 : Sl w v2 (u16s ms)) (hms : ∀ n ∈ ms, n ≤ 65535) (hi1 : -9223372036854775808 ≤ i) (hi2 : i ≤ 9223372036854775807) (hll : ns.length ≤ 1000000000) :
    Calls Try.prog 4 #[.int .u64 start, v1, v2, .int .i64 i, .string s] w fun e w' => e = .returned (.bool true) ∧ Nw w w' := by
  have HM1 := hid (fun w' (h : Nw w w') => make_c3 start h0 h64 v1 ns w' (hv1.nw h) hns)
  have HM2 := hid (fun w' (h : Nw w w') => make_c3 start h0 h64 v2 ms w' (hv2.nw h) hms)
  have sa := make_small start h0 ns
  have sb := make_small start h0 ms
  have HMA := hid (make_may start h0 ns)
  have HNA := hid (show (makeP start ns).names = pqr from rfl)
  have HNB := hid (show (makeP start ms).names = pqr from rfl)
  have HH := hid (made_holds start h0 ns)
  obtain ⟨p1, k1, rfl, _, _, _, _⟩ := hv1.open (u16s_length ns)
  obtain ⟨p2, k2, rfl, _, _, _, _⟩ := hv2.open (u16s_length ms)
  generalize makeP start ns = a at *
  generalize makeP start ms = b at *
  generalize ns.length = na at *
  generalize ms.length = nb at *
  clear hv1 hv2 hns hms
  go_enter Try.func4, Try.ntmps4
  go_upto_region 2 with (first
    | (go_at_call 23; (with_reducible refine (HM1.out _ ?_).mono ?_); exact (by repeat (first | assumption | exact Nw.refl _ | refine Nw.alloc ?_ _ | refine Nw.drew ?_ | refine Nw.drewN2 ?_ _ | (refine Nw.trans ?_ (by assumption)))); rintro e w1 ⟨q1, c1, q2, c2, rfl, hs1, he1, hn1⟩)
    | (go_at_call 23; (with_reducible refine (HM2.out _ ?_).mono ?_); exact (by repeat (first | assumption | exact Nw.refl _ | refine Nw.alloc ?_ _ | refine Nw.drew ?_ | refine Nw.drewN2 ?_ _ | (refine Nw.trans ?_ (by assumption)))); rintro e w2 ⟨q3, c3, q4, c4, rfl, hs2, he2, hn2⟩)
    | fail)
  have he1' := he1
  have he2' := he2
  obtain ⟨_, _, e1, hca, hcm, _, hec⟩ := he1
  cases e1
  have HEC := hid hec
  clear hec
  obtain ⟨x0, x1, y4, hn3, hz4⟩ := boxes w2 (.slice q1 3 c1) (.slice q2 a.evs.length c2) (.slice q3 3 c3) (.slice q4 b.evs.length c4) 26 26
  have y0 := heap_cell y4 0
  have y1 := heap_cell y4 1
  simp only [List.getElem?_toArray, List.getElem?_cons_succ, List.getElem?_cons_zero] at y0 y1
  clear y4
  generalize ((w2.alloc (.cells #[.slice q1 3 c1, .slice q2 a.evs.length c2] 26)).alloc (.cells #[.slice q3 3 c3, .slice q4 b.evs.length c4] 26)) = w3 at *
  have hz0 : w2.heap.size < w3.heap.size := by omega
  have hz1 : w2.heap.size + 1 < w3.heap.size := by omega
  have hw3 : Nw w w3 := hn1.trans (hn2.trans hn3)
  have t1 : TrR w3 (.agg #[.slice q1 3 c1, .slice q2 a.evs.length c2]) a := ⟨_, _, rfl, by rw [HNA.out]; exact hs1.nw (hn2.trans hn3), he1'.nw (hn2.trans hn3)⟩
  have t2 : TrR w3 (.agg #[.slice q3 3 c3, .slice q4 b.evs.length c4]) b := ⟨_, _, rfl, by rw [HNB.out]; exact hs2.nw hn3, he2'.nw hn3⟩
  have HC3 := hid (HEC.out.nw (hn2.trans hn3))
  have HS3 := hid (hs1.nw (hn2.trans hn3))
  have HMY := hid (fun w' (h : Nw w3 w') => show Calls Try.prog 24 #[.agg #[.slice q1 3 c1, .slice q2 a.evs.length c2]] w' (Gives (.bool true) w') by
    have := may_c (.slice q1 3 c1) (.slice q2 a.evs.length c2) a w' (by rw [HNA.out]; exact HS3.out.nw h) ((he1'.nw (hn2.trans hn3)).nw h) sa.s
    rwa [HMA.out] at this)
  have HT1 := hid (fun w' (h : Nw w3 w') => tells_r _ _ a b i s w' (t1.nw h) (t2.nw h) sa sb hi1 hi2)
  have HT2 := hid (fun w' (h : Nw w3 w') => tells_r _ _ a a i ⟨#[112]⟩ w' (t1.nw h) (t1.nw h) sa sa hi1 hi2)
  have HT3 := hid (fun u w' (h : Nw w3 w') (hu : TrR w' u (cutP a i)) => tells_r u _ (cutP a i) a ((na : Int) - 1) ⟨#[113]⟩ w' hu (t1.nw h) (cut_small sa i) sa (by omega) (by omega))
  have HCT := hid (fun w' (h : Nw w3 w') => cut_c (.slice q1 3 c1) (.slice q2 a.evs.length c2) a i w' (by rw [HNA.out]; exact HS3.out.nw h) ((he1'.nw (hn2.trans hn3)).nw h) sa hi1 hi2)
  have HHO := hid (fun (k j : Nat) (hk : k < a.evs.length) (hj : j < 3) w' (h : Nw w3 w') => show Calls Try.prog 26 #[.agg #[.slice q1 3 c1, .slice q2 a.evs.length c2], .int .i64 (k : Int), .string (pqr.getD j ⟨#[]⟩)] w' (Gives (.bool (decide ((j : Int) ∈ ids a.evs k))) w') by
    have := holds_c (.slice q1 3 c1) (.slice q2 a.evs.length c2) a k (pqr.getD j ⟨#[]⟩) w' (by rw [HNA.out]; exact HS3.out.nw h) ((he1'.nw (hn2.trans hn3)).nw h) sa
    rwa [HH.out k j hk hj] at this)
  have hle := sa.e
  unfold maxLen at hcm
  obtain ⟨_, _, e2, hcb, hcn1, _, hcn⟩ := HS3.out
  cases e2
  have HCN := hid hcn
  unfold maxLen at hcn1
  have hcb3 : 3 ≤ c1 := hcb
  clear hcn hcb
  clear hs1 he1' hs2 he2' he2 HEC HM1 HM2 sa sb t1 t2 HNA HMA HH hi1 hi2 hn1 hn2 hn3 hz4
  generalize cutP a i = ct at *
  refine wp_region_stairs (by kernel_rfl) (by kernel_rfl) (by kernel_rfl) ?_
  iterate 21
    refine Stairs.is ?_ ?_ ?_
    rotate_left 1
    · intro x wR hR hd K hK
      simp only [Act.put, List.setIfInBounds_toArray, List.set_cons_zero, List.set_cons_succ, Nat.reduceAdd, List.length_nil, List.length_cons, List.nil_append, List.cons_append, Say.ok] at hK ⊢
      clear hd
      change Hid _ at hK
      obtain ⟨hcR, hfR, hzR⟩ := nwc hR
      first | (refine wanted_yes ?_ ?_; rfl) | (refine wanted_no ?_ ?_; rfl)
      go_wp2_with (first 
    | (go_at_call 24; refine (HMY.out _ (by repeat (first | assumption | exact Nw.refl _ | refine Nw.alloc ?_ _ | refine Nw.drew ?_ | refine Nw.drewN2 ?_ _ | (refine Nw.trans ?_ (by assumption))))).mono ?_; rintro e w5 ⟨rfl, hn5⟩)
    | (go_at_call 22; (with_reducible refine (HT1.out _ ?_).mono ?_); exact (by repeat (first | assumption | exact Nw.refl _ | refine Nw.alloc ?_ _ | refine Nw.drew ?_ | refine Nw.drewN2 ?_ _ | (refine Nw.trans ?_ (by assumption)))); rintro e w5 ⟨rfl, hn5⟩)
    | (go_at_call 22; (with_reducible refine (HT2.out _ ?_).mono ?_); exact (by repeat (first | assumption | exact Nw.refl _ | refine Nw.alloc ?_ _ | refine Nw.drew ?_ | refine Nw.drewN2 ?_ _ | (refine Nw.trans ?_ (by assumption)))); rintro e w5 ⟨rfl, hn5⟩)
    | (go_at_call 22; refine (HT3.out _ _ (by repeat (first | assumption | exact Nw.refl _ | refine Nw.alloc ?_ _ | refine Nw.drew ?_ | refine Nw.drewN2 ?_ _ | (refine Nw.trans ?_ (by assumption)))) (by first | exact hd | exact hd.1 | exact hd.2 | exact hd.2.1)).mono ?_; rintro e w5 ⟨rfl, hn5⟩)
    | (go_at_call 25; refine (HCT.out _ (by repeat (first | assumption | exact Nw.refl _ | refine Nw.alloc ?_ _ | refine Nw.drew ?_ | refine Nw.drewN2 ?_ _ | (refine Nw.trans ?_ (by assumption))))).mono ?_; rintro e w5 ⟨v5, rfl, hr5, hn5⟩))
      all_goals (refine hK.out _ _ ?_ ?_ <;> first | (solve | (repeat (first | assumption | exact Nw.refl _ | refine Nw.alloc ?_ _ | refine Nw.drew ?_ | refine Nw.drewN2 ?_ _ | (refine Nw.trans ?_ (by assumption))))) | exact rfl | exact hr5)
    try simp only [Act.put, List.setIfInBounds_toArray, List.set_cons_zero, List.set_cons_succ, Nat.reduceAdd, List.length_nil, List.length_cons, List.nil_append, List.cons_append]
  iterate 1
    refine Stairs.that (ReadsT ct) (by first | assumption | simp) ?_ ?_
    · intro x wR hR hd K hK
      simp only [Act.put, List.setIfInBounds_toArray, List.set_cons_zero, List.set_cons_succ, Nat.reduceAdd, List.length_nil, List.length_cons, List.nil_append, List.cons_append, Say.ok] at hK ⊢
      clear hd
      change Hid _ at hK
      obtain ⟨hcR, hfR, hzR⟩ := nwc hR
      first | (refine wanted_yes ?_ ?_; rfl) | (refine wanted_no ?_ ?_; rfl)
      go_wp2_with (first 
    | (go_at_call 24; refine (HMY.out _ (by repeat (first | assumption | exact Nw.refl _ | refine Nw.alloc ?_ _ | refine Nw.drew ?_ | refine Nw.drewN2 ?_ _ | (refine Nw.trans ?_ (by assumption))))).mono ?_; rintro e w5 ⟨rfl, hn5⟩)
    | (go_at_call 22; (with_reducible refine (HT1.out _ ?_).mono ?_); exact (by repeat (first | assumption | exact Nw.refl _ | refine Nw.alloc ?_ _ | refine Nw.drew ?_ | refine Nw.drewN2 ?_ _ | (refine Nw.trans ?_ (by assumption)))); rintro e w5 ⟨rfl, hn5⟩)
    | (go_at_call 22; (with_reducible refine (HT2.out _ ?_).mono ?_); exact (by repeat (first | assumption | exact Nw.refl _ | refine Nw.alloc ?_ _ | refine Nw.drew ?_ | refine Nw.drewN2 ?_ _ | (refine Nw.trans ?_ (by assumption)))); rintro e w5 ⟨rfl, hn5⟩)
    | (go_at_call 22; refine (HT3.out _ _ (by repeat (first | assumption | exact Nw.refl _ | refine Nw.alloc ?_ _ | refine Nw.drew ?_ | refine Nw.drewN2 ?_ _ | (refine Nw.trans ?_ (by assumption)))) (by first | exact hd | exact hd.1 | exact hd.2 | exact hd.2.1)).mono ?_; rintro e w5 ⟨rfl, hn5⟩)
    | (go_at_call 25; refine (HCT.out _ (by repeat (first | assumption | exact Nw.refl _ | refine Nw.alloc ?_ _ | refine Nw.drew ?_ | refine Nw.drewN2 ?_ _ | (refine Nw.trans ?_ (by assumption))))).mono ?_; rintro e w5 ⟨v5, rfl, hr5, hn5⟩))
      all_goals (refine hK.out _ _ ?_ ?_ <;> first | (solve | (repeat (first | assumption | exact Nw.refl _ | refine Nw.alloc ?_ _ | refine Nw.drew ?_ | refine Nw.drewN2 ?_ _ | (refine Nw.trans ?_ (by assumption))))) | exact rfl | exact hr5)
    try simp only [Act.put, List.setIfInBounds_toArray, List.set_cons_zero, List.set_cons_succ, Nat.reduceAdd, List.length_nil, List.length_cons, List.nil_append, List.cons_append]
  iterate 7
    refine Stairs.is ?_ ?_ ?_
    rotate_left 1
    · intro x wR hR hd K hK
      simp only [Act.put, List.setIfInBounds_toArray, List.set_cons_zero, List.set_cons_succ, Nat.reduceAdd, List.length_nil, List.length_cons, List.nil_append, List.cons_append, Say.ok] at hK ⊢
      try simp [Region.binds, sayAt, List.getD_cons_zero, List.getD_cons_succ, Say.ok, Vl] at hd
      try (first | have hs := str_ok hd | have hs := str_ok hd.2 | have hs := str_ok hd.1 | (obtain ⟨hd1, hd2, hd3⟩ := hd; first | have hs := str_ok hd1 | have hs := str_ok hd2 | have hs := str_ok hd3))
      change Hid _ at hK
      obtain ⟨hcR, hfR, hzR⟩ := nwc hR
      first | (refine wanted_yes ?_ ?_; rfl) | (refine wanted_no ?_ ?_; rfl)
      go_wp2_with (first 
    | (go_at_call 24; refine (HMY.out _ (by repeat (first | assumption | exact Nw.refl _ | refine Nw.alloc ?_ _ | refine Nw.drew ?_ | refine Nw.drewN2 ?_ _ | (refine Nw.trans ?_ (by assumption))))).mono ?_; rintro e w5 ⟨rfl, hn5⟩)
    | (go_at_call 22; (with_reducible refine (HT1.out _ ?_).mono ?_); exact (by repeat (first | assumption | exact Nw.refl _ | refine Nw.alloc ?_ _ | refine Nw.drew ?_ | refine Nw.drewN2 ?_ _ | (refine Nw.trans ?_ (by assumption)))); rintro e w5 ⟨rfl, hn5⟩)
    | (go_at_call 22; (with_reducible refine (HT2.out _ ?_).mono ?_); exact (by repeat (first | assumption | exact Nw.refl _ | refine Nw.alloc ?_ _ | refine Nw.drew ?_ | refine Nw.drewN2 ?_ _ | (refine Nw.trans ?_ (by assumption)))); rintro e w5 ⟨rfl, hn5⟩)
    | (go_at_call 22; refine (HT3.out _ _ (by repeat (first | assumption | exact Nw.refl _ | refine Nw.alloc ?_ _ | refine Nw.drew ?_ | refine Nw.drewN2 ?_ _ | (refine Nw.trans ?_ (by assumption)))) (by first | exact hd | exact hd.1 | exact hd.2 | exact hd.2.1)).mono ?_; rintro e w5 ⟨rfl, hn5⟩)
    | (go_at_call 25; refine (HCT.out _ (by repeat (first | assumption | exact Nw.refl _ | refine Nw.alloc ?_ _ | refine Nw.drew ?_ | refine Nw.drewN2 ?_ _ | (refine Nw.trans ?_ (by assumption))))).mono ?_; rintro e w5 ⟨v5, rfl, hr5, hn5⟩))
      all_goals (refine hK.out _ _ ?_ ?_ <;> first | (solve | (repeat (first | assumption | exact Nw.refl _ | refine Nw.alloc ?_ _ | refine Nw.drew ?_ | refine Nw.drewN2 ?_ _ | (refine Nw.trans ?_ (by assumption))))) | exact rfl | exact hr5)
    try simp only [Act.put, List.setIfInBounds_toArray, List.set_cons_zero, List.set_cons_succ, Nat.reduceAdd, List.length_nil, List.length_cons, List.nil_append, List.cons_append]
  refine Stairs.nil ?_
  intro x wR hR hx
  have h21 := hx 21 (by decide)
  simp only [sayAt, List.getD_cons_zero, List.getD_cons_succ, Say.ok, Vl] at h21
  clear hx
  obtain ⟨hcR, hfR, hzR⟩ := nwc hR
  clear h21 HT1 HT2 HT3 HCT HMY
  have x0 := hR.cell x0
  have x1 := hR.cell x1
  have hz0 := Nat.lt_of_lt_of_le hz0 hR.size
  go_wp2
  go_loopw [13, 14, 55] (fun _ _ i wr => ∃ k : Nat, k ≤ a.evs.length ∧ i = .int .i64 k ∧ Nw wR wr) (fun _ _ i _ => a.evs.length - (intOf i).toNat)
  case atStart => exact ⟨0, Nat.zero_le _, rfl, Nw.refl _⟩
  case round =>
    obtain ⟨k, hk, rfl, hnr⟩ := hrel
    have x0 := hnr.cell x0
    have x1 := hnr.cell x1
    have hz0 := Nat.lt_of_lt_of_le hz0 hnr.size
    by_cases hlt : k < a.evs.length
    · have hdk : decide (k < a.evs.length) = true := decide_eq_true hlt
      obtain ⟨b1, o1, vi, rfl, d0, d1, hsl⟩ := (HC3.out.nw (hR.trans hnr)) k hlt
      obtain ⟨q, c, rfl, hcq, hmq, _, _⟩ := i64s_open hsl
      have HHK := hid (fun j hj => HHO.out k j hlt hj)
      unfold maxLen at hmq
      clear HHO
      generalize ids a.evs k = l at *
      generalize tm a.evs k = tk at *
      go_wp2
      have hnz := (Nw.refl wr).alloc (.cells #[.int .u64 tk, .slice q l.length c] 39)
      obtain ⟨z0, z1⟩ := box2 wr (.int .u64 tk) (.slice q l.length c) 39
      have xA0 := hnz.cell x0
      have xA1 := hnz.cell x1
      have hzA := Nat.lt_of_lt_of_le hz0 hnz.size
      have hzz := lt_alloc wr (.cells #[.int .u64 tk, .slice q l.length c] 39)
      generalize wr.alloc (.cells #[.int .u64 tk, .slice q l.length c] 39) = wz at *
      have HSZ := hid (hsl.nw hnz)
      have hno := hnr.trans hnz
      generalize wr.heap.size = g14 at *
      clear hsl hnz d0 d1 hnr
      go_loopw [15, 16, 63] (fun _ _ i wq => ∃ j : Nat, j ≤ 3 ∧ i = .int .i64 j ∧ Nw wz wq) (fun _ _ i _ => 3 - (intOf i).toNat)
      case atStart => exact ⟨0, by omega, rfl, Nw.refl _⟩
      case round =>
        obtain ⟨j, hj, rfl, hnq⟩ := hrel
        have xB0 := hnq.cell xA0
        have xB1 := hnq.cell xA1
        have zB1 := hnq.cell z1
        have hzB := Nat.lt_of_lt_of_le hzA hnq.size
        have hzzB := Nat.lt_of_lt_of_le hzz hnq.size
        have hwq := hR.trans (hno.trans hnq)
        by_cases hltj : j < 3
        · have hdj : decide ((j : Int) < 3) = true := decide_eq_true (by omega)
          obtain ⟨b3, o3, rfl, hcj⟩ := strs_cell (HCN.out.nw hwq) j (show j < pqr.length from hltj)
          have egj : pqr[j]'(show j < pqr.length from hltj) = pqr.getD j ⟨#[]⟩ := by simp [List.getD_eq_getElem?_getD, show j < pqr.length from hltj]
          rw [egj] at hcj
          have HHJ := hid (HHK.out j hltj)
          have HCJ := hid (fun w' (h : Nw wr w') => containsi_c (.slice q l.length c) l (j : Int) w' (HSZ.out.nw (hnq.trans h)))
          clear egj HHK
          generalize pqr.getD j ⟨#[]⟩ = sj at *
          generalize decide ((j : Int) ∈ l) = B at *
          go_upto_region 10 with fail
          refine wp_region_stairs (by kernel_rfl) (by kernel_rfl) (by kernel_rfl) ?_
          iterate 9
            refine Stairs.is ?_ ?_ ?_
            rotate_left 1
            · intro x wR hR hd K hK
              simp only [Act.put, List.setIfInBounds_toArray, List.set_cons_zero, List.set_cons_succ, Nat.reduceAdd, List.length_nil, List.length_cons, List.nil_append, List.cons_append, Say.ok] at hK ⊢
              clear hd
              change Hid _ at hK
              obtain ⟨hcR, hfR, hzR⟩ := nwc hR
              first | (refine wanted_yes ?_ ?_; rfl) | (refine wanted_no ?_ ?_; rfl)
              go_wp2_with (first 
            | (go_at_call 26; refine (HHJ.out _ (hwq.trans (by repeat (first | assumption | exact Nw.refl _ | refine Nw.alloc ?_ _ | refine Nw.drew ?_ | refine Nw.drewN2 ?_ _ | (refine Nw.trans ?_ (by assumption)))))).mono ?_; rintro e w6 ⟨rfl, hn6⟩)
            | (go_at_call 27; refine (HCJ.out _ (by repeat (first | assumption | exact Nw.refl _ | refine Nw.alloc ?_ _ | refine Nw.drew ?_ | refine Nw.drewN2 ?_ _ | (refine Nw.trans ?_ (by assumption))))).mono ?_; rintro e w7 ⟨rfl, hn7⟩))
              all_goals (refine hK.out _ _ ?_ ?_ <;> first | (solve | (repeat (first | assumption | exact Nw.refl _ | refine Nw.alloc ?_ _ | refine Nw.drew ?_ | refine Nw.drewN2 ?_ _ | (refine Nw.trans ?_ (by assumption))))) | exact rfl)
            try simp only [Act.put, List.setIfInBounds_toArray, List.set_cons_zero, List.set_cons_succ, Nat.reduceAdd, List.length_nil, List.length_cons, List.nil_append, List.cons_append]
          refine Stairs.nil ?_
          intro x wR hR hx
          clear hx
          obtain ⟨hcR, hfR, hzR⟩ := nwc hR
          go_wp2
          go_roundw
          case rel => exact ⟨j + 1, by omega, by go_num, hnq.trans (by repeat (first | assumption | exact Nw.refl _ | refine Nw.alloc ?_ _ | refine Nw.drew ?_ | refine Nw.drewN2 ?_ _ | (refine Nw.trans ?_ (by assumption))))⟩
          case measure => simp [intOf]; omega
        · obtain rfl : j = 3 := by omega
          have hdj : decide ((3 : Int) < 3) = false := rfl
          go_wp2
          go_roundw
          case rel => exact ⟨k + 1, by omega, by go_num, hno.trans hnq⟩
          case measure => simp [intOf]; omega
    · obtain rfl : k = a.evs.length := by omega
      have hdk : decide (a.evs.length < a.evs.length) = false := decide_eq_false (by omega)
      go_wp2_with (first
        | (go_at_call 17; refine (awake_c _).mono ?_; rintro e w6 ⟨rfl, hn6⟩)
        | fail)
      go_ret
      exact ⟨rfl, hw3.trans (hR.trans (hnr.trans (by repeat (first | assumption | exact Nw.refl _ | refine Nw.alloc ?_ _ | refine Nw.drew ?_ | refine Nw.drewN2 ?_ _ | (refine Nw.trans ?_ (by assumption))))))⟩
end Tr
end Go.Proofs.Ytjelbfodkacipaa
