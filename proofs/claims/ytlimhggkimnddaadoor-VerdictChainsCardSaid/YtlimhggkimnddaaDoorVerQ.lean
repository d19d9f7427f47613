/- The contract of the reference's Resolve. No condition but lengths. -/
import Derived.Test.YtlimhggkimnddaaDoorVerP
set_option linter.unusedSimpArgs false
set_option linter.unusedVariables false
namespace Go.Proofs.YtlimhggkimnddaaDoor
open Go.ChangeShapes Go.WideShapes Go.ChangeAt Go.RowKit
namespace Vd
/-- Values under way: a row of the call's own, in block g. -/
def OutN (w : World) (g : Nat) (l : List It) (out : List Bool) (wr : World) : Prop :=
  Own wr g 4 (.slice (some ⟨g, 0, none⟩) l.length l.length) (bls out) ∧ Nw w wr
theorem OutN.nw {w wr w' : World} {g : Nat} {l : List It} {out : List Bool} (h : OutN w g l out wr) (hn : Nw wr w') : OutN w g l out w' := ⟨h.1.nw hn, h.2.trans hn⟩
theorem OutN.set {w wr : World} {g : Nat} {l : List It} {out : List Bool} (h : OutN w g l out wr) (hl : out.length = l.length) (hg : w.heap.size ≤ g) (j : Nat) (x : Bool) : OutN w g l (out.set j x) (wr.setCell ⟨g, j, none⟩ (.bool x)) := by
  refine ⟨?_, h.2.setCell (p := ⟨g, j, none⟩) hg _⟩
  have := h.1.set (by rw [bls_length, hl]) j (.bool x)
  rw [show bls (out.set j x) = (bls out).set j (.bool x) by simp [bls, List.map_set]]
  exact this
theorem OutN.cell {w wr : World} {g : Nat} {l : List It} {out : List Bool} (h : OutN w g l out wr) (hl : out.length = l.length) {j : Nat} (hj : j < l.length) : wr.cell? ⟨g, j, none⟩ = some (.bool (out.getD j false)) ∧ wr.frozen? ⟨g, j, none⟩ = false := by
  refine ⟨?_, h.1.frozen (by rw [bls_length, hl]) j⟩
  rw [h.1.cell (by rw [bls_length, hl]) j (by rw [bls_length, hl]; exact hj)]
  simp [bls, List.getD_eq_getElem?_getD, List.getElem?_eq_getElem (show j < out.length by omega)]
theorem nor2 {a b : Prop} (h1 : ¬ a) (h2 : ¬ b) : ¬ (a ∨ b) := fun h => h.elim h1 h2
set_option maxRecDepth 20000 in
set_option maxHeartbeats 4000000 in
theorem rresolve_c (n : Int) (v : Value) (l : List It) (w : World) (hv : Its w v l) (hl : l.length ≤ 1000000000) (hn : -9223372036854775808 ≤ n ∧ n ≤ 9223372036854775807) :
    Calls Tryd.prog 16 #[.int .i64 n, v] w (HandsV w (res n l)) := by
  obtain ⟨p, cap, rfl, hcap, hmx, hp0, hc⟩ := hv.open rfl
  have HC := hid hc
  clear hc
  by_cases hn0 : n < 0
  · have d0 : decide (n < 0) = true := decide_eq_true hn0
    have HE := hid (res_neg (l := l) hn0)
    clear hn0
    go_enter Tryd.func16, Tryd.ntmps16
    go_wp2
    go_ret2
    exact handsV_bad HE.out (by repeat (first | assumption | exact Nw.refl _ | refine Nw.alloc ?_ _ | refine Nw.drew ?_ | refine Nw.drewN2 ?_ _ | (refine Nw.trans ?_ (by assumption))))
  · have d0 : decide (n < 0) = false := decide_eq_false hn0
    have hn1 : 0 ≤ n := by omega
    clear hn0
    go_enter Tryd.func16, Tryd.ntmps16
    go_wp2
    go_loopw [18] (fun i wr => ∃ k : Nat, k ≤ l.length ∧ i = .int .i64 k ∧ Hid (okUp n l k) ∧ Nw w wr) (fun i _ => l.length - (intOf i).toNat)
    case atStart => exact ⟨0, Nat.zero_le _, rfl, hid (okUp_zero _ _), (by repeat (first | assumption | exact Nw.refl _ | refine Nw.alloc ?_ _ | refine Nw.drew ?_ | refine Nw.drewN2 ?_ _ | (refine Nw.trans ?_ (by assumption))))⟩
    case round =>
      obtain ⟨k, hk, rfl, hok, hnr⟩ := hrel
      by_cases hlt : k < l.length
      · have hdk : decide (k < l.length) = true := decide_eq_true hlt
        obtain ⟨x, hx⟩ : ∃ x, l[k]? = some x := ⟨l[k], by simp [hlt]⟩
        have HST := hid (fun h1 h2 => okUp_step hok.out hx h1 h2)
        have HBW := hid (fun h => not_ok_wrong (n := n) hx h)
        have HBT := hid (fun i y (h1 : l[i]? = some y) (h2 : i < k) h3 => not_ok_two (n := n) hx h1 h2 h3)
        obtain ⟨x0, x1, x2, x3⟩ := x
        obtain ⟨b0, oo, rfl, c0, c1, c2, c3⟩ := (HC.out.nw hnr) k _ hx
        simp only at c0 c1 c2 c3
        have hz := World.block_lt_of_cell? wr _ c0
        simp only at hz
        clear hx
        by_cases h1 : x0 = 1
        · have e1 : (x0 == 1) = true := by simpa using h1
          have e1' : (x0 != 1) = false := by simpa using h1
          have e2 : (x0 == 2) = false := by simp [h1]
          have e2' : (x0 != 2) = true := by simp [h1]
          by_cases h3 : x1 < 0
          · have d3 : decide (x1 < 0) = true := decide_eq_true h3
            have HE := hid (res_bad hn1 (HBW.out (by unfold wrong; simp only; exact if_pos (Or.inl h3))))
            clear h1 h3
            go_wp2
            go_ret2
            exact handsV_bad HE.out (by repeat (first | assumption | exact Nw.refl _ | refine Nw.alloc ?_ _ | refine Nw.drew ?_ | refine Nw.drewN2 ?_ _ | (refine Nw.trans ?_ (by assumption))))
          · have d3 : decide (x1 < 0) = false := decide_eq_false h3
            by_cases h4 : n ≤ x1
            · have d4 : decide (n ≤ x1) = true := decide_eq_true h4
              have HE := hid (res_bad hn1 (HBW.out (by unfold wrong; simp only; exact if_pos (Or.inr h4))))
              clear h1 h3 h4
              go_wp2
              go_ret2
              exact handsV_bad HE.out (by repeat (first | assumption | exact Nw.refl _ | refine Nw.alloc ?_ _ | refine Nw.drew ?_ | refine Nw.drewN2 ?_ _ | (refine Nw.trans ?_ (by assumption))))
            · have d4 : decide (n ≤ x1) = false := decide_eq_false h4
              have HST1 := hid (fun hq2 => HST.out (by unfold wrong; simp only; rw [if_neg (nor2 h3 h4), if_neg (by rw [h1]; decide)]; simp [h1]) hq2)
              have hil : (k : Int) ≤ cap := by omega
              have hkl2 : k ≤ cap := by omega
              clear h1 h3 h4
              go_wp2
              go_loopw [64] (fun i wq => ∃ j : Nat, j ≤ k ∧ i = .int .i64 j ∧ Hid (∀ i y, i < j → l[i]? = some y → y.2.1 ≠ x1) ∧ Nw (wr.alloc (.cells #[.int .i64 x0, .int .i64 x1, .bool x2, .int .i64 x3] 30)) wq) (fun i _ => k - (intOf i).toNat)
              case atStart => exact ⟨0, Nat.zero_le _, rfl, hid (fun i y h => absurd h (Nat.not_lt_zero _)), Nw.refl _⟩
              case round =>
                obtain ⟨j, hj, rfl, hno, hnq⟩ := hrel
                have hnw2 : Nw w wr := hnr.trans (((Nw.refl _).alloc _).trans hnq)
                obtain ⟨g0, g1, g2, g3, f0, f1, f2, f3⟩ := it_cells (hnq.heap (heap_new _ _))
                by_cases hjk : j < k
                · have djk : decide (j < k) = true := decide_eq_true hjk
                  have hji : (j : Int) < k := by omega
                  obtain ⟨y, hy⟩ : ∃ y, l[j]? = some y := ⟨l[j], by simp [show j < l.length by omega]⟩
                  have HB := hid (fun h3 => HBT.out j y hy hjk h3)
                  have HN := hid (fun (h3 : y.2.1 ≠ x1) => show ∀ i y', i < j + 1 → l[i]? = some y' → y'.2.1 ≠ x1 from fun i y' h1 h2 => by
                    by_cases e : i = j
                    · subst e; rw [hy] at h2; cases h2; exact h3
                    · exact hno.out i y' (by omega) h2)
                  obtain ⟨y0, y1, y2, y3⟩ := y
                  obtain ⟨b1, o1, eb, d0, d1, d2, d3⟩ := (HC.out.nw hnw2) j _ hy
                  obtain ⟨rfl, rfl⟩ : b0 = b1 ∧ oo = o1 := by cases eb; exact ⟨rfl, rfl⟩
                  simp only at d0 d1 d2 d3
                  have hz2 := World.block_lt_of_cell? wr _ d0
                  have hz3 := World.block_lt_of_cell? wr _ g0
                  simp only at hz2 hz3
                  clear hy eb
                  by_cases he : y1 = x1
                  · have de : (y1 == x1) = true := by simpa using he
                    have HE := hid (res_bad hn1 (HB.out he))
                    clear he hjk
                    go_wp2
                    go_ret2
                    exact handsV_bad HE.out (by repeat (first | assumption | exact Nw.refl _ | refine Nw.alloc ?_ _ | refine Nw.drew ?_ | refine Nw.drewN2 ?_ _ | (refine Nw.trans ?_ (by assumption))))
                  · have de : (y1 == x1) = false := by simpa using he
                    have HN2 := hid (HN.out he)
                    clear he hjk
                    go_wp2
                    go_roundw
                    case rel => exact ⟨j + 1, by omega, by go_num, HN2, (by repeat (first | assumption | exact Nw.refl _ | refine Nw.alloc ?_ _ | refine Nw.drew ?_ | refine Nw.drewN2 ?_ _ | (refine Nw.trans ?_ (by assumption))))⟩
                    case measure => simp [intOf]; omega
                · obtain rfl : j = k := by omega
                  have djk : decide (j < j) = false := decide_eq_false (Nat.lt_irrefl _)
                  have HOK2 := hid (HST1.out hno.out)
                  clear hjk
                  go_wp2
                  go_roundw
                  case rel => exact ⟨j + 1, by omega, by go_num, HOK2, hnw2⟩
                  case measure => simp [intOf]; omega
        · have e1 : (x0 == 1) = false := by simpa using h1
          have e1' : (x0 != 1) = true := by simpa using h1
          by_cases h2 : x0 = 2
          · have e2 : (x0 == 2) = true := by simpa using h2
            have e2' : (x0 != 2) = false := by simpa using h2
            by_cases h3 : x1 < 0
            · have d3 : decide (x1 < 0) = true := decide_eq_true h3
              have HE := hid (res_bad hn1 (HBW.out (by unfold wrong; simp only; exact if_pos (Or.inl h3))))
              clear h1 h2 h3
              go_wp2
              go_ret2
              exact handsV_bad HE.out (by repeat (first | assumption | exact Nw.refl _ | refine Nw.alloc ?_ _ | refine Nw.drew ?_ | refine Nw.drewN2 ?_ _ | (refine Nw.trans ?_ (by assumption))))
            · have d3 : decide (x1 < 0) = false := decide_eq_false h3
              by_cases h4 : n ≤ x1
              · have d4 : decide (n ≤ x1) = true := decide_eq_true h4
                have HE := hid (res_bad hn1 (HBW.out (by unfold wrong; simp only; exact if_pos (Or.inr h4))))
                clear h1 h2 h3 h4
                go_wp2
                go_ret2
                exact handsV_bad HE.out (by repeat (first | assumption | exact Nw.refl _ | refine Nw.alloc ?_ _ | refine Nw.drew ?_ | refine Nw.drewN2 ?_ _ | (refine Nw.trans ?_ (by assumption))))
              · have d4 : decide (n ≤ x1) = false := decide_eq_false h4
                by_cases h5 : x3 ≤ x1
                · have d5 : decide (x3 ≤ x1) = true := decide_eq_true h5
                  have HE := hid (res_bad hn1 (HBW.out (by unfold wrong; simp only; rw [if_neg (nor2 h3 h4), if_pos h2]; exact decide_eq_true (Or.inl h5))))
                  clear h1 h2 h3 h4 h5
                  go_wp2
                  go_ret2
                  exact handsV_bad HE.out (by repeat (first | assumption | exact Nw.refl _ | refine Nw.alloc ?_ _ | refine Nw.drew ?_ | refine Nw.drewN2 ?_ _ | (refine Nw.trans ?_ (by assumption))))
                · have d5 : decide (x3 ≤ x1) = false := decide_eq_false h5
                  by_cases h6 : n ≤ x3
                  · have d6 : decide (n ≤ x3) = true := decide_eq_true h6
                    have HE := hid (res_bad hn1 (HBW.out (by unfold wrong; simp only; rw [if_neg (nor2 h3 h4), if_pos h2]; exact decide_eq_true (Or.inr h6))))
                    clear h1 h2 h3 h4 h5 h6
                    go_wp2
                    go_ret2
                    exact handsV_bad HE.out (by repeat (first | assumption | exact Nw.refl _ | refine Nw.alloc ?_ _ | refine Nw.drew ?_ | refine Nw.drewN2 ?_ _ | (refine Nw.trans ?_ (by assumption))))
                  · have d6 : decide (n ≤ x3) = false := decide_eq_false h6
                    have HST1 := hid (fun hq2 => HST.out (by unfold wrong; simp only; rw [if_neg (nor2 h3 h4), if_pos h2]; exact decide_eq_false (nor2 h5 h6)) hq2)
                    have hil : (k : Int) ≤ cap := by omega
                    have hkl2 : k ≤ cap := by omega
                    clear h1 h2 h3 h4 h5 h6
                    go_wp2
                    go_loopw [64] (fun i wq => ∃ j : Nat, j ≤ k ∧ i = .int .i64 j ∧ Hid (∀ i y, i < j → l[i]? = some y → y.2.1 ≠ x1) ∧ Nw (wr.alloc (.cells #[.int .i64 x0, .int .i64 x1, .bool x2, .int .i64 x3] 30)) wq) (fun i _ => k - (intOf i).toNat)
                    case atStart => exact ⟨0, Nat.zero_le _, rfl, hid (fun i y h => absurd h (Nat.not_lt_zero _)), Nw.refl _⟩
                    case round =>
                      obtain ⟨j, hj, rfl, hno, hnq⟩ := hrel
                      have hnw2 : Nw w wr := hnr.trans (((Nw.refl _).alloc _).trans hnq)
                      obtain ⟨g0, g1, g2, g3, f0, f1, f2, f3⟩ := it_cells (hnq.heap (heap_new _ _))
                      by_cases hjk : j < k
                      · have djk : decide (j < k) = true := decide_eq_true hjk
                        have hji : (j : Int) < k := by omega
                        obtain ⟨y, hy⟩ : ∃ y, l[j]? = some y := ⟨l[j], by simp [show j < l.length by omega]⟩
                        have HB := hid (fun h3 => HBT.out j y hy hjk h3)
                        have HN := hid (fun (h3 : y.2.1 ≠ x1) => show ∀ i y', i < j + 1 → l[i]? = some y' → y'.2.1 ≠ x1 from fun i y' h1 h2 => by
                          by_cases e : i = j
                          · subst e; rw [hy] at h2; cases h2; exact h3
                          · exact hno.out i y' (by omega) h2)
                        obtain ⟨y0, y1, y2, y3⟩ := y
                        obtain ⟨b1, o1, eb, d0, d1, d2, d3⟩ := (HC.out.nw hnw2) j _ hy
                        obtain ⟨rfl, rfl⟩ : b0 = b1 ∧ oo = o1 := by cases eb; exact ⟨rfl, rfl⟩
                        simp only at d0 d1 d2 d3
                        have hz2 := World.block_lt_of_cell? wr _ d0
                        have hz3 := World.block_lt_of_cell? wr _ g0
                        simp only at hz2 hz3
                        clear hy eb
                        by_cases he : y1 = x1
                        · have de : (y1 == x1) = true := by simpa using he
                          have HE := hid (res_bad hn1 (HB.out he))
                          clear he hjk
                          go_wp2
                          go_ret2
                          exact handsV_bad HE.out (by repeat (first | assumption | exact Nw.refl _ | refine Nw.alloc ?_ _ | refine Nw.drew ?_ | refine Nw.drewN2 ?_ _ | (refine Nw.trans ?_ (by assumption))))
                        · have de : (y1 == x1) = false := by simpa using he
                          have HN2 := hid (HN.out he)
                          clear he hjk
                          go_wp2
                          go_roundw
                          case rel => exact ⟨j + 1, by omega, by go_num, HN2, (by repeat (first | assumption | exact Nw.refl _ | refine Nw.alloc ?_ _ | refine Nw.drew ?_ | refine Nw.drewN2 ?_ _ | (refine Nw.trans ?_ (by assumption))))⟩
                          case measure => simp [intOf]; omega
                      · obtain rfl : j = k := by omega
                        have djk : decide (j < j) = false := decide_eq_false (Nat.lt_irrefl _)
                        have HOK2 := hid (HST1.out hno.out)
                        clear hjk
                        go_wp2
                        go_roundw
                        case rel => exact ⟨j + 1, by omega, by go_num, HOK2, hnw2⟩
                        case measure => simp [intOf]; omega
          · have e2 : (x0 == 2) = false := by simpa using h2
            have e2' : (x0 != 2) = true := by simpa using h2
            have HE := hid (res_bad hn1 (HBW.out (by unfold wrong; simp only; split; rfl; exact decide_eq_true h1)))
            clear h1 h2
            go_wp2
            go_ret2
            exact handsV_bad HE.out (by repeat (first | assumption | exact Nw.refl _ | refine Nw.alloc ?_ _ | refine Nw.drew ?_ | refine Nw.drewN2 ?_ _ | (refine Nw.trans ?_ (by assumption))))
      · obtain rfl : k = l.length := by omega
        have hdk : decide (l.length < l.length) = false := decide_eq_false (Nat.lt_irrefl _)
        have HOKn := hid (show ok n l from hok.out)
        clear hok
        by_cases hlen : (l.length : Int) < n
        · have d7 : decide ((l.length : Int) < n) = true := decide_eq_true hlen
          have HE := hid (res_few hn1 HOKn.out (by omega))
          clear hlen
          go_wp2
          go_ret2
          exact handsV_bad HE.out (by repeat (first | assumption | exact Nw.refl _ | refine Nw.alloc ?_ _ | refine Nw.drew ?_ | refine Nw.drewN2 ?_ _ | (refine Nw.trans ?_ (by assumption))))
        · have d7 : decide ((l.length : Int) < n) = false := decide_eq_false hlen
          obtain ⟨N, rfl⟩ : ∃ N : Nat, n = N := ⟨n.toNat, by omega⟩
          have hle := ok_le HOKn.out
          obtain rfl : l.length = N := by omega
          clear hle hlen
          have HRS := hid (res_ok hn1 HOKn.out rfl)
          rw [Int.toNat_natCast] at HRS
          have HOK := hid (show ok (l.length : Int) l from HOKn.out)
          clear HOKn hdk
          go_wp2_with (first
            | (at_make; refine mk1f rfl _ _ _ rfl _ _ _ Tryd.underlying36 info_bool (by decide) rfl (Nw.refl wr) l.length rfl rfl ?_ rfl rfl (by omega); intro w2 ho2 hn2 hz2)
            | fail)
          obtain ⟨g, hg⟩ : ∃ g, g = wr.heap.size := ⟨_, rfl⟩
          have hgs := hnr.size
          rw [← hg] at ho2 hz2 hgs ⊢
          have hgw2 : w.heap.size ≤ g := hgs
          have HST := hid (show OutN w g l (List.replicate l.length false) w2 from ⟨by unfold bls; rw [List.map_replicate]; exact ho2, hnr.trans hn2⟩)
          clear hg ho2
          go_loopw [11] (fun i w3 => ∃ (m : Nat) (out : List Bool), m ≤ l.length ∧ i = .int .i64 ((m : Int) - 1) ∧ out.length = l.length ∧ OutN w g l out w3 ∧ Hid (runR l out m = vals l l.length) ∧ g < w3.heap.size) (fun i _ => (intOf i + 1).toNat)
          case atStart => exact ⟨l.length, List.replicate l.length false, Nat.le_refl _, by go_num, by rw [List.length_replicate], HST.out, hid rfl, hz2⟩
          case round =>
            obtain ⟨m, out, hm, rfl, hol, hst, hrun, hgz⟩ := hrel
            cases m with
            | zero =>
              rw [show (((0 : Nat) : Int) - 1) = -1 from rfl]
              rw [runR] at hrun
              go_wp2
              go_ret2
              exact handsV_ok HRS.out (by rw [← hrun.out]; exact hst.1.sl) hst.2
            | succ j =>
              rw [show (((j + 1 : Nat) : Int) - 1) = (j : Int) by omega]
              obtain ⟨pp, hpp, hix, hwx⟩ := at_ok HOK.out rfl (i := j) (by omega)
              have hppl : pp < l.length := (List.getElem?_eq_some_iff.1 hpp).1
              have hrun2 : runR l (out.set j (cellv (at_ l j) out)) j = vals l l.length := hrun.out
              have HRUN := hid hrun2
              clear hrun2 hrun
              have hwn := wrong_no hwx
              have HPP := hid hpp
              have HUN := hid (fun (q : Nat) (y : It) (hy : l[q]? = some y) (e : y.2.1 = (j : Int)) => ok_uniq HOK.out hy hpp (e.trans hix.symm))
              clear hpp hwx
              have HS := hid hst
              have hjl : j < l.length := by omega
              have hji : (j : Int) < l.length := by omega
              clear hst
              go_wp2
              go_loopw [89] (fun i wq => ∃ (q : Nat) (out2 : List Bool), q ≤ l.length ∧ i = .int .i64 q ∧ Hid (out2 = if pp < q then out.set j (cellv (at_ l j) out) else out) ∧ OutN w g l out2 wq ∧ g < wq.heap.size) (fun i _ => l.length - (intOf i).toNat)
              case atStart => exact ⟨0, out, Nat.zero_le _, rfl, hid (by rw [if_neg (Nat.not_lt_zero _)]), HS.out, hgz⟩
              case round =>
                obtain ⟨q, out2, hq, rfl, ho2, hst2, hgz2⟩ := hrel
                by_cases hql : q < l.length
                · have dq : decide (q < l.length) = true := decide_eq_true hql
                  obtain ⟨y, hy⟩ : ∃ y, l[q]? = some y := ⟨l[q], by simp [hql]⟩
                  by_cases he : y.2.1 = (j : Int)
                  · obtain rfl := HUN.out q y hy he
                    obtain rfl : at_ l j = y := Option.some.inj (HPP.out.symm.trans hy)
                    have ho3 : out2 = out := by rw [ho2.out, if_neg (Nat.lt_irrefl _)]
                    subst ho3
                    have HX := hid (show (if q < q + 1 then out2.set j (cellv (at_ l j) out2) else out2) = out2.set j (cellv (at_ l j) out2) from if_pos (Nat.lt_succ_self _))
                    obtain ⟨b0, oo, rfl, c0, c1, c2, c3⟩ := (HC.out.nw hst2.2) q _ hy
                    clear hy ho2 he HPP HUN
                    generalize at_ l j = x at *
                    obtain ⟨x0, x1, x2, x3⟩ := x
                    simp only at c0 c1 c2 c3 hwn hix
                    subst hix
                    have hz := World.block_lt_of_cell? wr _ c0
                    simp only at hz
                    obtain ⟨hcj, hfj⟩ := hst2.cell hol hjl
                    have HS2 := hid hst2
                    obtain ⟨_, _, hwn2, _⟩ := hwn
                    clear hst2
                    by_cases h2 : x0 = 2
                    · subst h2
                      obtain ⟨q1, q2⟩ := hwn2 rfl
                      obtain ⟨t, rfl⟩ : ∃ t : Nat, x3 = t := ⟨x3.toNat, by omega⟩
                      have htl : t < l.length := by omega
                      have hti : (t : Int) < l.length := by omega
                      have hjt : ¬ j = t := by omega
                      have htj : ¬ t = j := by omega
                      obtain ⟨hcq, hfq⟩ := HS2.out.cell hol htl
                      have HCV := hid (show cellv (2, (j : Int), x2, (t : Int)) out2 = out2.getD t false from rfl)
                      clear hwn2 q1 q2
                      rw [HCV.out] at HX
                      generalize out2.getD t false = oq at *
                      generalize out2.getD j false = oj at *
                      go_wp2
                      have hS2 := ((HS2.out.set hol hgw2 j x2).set (by rw [List.length_set]; exact hol) hgw2 j oq).nw ((Nw.refl _).alloc (.cells #[.int .i64 2, .int .i64 (j : Int), .bool x2, .int .i64 (t : Int)] 30))
                      rw [List.set_set] at hS2
                      go_roundw
                      case rel => exact ⟨q + 1, out2.set j oq, by omega, by go_num, hid (by rw [HCV.out]; exact HX.out.symm), hS2, (World.ownsRow.lt hS2.1 g rfl).2⟩
                      case measure => simp [intOf]; omega
                    · have d2 : (x0 == 2) = false := by simpa using h2
                      have HCV := hid (show cellv (x0, (j : Int), x2, x3) out2 = x2 from if_neg h2)
                      clear hwn2 h2
                      rw [HCV.out] at HX
                      go_wp2
                      have hS2 := (HS2.out.set hol hgw2 j x2).nw ((Nw.refl _).alloc (.cells #[.int .i64 x0, .int .i64 (j : Int), .bool x2, .int .i64 x3] 30))
                      go_roundw
                      case rel => exact ⟨q + 1, out2.set j x2, by omega, by go_num, hid (by rw [HCV.out]; exact HX.out.symm), hS2, (World.ownsRow.lt hS2.1 g rfl).2⟩
                      case measure => simp [intOf]; omega
                  · have ho3 : (if pp < q + 1 then out.set j (cellv (at_ l j) out) else out) = out2 := by
                      rw [ho2.out]
                      have : q ≠ pp := fun e => by
                        subst e
                        rw [HPP.out] at hy
                        cases hy
                        exact he hix
                      by_cases h5 : pp < q
                      · rw [if_pos h5, if_pos (by omega)]
                      · rw [if_neg h5, if_neg (by omega)]
                    have HX := hid ho3.symm
                    clear ho3 ho2
                    obtain ⟨b0, oo, rfl, c0, c1, c2, c3⟩ := (HC.out.nw hst2.2) q _ hy
                    obtain ⟨x0, x1, x2, x3⟩ := y
                    simp only at c0 c1 c2 c3 he
                    have hz := World.block_lt_of_cell? wr _ c0
                    simp only at hz
                    have de : (x1 == (j : Int)) = false := by simpa using he
                    have de2 : (x1 != (j : Int)) = true := by simpa using he
                    have HS2 := hid hst2
                    clear hy he hst2 hix hwn
                    go_wp2
                    have hS2 := HS2.out.nw ((Nw.refl _).alloc (.cells #[.int .i64 x0, .int .i64 x1, .bool x2, .int .i64 x3] 30))
                    go_roundw
                    case rel => exact ⟨q + 1, out2, by omega, by go_num, HX, hS2, (World.ownsRow.lt hS2.1 g rfl).2⟩
                    case measure => simp [intOf]; omega
                · obtain rfl : q = l.length := by omega
                  have dq : decide (l.length < l.length) = false := decide_eq_false (Nat.lt_irrefl _)
                  have ho3 : out2 = out.set j (cellv (at_ l j) out) := by rw [ho2.out, if_pos hppl]
                  subst ho3
                  have HS2 := hid hst2
                  clear ho2 hst2
                  go_wp2
                  go_roundw
                  case rel => exact ⟨j, _, by omega, rfl, by rw [List.length_set]; exact hol, HS2.out, HRUN, hgz2⟩
                  case measure => simp [intOf]
end Vd
end Go.Proofs.YtlimhggkimnddaaDoor
