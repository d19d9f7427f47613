/- The contract of verdict.Resolve. No condition but lengths. -/
import Derived.Test.YtlimhggkimnddaaDoorVerO
set_option linter.unusedSimpArgs false
set_option linter.unusedVariables false
namespace Go.Proofs.YtlimhggkimnddaaDoor
open Go.ChangeShapes Go.WideShapes Go.ChangeAt Go.RowKit
namespace Vd
def HandsV (w : World) (r : List Bool × Int) (e : Ending) (w' : World) : Prop := ∃ v, e = .returned (.tuple #[v, .int .i64 r.2]) ∧ Sl w' v (bls r.1) ∧ Nw w w'
theorem handsV_bad {w w' : World} {r : List Bool × Int} {z : Int} (h : r = ([], z)) (hn : Nw w w') : HandsV w r (.returned (.tuple #[.slice none 0 0, .int .i64 z])) w' := by
  subst h
  exact ⟨_, rfl, Sl.nil _, hn⟩
theorem handsV_ok {w w' : World} {r : List Bool × Int} {v : Value} {vs : List Bool} (h : r = (vs, 0)) (hs : Sl w' v (bls vs)) (hn : Nw w w') : HandsV w r (.returned (.tuple #[v, .int .i64 0])) w' := by
  subst h
  exact ⟨_, rfl, hs, hn⟩
def Pm (w : World) (b n : Nat) (D : DataW Unit) : Prop := w.ownsMap Tryd.prog 3 (plainElem Tryd.prog 3) b n D
theorem Pm.nw {w w' : World} {b n : Nat} {D : DataW Unit} (h : Pm w b n D) (hn : Nw w w') : Pm w' b n D := om_nw h hn
/-- Values under way: a row of the call's own, in block g; the map of places in block b. -/
def OutSt (w : World) (b g : Nat) (l : List It) (out : List Bool) (wr : World) : Prop :=
  Own wr g 4 (.slice (some ⟨g, 0, none⟩) l.length l.length) (bls out) ∧ Pm wr b l.length (mp l l.length) ∧ Nw w wr
theorem OutSt.nw {w wr w' : World} {b g : Nat} {l : List It} {out : List Bool} (h : OutSt w b g l out wr) (hn : Nw wr w') : OutSt w b g l out w' := ⟨h.1.nw hn, h.2.1.nw hn, h.2.2.trans hn⟩
theorem OutSt.set {w wr : World} {b g : Nat} {l : List It} {out : List Bool} (h : OutSt w b g l out wr) (hl : out.length = l.length) (hb : b ≠ g) (hg : w.heap.size ≤ g) (j : Nat) (x : Bool) : OutSt w b g l (out.set j x) (wr.setCell ⟨g, j, none⟩ (.bool x)) := by
  refine ⟨?_, h.2.1.setCell (a := ⟨g, j, none⟩) hb _, h.2.2.setCell (p := ⟨g, j, none⟩) hg _⟩
  have := h.1.set (by rw [bls_length, hl]) j (.bool x)
  rw [show bls (out.set j x) = (bls out).set j (.bool x) by simp [bls, List.map_set]]
  exact this
theorem OutSt.cell {w wr : World} {b g : Nat} {l : List It} {out : List Bool} (h : OutSt w b g l out wr) (hl : out.length = l.length) {j : Nat} (hj : j < l.length) : wr.cell? ⟨g, j, none⟩ = some (.bool (out.getD j false)) ∧ wr.frozen? ⟨g, j, none⟩ = false := by
  refine ⟨?_, h.1.frozen (by rw [bls_length, hl]) j⟩
  rw [h.1.cell (by rw [bls_length, hl]) j (by rw [bls_length, hl]; exact hj)]
  simp [bls, List.getD_eq_getElem?_getD, List.getElem?_eq_getElem (show j < out.length by omega)]
theorem info_bool : (Tryd.prog.info? 4).map (fun i => (i.zero, i.size, i.bytes)) = some (some (.bool false), 1, 1) := by kernel_rfl
theorem set2 (out : List Bool) (j q : Nat) (a : Bool) (hq : j ≠ q) : (out.set j a).set j ((out.set j a).getD q false) = out.set j (out.getD q false) := by
  rw [List.set_set, List.getD_eq_getElem?_getD, List.getElem?_set, if_neg hq, ← List.getD_eq_getElem?_getD]
theorem wf_of {z : Int} (h : -9223372036854775808 ≤ z ∧ z ≤ 9223372036854775807) : (Lit.int .i64 z).wf = true := by
  have a1 : IntKind.i64.min = -9223372036854775808 := rfl
  have a2 : IntKind.i64.max = 9223372036854775807 := rfl
  simp only [Lit.wf, Bool.and_eq_true, decide_eq_true_eq]
  omega
set_option maxRecDepth 20000 in
set_option maxHeartbeats 4000000 in
theorem resolve_c (n : Int) (v : Value) (l : List It) (w : World) (hv : Its w v l) (hr : ∀ x ∈ l, Rg x) (hl : l.length ≤ 1000000000) (hn : -9223372036854775808 ≤ n ∧ n ≤ 9223372036854775807) :
    Calls Tryd.prog 15 #[.int .i64 n, v] w (HandsV w (res n l)) := by
  obtain ⟨p, cap, rfl, hcap, hmx, hp0, hc⟩ := hv.open rfl
  have HC := hid hc
  have HR := hid hr
  clear hc hr
  by_cases hn0 : n < 0
  · have d0 : decide (n < 0) = true := decide_eq_true hn0
    have HE := hid (res_neg (l := l) hn0)
    clear hn0
    go_enter Tryd.func15, Tryd.ntmps15
    go_wp2
    go_ret2
    exact handsV_bad HE.out (by repeat (first | assumption | exact Nw.refl _ | refine Nw.alloc ?_ _ | refine Nw.drew ?_ | refine Nw.drewN2 ?_ _ | (refine Nw.trans ?_ (by assumption))))
  · have d0 : decide (n < 0) = false := decide_eq_false hn0
    have hn1 : 0 ≤ n := by omega
    clear hn0
    have hmm := run_make2
    have hwlt : w.heap.size < (w.alloc (.map #[] 0)).heap.size := by simp
    go_enter Tryd.func15, Tryd.ntmps15
    go_wp2
    go_loopw [7, 8, 9, 10, 21] (fun _ _ _ _ i wr => ∃ k : Nat, k ≤ l.length ∧ i = .int .i64 k ∧ Pm wr w.heap.size k (mp l k) ∧ Hid (okUp n l k) ∧ Nw w wr ∧ w.heap.size < wr.heap.size) (fun _ _ _ _ i _ => l.length - (intOf i).toNat)
    case atStart => exact ⟨0, Nat.zero_le _, rfl, World.ownsMap_made _ _ _ _, hid (okUp_zero _ _), (by repeat (first | assumption | exact Nw.refl _ | refine Nw.alloc ?_ _ | refine Nw.drew ?_ | refine Nw.drewN2 ?_ _ | (refine Nw.trans ?_ (by assumption)))), hwlt⟩
    case round =>
      obtain ⟨k, hk, rfl, hm, hok, hnr, hwz⟩ := hrel
      clear hwlt
      by_cases hlt : k < l.length
      · have hdk : decide (k < l.length) = true := decide_eq_true hlt
        obtain ⟨x, hx⟩ : ∃ x, l[k]? = some x := ⟨l[k], by simp [hlt]⟩
        have hrx := HR.out x (List.mem_of_getElem? hx)
        have HST := hid (fun h1 h2 => okUp_step hok.out hx h1 h2)
        have HBW := hid (fun h => not_ok_wrong (n := n) hx h)
        have HBT := hid (fun i y (h1 : l[i]? = some y) (h2 : i < k) h3 => not_ok_two (n := n) hx h1 h2 h3)
        have hgx := getD_some hx
        obtain ⟨x0, x1, x2, x3⟩ := x
        have HMP := hid (show mp l (k + 1) = (mp l k).put (.int .i64 x1) (.lit (.int .i64 (k : Int))) by rw [mp, hgx])
        have hhas := mp_has l x1 k hk
        obtain ⟨b0, oo, rfl, c0, c1, c2, c3⟩ := (HC.out.nw hnr) k _ hx
        simp only at c0 c1 c2 c3
        have hz := World.block_lt_of_cell? wr _ c0
        simp only at hz
        have hwf1 : (Lit.int .i64 x1).wf = true := wf_of hrx.2.1
        have hwf2 : (Lit.int .i64 (k : Int)).wf = true := wf_of (by omega)
        have HM := hid hm
        have HWR := hid (fun w' => wrong_c n x0 x1 x3 x2 w')
        unfold itv at HWR
        unfold Pm at HM
        have hgd : ∀ j, j < l.length → l[j]? = some (l.getD j dflt) := fun j hj => by rw [List.getD_eq_getElem?_getD, List.getElem?_eq_getElem hj]; rfl
        cases hb : Maps.has (mp l k) (.int .i64 x1) with
        | true =>
          have HE := hid (res_bad hn1 (by
            obtain ⟨j, h1, h2⟩ := hhas.1 hb
            exact HBT.out j _ (hgd j (by omega)) h1 h2))
          clear hx hrx hgx hm hhas hgd
          go_wp2_with (first
            | (at_lookup; refine wpList_lookup_own_ok_int _ rfl _ _ 57 rfl 3 3 .i64 lawI Tryd.underlying57 Tryd.underlying3 (zeroI _) w.heap.size k _ rfl (om_nw HM.out (by repeat (first | assumption | exact Nw.refl _ | refine Nw.alloc ?_ _ | refine Nw.drew ?_ | refine Nw.drewN2 ?_ _ | (refine Nw.trans ?_ (by assumption))))) _ _ rfl (Maps.keyOf_int_mk Tryd.underlying3 hwf1) ?_; intro c hat hwc)
            | fail)
          go_ret2
          exact handsV_bad HE.out (by repeat (first | assumption | exact Nw.refl _ | refine Nw.alloc ?_ _ | refine Nw.drew ?_ | refine Nw.drewN2 ?_ _ | (refine Nw.trans ?_ (by assumption))))
        | false =>
          have HNO := hid (show ∀ i y, i < k → l[i]? = some y → y.2.1 ≠ x1 from fun i y h1 h2 h3 => by
            have := hhas.2 ⟨i, h1, by rw [getD_some h2]; exact h3⟩
            rw [hb] at this; cases this)
          cases hw : wrong n (x0, x1, x2, x3) with
          | true =>
            have HE := hid (res_bad hn1 (HBW.out hw))
            rw [hw] at HWR
            clear hx hrx hgx hm hhas hw hgd
            go_wp2_with (first
              | (at_lookup; refine wpList_lookup_own_ok_int _ rfl _ _ 57 rfl 3 3 .i64 lawI Tryd.underlying57 Tryd.underlying3 (zeroI _) w.heap.size k _ rfl (om_nw HM.out (by repeat (first | assumption | exact Nw.refl _ | refine Nw.alloc ?_ _ | refine Nw.drew ?_ | refine Nw.drewN2 ?_ _ | (refine Nw.trans ?_ (by assumption))))) _ _ rfl (Maps.keyOf_int_mk Tryd.underlying3 hwf1) ?_; intro c hat hwc)
              | (go_at_call 25; refine (HWR.out _).mono ?_; rintro e w3 ⟨rfl, hn3⟩)
              | fail)
            go_ret2
            exact handsV_bad HE.out (by repeat (first | assumption | exact Nw.refl _ | refine Nw.alloc ?_ _ | refine Nw.drew ?_ | refine Nw.drewN2 ?_ _ | (refine Nw.trans ?_ (by assumption))))
          | false =>
            have HOK := hid (HST.out hw HNO.out)
            rw [hw] at HWR
            clear hx hrx hgx hm hhas hw hgd
            go_wp2_with (first
              | (at_lookup; refine wpList_lookup_own_ok_int _ rfl _ _ 57 rfl 3 3 .i64 lawI Tryd.underlying57 Tryd.underlying3 (zeroI _) w.heap.size k _ rfl (om_nw HM.out (by repeat (first | assumption | exact Nw.refl _ | refine Nw.alloc ?_ _ | refine Nw.drew ?_ | refine Nw.drewN2 ?_ _ | (refine Nw.trans ?_ (by assumption))))) _ _ rfl (Maps.keyOf_int_mk Tryd.underlying3 hwf1) ?_; intro c hat hwc)
              | (go_at_call 25; refine (HWR.out _).mono ?_; rintro e w3 ⟨rfl, hn3⟩; obtain ⟨hc3, hf3, hz3⟩ := nwc hn3)
              | (at_mapUpdate; refine wpList_mapUpdate_own _ rfl _ _ _ 57 rfl 3 3 lawI Tryd.underlying57 _ w.heap.size k _ rfl (om_nw HM.out (by repeat (first | assumption | exact Nw.refl _ | refine Nw.alloc ?_ _ | refine Nw.drew ?_ | refine Nw.drewN2 ?_ _ | (refine Nw.trans ?_ (by assumption))))) (by unfold maxLen; omega) _ _ _ rfl rfl (Maps.keyOf_int_mk Tryd.underlying3 hwf1) _ [] (plainElem_int Tryd.underlying3 hwf2) ?_; intro w5 hown5 hg5)
              | fail)
            have hn5 : Nw w w5 := Nw.grown (show Nw w w3 from (by repeat (first | assumption | exact Nw.refl _ | refine Nw.alloc ?_ _ | refine Nw.drew ?_ | refine Nw.drewN2 ?_ _ | (refine Nw.trans ?_ (by assumption))))) hg5 (fun q hq => by cases hq; exact Nat.le_refl _)
            have hz5 := World.ownsMap.lt hown5
            go_roundw
            case rel => exact ⟨k + 1, by omega, by go_num, by rw [HMP.out]; exact hown5, HOK, hn5, hz5⟩
            case measure => simp [intOf]; omega
      · obtain rfl : k = l.length := by omega
        have hdk : decide (l.length < l.length) = false := decide_eq_false (Nat.lt_irrefl _)
        by_cases hlen : (l.length : Int) = n
        · subst hlen
          have d7 : ((l.length : Int) != l.length) = false := by simp
          have HRS := hid (res_ok hn1 hok.out rfl)
          rw [Int.toNat_natCast] at HRS
          have HOK := hid (show ok (l.length : Int) l from hok.out)
          have HM := hid hm
          clear hok hm hdk
          go_wp2_with (first
            | (at_make; refine mk1f rfl _ _ _ rfl _ _ _ Tryd.underlying36 info_bool (by decide) rfl (Nw.refl wr) l.length rfl rfl ?_ rfl rfl (by omega); intro w2 ho2 hn2 hz2)
            | fail)
          obtain ⟨g, hg⟩ : ∃ g, g = wr.heap.size := ⟨_, rfl⟩
          rw [← hg] at ho2 hz2 ⊢
          have hgw : w.heap.size ≠ g := by omega
          have hgw2 : w.heap.size ≤ g := by omega
          have HST := hid (show OutSt w w.heap.size g l (List.replicate l.length false) w2 from ⟨by unfold bls; rw [List.map_replicate]; exact ho2, HM.out.nw hn2, hnr.trans hn2⟩)
          clear hg ho2 HM
          go_loopw [12, 13] (fun i _ w3 => ∃ (m : Nat) (out : List Bool), m ≤ l.length ∧ i = .int .i64 ((m : Int) - 1) ∧ out.length = l.length ∧ OutSt w w.heap.size g l out w3 ∧ Hid (runR l out m = vals l l.length) ∧ g < w3.heap.size) (fun i _ _ => (intOf i + 1).toNat)
          case atStart => exact ⟨l.length, List.replicate l.length false, Nat.le_refl _, by go_num, by rw [List.length_replicate], HST.out, hid rfl, hz2⟩
          case round =>
            obtain ⟨m, out, hm, rfl, hol, hst, hrun, hgz⟩ := hrel
            cases m with
            | zero =>
              rw [show (((0 : Nat) : Int) - 1) = -1 from rfl]
              rw [runR] at hrun
              go_wp2
              go_ret2
              exact handsV_ok HRS.out (by rw [← hrun.out]; exact hst.1.sl) hst.2.2
            | succ j =>
              rw [show (((j + 1 : Nat) : Int) - 1) = (j : Int) by omega]
              obtain ⟨pp, hpp, hix, hwx⟩ := at_ok HOK.out rfl (i := j) (by omega)
              have hppl : pp < l.length := (List.getElem?_eq_some_iff.1 hpp).1
              have hgx := getD_some hpp
              have hat0 := mp_at l (n := (l.length : Int)) (.lit (.int .i64 0)) l.length (Nat.le_refl _) HOK.out pp hppl
              rw [hgx, hix] at hat0
              have HAT := hid hat0
              clear hat0 hgx
              have hrun2 : runR l (out.set j (cellv (at_ l j) out)) j = vals l l.length := hrun.out
              have HRUN := hid hrun2
              clear hrun2 hrun
              have hwn := wrong_no hwx
              obtain ⟨b0, oo, rfl, c0, c1, c2, c3⟩ := (HC.out.nw hst.2.2) pp _ hpp
              clear hpp hwx
              generalize at_ l j = x at *
              obtain ⟨x0, x1, x2, x3⟩ := x
              simp only at c0 c1 c2 c3 hwn hix
              subst hix
              have hz := World.block_lt_of_cell? wr _ c0
              simp only at hz
              have hjl : j < l.length := by omega
              have hji : (j : Int) < l.length := by omega
              have hpi : (pp : Int) < l.length := by omega
              have hwfj : (Lit.int .i64 (j : Int)).wf = true := wf_of (by omega)
              obtain ⟨hcj, hfj⟩ := hst.cell hol hjl
              have HS := hid hst
              have HPM := hid (show Pm wr w.heap.size l.length (mp l l.length) from hst.2.1)
              unfold Pm at HPM
              obtain ⟨_, _, hwn2, _⟩ := hwn
              have hnr2 : Nw w wr := hst.2.2
              clear hst
              by_cases h2 : x0 = 2
              · subst h2
                obtain ⟨q1, q2⟩ := hwn2 rfl
                obtain ⟨q, rfl⟩ : ∃ q : Nat, x3 = q := ⟨x3.toNat, by omega⟩
                have hql : q < l.length := by omega
                have hqi : (q : Int) < l.length := by omega
                have hjq : ¬ j = q := by omega
                have hqj : ¬ q = j := by omega
                obtain ⟨hcq, hfq⟩ := HS.out.cell hol hql
                have HCV := hid (show cellv (2, (j : Int), x2, (q : Int)) out = out.getD q false from rfl)
                clear hwn2 q1 q2
                rw [HCV.out] at HRUN
                have HSE := hid (set2 out j q x2 hjq)
                have hgd : (out.set j x2).getD q false = out.getD q false := by rw [List.getD_eq_getElem?_getD, List.getElem?_set, if_neg hjq, ← List.getD_eq_getElem?_getD]
                have HGD := hid hgd
                clear hgd
                generalize out.getD q false = oq at *
                generalize out.getD j false = oj at *
                go_wp2_with (first
                  | (at_lookup; refine wpList_lookup_own_int _ rfl _ _ 57 rfl 3 3 .i64 lawI Tryd.underlying57 Tryd.underlying3 (zeroI _) w.heap.size l.length _ rfl HPM.out _ _ rfl (Maps.keyOf_int_mk Tryd.underlying3 hwfj) ?_; intro c hat hwc; (obtain rfl : c = (pp : Int) := by rw [HAT.out] at hat; injection hat with h1; injection h1 with _ h2; exact h2.symm))
                  | fail)
                have hS2 := ((HS.out.set hol hgw hgw2 j x2).set (by rw [List.length_set]; exact hol) hgw hgw2 j oq).nw ((Nw.refl _).alloc (.cells #[.int .i64 2, .int .i64 (j : Int), .bool x2, .int .i64 (q : Int)] 30))
                rw [List.set_set] at hS2
                go_roundw
                case rel => exact ⟨j, out.set j oq, by omega, rfl, by rw [List.length_set]; exact hol, hS2, HRUN, (World.ownsRow.lt hS2.1 g rfl).2⟩
                case measure => simp [intOf]
              · have d2 : (x0 == 2) = false := by simpa using h2
                have HCV := hid (show cellv (x0, (j : Int), x2, x3) out = x2 from if_neg h2)
                clear hwn2 h2
                rw [HCV.out] at HRUN
                go_wp2_with (first
                  | (at_lookup; refine wpList_lookup_own_int _ rfl _ _ 57 rfl 3 3 .i64 lawI Tryd.underlying57 Tryd.underlying3 (zeroI _) w.heap.size l.length _ rfl HPM.out _ _ rfl (Maps.keyOf_int_mk Tryd.underlying3 hwfj) ?_; intro c hat hwc; (obtain rfl : c = (pp : Int) := by rw [HAT.out] at hat; injection hat with h1; injection h1 with _ h2; exact h2.symm))
                  | fail)
                have hS2 := (HS.out.set hol hgw hgw2 j x2).nw ((Nw.refl _).alloc (.cells #[.int .i64 x0, .int .i64 (j : Int), .bool x2, .int .i64 x3] 30))
                go_roundw
                case rel => exact ⟨j, out.set j x2, by omega, rfl, by rw [List.length_set]; exact hol, hS2, HRUN, (World.ownsRow.lt hS2.1 g rfl).2⟩
                case measure => simp [intOf]
        · have d7 : ((l.length : Int) != n) = true := by simpa using hlen
          have HE := hid (res_few hn1 hok.out hlen)
          clear hlen hok
          go_wp2
          go_ret2
          exact handsV_bad HE.out (by repeat (first | assumption | exact Nw.refl _ | refine Nw.alloc ?_ _ | refine Nw.drew ?_ | refine Nw.drewN2 ?_ _ | (refine Nw.trans ?_ (by assumption))))
end Vd
end Go.Proofs.YtlimhggkimnddaaDoor
