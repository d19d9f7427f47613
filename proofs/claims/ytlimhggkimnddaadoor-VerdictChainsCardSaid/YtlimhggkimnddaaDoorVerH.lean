/- The contract of the reference's number. No condition but the length that any string has. -/
import Derived.Test.YtlimhggkimnddaaDoorVerG
set_option linter.unusedSimpArgs false
set_option linter.unusedVariables false
namespace Go.Proofs.YtlimhggkimnddaaDoor
open Go.ChangeShapes Go.WideShapes Go.ChangeAt Go.RowKit
namespace Vd
theorem tw_stop {s : List UInt8} {k : Nat} (h : (s.take k).all dg = true) (h2 : ∀ c, s[k]? = some c → dg c = false) : s.takeWhile dg = s.take k := by
  conv => lhs; rw [← List.take_append_drop k s]
  exact tw_app _ _ h fun c hc => h2 c (by rwa [List.head?_drop] at hc)
theorem tw_ge : ∀ (d t : List UInt8), d.all dg = true → d.length ≤ ((d ++ t).takeWhile dg).length
  | [], t, _ => Nat.zero_le _
  | c :: r, t, h => by
    simp only [List.all_cons, Bool.and_eq_true] at h
    rw [List.cons_append, List.takeWhile_cons, if_pos h.1]
    have := tw_ge r t h.2
    simp only [List.length_cons]; omega
theorem tw_more {s : List UInt8} {k : Nat} {x : UInt8} (hx : s[k]? = some x) (h : (s.take k).all dg = true) (h2 : dg x = true) : k < (s.takeWhile dg).length := by
  have := tw_ge (s.take (k + 1)) (s.drop (k + 1)) (all_take hx h h2)
  rw [List.take_append_drop, List.length_take] at this
  obtain ⟨hk, _⟩ := List.getElem?_eq_some_iff.1 hx
  omega
theorem rnum_is {s : List UInt8} {k : Nat} (h : s.takeWhile dg = s.take k) (hk : k ≤ s.length) (h18 : k ≤ 18) (h2 : ¬ (1 < k ∧ s.head? = some 48)) : rnum s = (val (s.take k), k) := by
  have e : (s.take k).length = k := by rw [List.length_take]; omega
  unfold rnum
  rw [h, e, if_neg]
  rintro (q | q)
  · omega
  · exact h2 q
theorem rnum_nul {s : List UInt8} {k : Nat} (h : s.takeWhile dg = s.take k) (hk : k ≤ s.length) (h2 : 1 < k ∧ s.head? = some 48) : rnum s = (0, 0) := by
  have e : (s.take k).length = k := by rw [List.length_take]; omega
  unfold rnum
  rw [h, e, if_pos (Or.inr h2)]
theorem rnum_long {s : List UInt8} (h : 18 < (s.takeWhile dg).length) : rnum s = (0, 0) := by unfold rnum; rw [if_pos (Or.inl h)]
def HandsR (w : World) (s : List UInt8) (e : Ending) (w' : World) : Prop := e = .returned (.tuple #[.int .i64 (rnum s).1, .int .i64 ((rnum s).2 : Nat)]) ∧ Nw w w'
theorem handsR {w w' : World} {s : List UInt8} {z : Int} {k : Nat} (h : rnum s = (z, k)) (hn : Nw w w') : HandsR w s (.returned (.tuple #[.int .i64 z, .int .i64 (k : Int)])) w' := ⟨by rw [h], hn⟩
set_option maxRecDepth 20000 in
set_option maxHeartbeats 2000000 in
theorem rnumber_c (bs : List UInt8) (w : World) (hb : bs.length ≤ 1000000000) : Calls Tryd.prog 37 #[.string ⟨bs.toArray⟩] w (HandsR w bs) := by
  go_enter Tryd.func37, Tryd.ntmps37
  go_wp2
  go_loopw [4, 5] (fun n i wr => ∃ k : Nat, k ≤ bs.length ∧ k ≤ 18 ∧ i = .int .i64 (k : Int) ∧ n = .int .i64 (val (bs.take k)) ∧ Hid ((bs.take k).all dg = true) ∧ Nw w wr) (fun _ i _ => bs.length - (intOf i).toNat)
  case atStart => exact ⟨0, Nat.zero_le _, Nat.zero_le _, rfl, rfl, hid rfl, Nw.refl _⟩
  case round =>
    obtain ⟨k, hk, hk18, rfl, rfl, ha, hnr⟩ := hrel
    have d19 : decide ((k : Int) < 19) = true := decide_eq_true (by omega)
    have d19n : decide (k < 19) = true := decide_eq_true (by omega)
    by_cases hlt : k < bs.length
    · have hdk : decide (k < bs.length) = true := decide_eq_true hlt
      have hdki : decide ((k : Int) < bs.length) = true := decide_eq_true (by omega)
      obtain ⟨x, hx⟩ : ∃ x, bs[k]? = some x := ⟨bs[k], by rw [List.getElem?_eq_getElem]⟩
      obtain ⟨hgb, hgx⟩ := str_at hx
      have HV := hid (val_take hx)
      have HA := hid (fun h => all_take hx ha.out h)
      have HM := hid (fun h => tw_more hx ha.out h)
      have HS := hid (fun (h : dg x = false) => tw_stop ha.out (fun c hc => by rw [hx] at hc; cases hc; exact h))
      have hdg := dgs x
      have HVL := hid (fun (h : k ≤ 17) => val_lt h ha.out)
      clear hx
      by_cases h1 : 48 ≤ x.toNat
      · have d1 : decide (48 ≤ x.toNat) = true := decide_eq_true h1
        have d2 : decide ((48 : Int) ≤ x.toNat) = true := decide_eq_true (by omega)
        by_cases h2 : x.toNat ≤ 57
        · have d3 : decide (x.toNat ≤ 57) = true := decide_eq_true h2
          have d4 : decide ((x.toNat : Int) ≤ 57) = true := decide_eq_true (by omega)
          have hdx : dg x = true := by rw [hdg, d1, d3]; rfl
          by_cases h18 : k = 18
          · have HR := hid (rnum_long (s := bs) (by have := HM.out hdx; omega))
            subst h18
            clear hdg h1 h2
            go_wp2
            go_ret2
            exact handsR HR.out (by repeat (first | assumption | exact Nw.refl _ | refine Nw.alloc ?_ _ | refine Nw.drew ?_ | refine Nw.drewN2 ?_ _ | (refine Nw.trans ?_ (by assumption))))
          · have e18 : ((k : Int) == 18) = false := by simpa using (by omega : ¬ (k : Int) = 18)
            have hk17 : k ≤ 17 := by omega
            obtain ⟨v0, v1⟩ := HVL.out hk17
            have HA2 := hid (HA.out hdx)
            have h3 : (48 : Int) ≤ x.toNat := by omega
            have h4 : (x.toNat : Int) ≤ 57 := by omega
            have q1 : IntKind.u8.wrap ((x.toNat : Int) - 48) = (x.toNat : Int) - 48 := by unfold IntKind.wrap; simp [IntKind.min, IntKind.max, IntKind.bits, IntKind.signed]; omega
            clear hdg h1 h2 h18 hdx
            generalize val (bs.take k) = V at *
            go_wp2
            go_roundw
            case rel => exact ⟨k + 1, by omega, by omega, by go_num, by rw [HV.out], HA2, (by repeat (first | assumption | exact Nw.refl _ | refine Nw.alloc ?_ _ | refine Nw.drew ?_ | refine Nw.drewN2 ?_ _ | (refine Nw.trans ?_ (by assumption))))⟩
            case measure => simp [intOf]; omega
        · have d3 : decide (x.toNat ≤ 57) = false := decide_eq_false h2
          have d4 : decide ((x.toNat : Int) ≤ 57) = false := decide_eq_false (by omega)
          have HW := hid (HS.out (by rw [hdg, d3, Bool.and_false]))
          clear hdg h1 h2
          by_cases hk1 : 1 < k
          · have dk1 : decide (1 < k) = true := decide_eq_true hk1
            have dk2 : decide ((1 : Int) < k) = true := decide_eq_true (by omega)
            obtain ⟨x0, hx0⟩ : ∃ x0, bs[0]? = some x0 := ⟨bs[0], by rw [List.getElem?_eq_getElem]⟩
            obtain ⟨hgb0, hgx0⟩ := str_at hx0
            have hhd : bs.head? = some x0 := by rw [List.head?_eq_getElem?]; exact hx0
            by_cases h48 : x0 = 48
            · subst h48
              have HR := hid (rnum_nul HW.out hk ⟨hk1, hhd⟩)
              clear hk1 hhd hx0
              go_wp2
              go_ret2
              exact handsR HR.out (by repeat (first | assumption | exact Nw.refl _ | refine Nw.alloc ?_ _ | refine Nw.drew ?_ | refine Nw.drewN2 ?_ _ | (refine Nw.trans ?_ (by assumption))))
            · have hq : ((x0.toNat : Int) == 48) = false := by
                have : x0.toNat ≠ 48 := fun e => h48 (by rw [← UInt8.ofNat_toNat (x := x0), e]; rfl)
                simpa using (by omega : ¬ (x0.toNat : Int) = 48)
              have HR := hid (rnum_is HW.out hk hk18 (fun q => by rw [hhd] at q; exact h48 (Option.some.inj q.2)))
              clear hk1 hhd hx0 h48
              go_wp2
              go_ret2
              exact handsR HR.out (by repeat (first | assumption | exact Nw.refl _ | refine Nw.alloc ?_ _ | refine Nw.drew ?_ | refine Nw.drewN2 ?_ _ | (refine Nw.trans ?_ (by assumption))))
          · have dk1 : decide (1 < k) = false := decide_eq_false hk1
            have dk2 : decide ((1 : Int) < k) = false := decide_eq_false (by omega)
            have HR := hid (rnum_is HW.out hk hk18 (fun q => hk1 q.1))
            clear hk1
            go_wp2
            go_ret2
            exact handsR HR.out (by repeat (first | assumption | exact Nw.refl _ | refine Nw.alloc ?_ _ | refine Nw.drew ?_ | refine Nw.drewN2 ?_ _ | (refine Nw.trans ?_ (by assumption))))
      · have d1 : decide (48 ≤ x.toNat) = false := decide_eq_false h1
        have d2 : decide ((48 : Int) ≤ x.toNat) = false := decide_eq_false (by omega)
        have HW := hid (HS.out (by rw [hdg, d1, Bool.false_and]))
        clear hdg h1
        by_cases hk1 : 1 < k
        · have dk1 : decide (1 < k) = true := decide_eq_true hk1
          have dk2 : decide ((1 : Int) < k) = true := decide_eq_true (by omega)
          obtain ⟨x0, hx0⟩ : ∃ x0, bs[0]? = some x0 := ⟨bs[0], by rw [List.getElem?_eq_getElem]⟩
          obtain ⟨hgb0, hgx0⟩ := str_at hx0
          have hhd : bs.head? = some x0 := by rw [List.head?_eq_getElem?]; exact hx0
          by_cases h48 : x0 = 48
          · subst h48
            have HR := hid (rnum_nul HW.out hk ⟨hk1, hhd⟩)
            clear hk1 hhd hx0
            go_wp2
            go_ret2
            exact handsR HR.out (by repeat (first | assumption | exact Nw.refl _ | refine Nw.alloc ?_ _ | refine Nw.drew ?_ | refine Nw.drewN2 ?_ _ | (refine Nw.trans ?_ (by assumption))))
          · have hq : ((x0.toNat : Int) == 48) = false := by
              have : x0.toNat ≠ 48 := fun e => h48 (by rw [← UInt8.ofNat_toNat (x := x0), e]; rfl)
              simpa using (by omega : ¬ (x0.toNat : Int) = 48)
            have HR := hid (rnum_is HW.out hk hk18 (fun q => by rw [hhd] at q; exact h48 (Option.some.inj q.2)))
            clear hk1 hhd hx0 h48
            go_wp2
            go_ret2
            exact handsR HR.out (by repeat (first | assumption | exact Nw.refl _ | refine Nw.alloc ?_ _ | refine Nw.drew ?_ | refine Nw.drewN2 ?_ _ | (refine Nw.trans ?_ (by assumption))))
        · have dk1 : decide (1 < k) = false := decide_eq_false hk1
          have dk2 : decide ((1 : Int) < k) = false := decide_eq_false (by omega)
          have HR := hid (rnum_is HW.out hk hk18 (fun q => hk1 q.1))
          clear hk1
          go_wp2
          go_ret2
          exact handsR HR.out (by repeat (first | assumption | exact Nw.refl _ | refine Nw.alloc ?_ _ | refine Nw.drew ?_ | refine Nw.drewN2 ?_ _ | (refine Nw.trans ?_ (by assumption))))
    · have hdk : decide (k < bs.length) = false := decide_eq_false hlt
      have hdki : decide ((k : Int) < bs.length) = false := decide_eq_false (by omega)
      have HW := hid (tw_stop ha.out (fun c hc => by rw [List.getElem?_eq_none (by omega)] at hc; cases hc))
      by_cases hk1 : 1 < k
      · have dk1 : decide (1 < k) = true := decide_eq_true hk1
        have dk2 : decide ((1 : Int) < k) = true := decide_eq_true (by omega)
        obtain ⟨x0, hx0⟩ : ∃ x0, bs[0]? = some x0 := ⟨bs[0], by rw [List.getElem?_eq_getElem]⟩
        obtain ⟨hgb0, hgx0⟩ := str_at hx0
        have hhd : bs.head? = some x0 := by rw [List.head?_eq_getElem?]; exact hx0
        by_cases h48 : x0 = 48
        · subst h48
          have HR := hid (rnum_nul HW.out hk ⟨hk1, hhd⟩)
          clear hk1 hhd hx0
          go_wp2
          go_ret2
          exact handsR HR.out (by repeat (first | assumption | exact Nw.refl _ | refine Nw.alloc ?_ _ | refine Nw.drew ?_ | refine Nw.drewN2 ?_ _ | (refine Nw.trans ?_ (by assumption))))
        · have hq : ((x0.toNat : Int) == 48) = false := by
            have : x0.toNat ≠ 48 := fun e => h48 (by rw [← UInt8.ofNat_toNat (x := x0), e]; rfl)
            simpa using (by omega : ¬ (x0.toNat : Int) = 48)
          have HR := hid (rnum_is HW.out hk hk18 (fun q => by rw [hhd] at q; exact h48 (Option.some.inj q.2)))
          clear hk1 hhd hx0 h48
          go_wp2
          go_ret2
          exact handsR HR.out (by repeat (first | assumption | exact Nw.refl _ | refine Nw.alloc ?_ _ | refine Nw.drew ?_ | refine Nw.drewN2 ?_ _ | (refine Nw.trans ?_ (by assumption))))
      · have dk1 : decide (1 < k) = false := decide_eq_false hk1
        have dk2 : decide ((1 : Int) < k) = false := decide_eq_false (by omega)
        have HR := hid (rnum_is HW.out hk hk18 (fun q => hk1 q.1))
        clear hk1
        go_wp2
        go_ret2
        exact handsR HR.out (by repeat (first | assumption | exact Nw.refl _ | refine Nw.alloc ?_ _ | refine Nw.drew ?_ | refine Nw.drewN2 ?_ _ | (refine Nw.trans ?_ (by assumption))))
/-! ### Cuts -/
def Mx (w : World) : Prop := ∃ m, w.cell? ⟨0, 0, none⟩ = some (.int .i64 m)
theorem Mx.nw {w w' : World} (h : Mx w) (hn : Nw w w') : Mx w' := by
  obtain ⟨m, h⟩ := h
  exact ⟨m, hn.cell h⟩
theorem cut_c (s sep : List UInt8) (w : World) (hm : Mx w) (hs : s.length ≤ 1000000000) :
    Calls Tryd.prog 23 #[.string ⟨s.toArray⟩, .string ⟨sep.toArray⟩] w (Gives (.tuple #[.string ⟨(Lib.cut s sep).1.toArray⟩, .string ⟨(Lib.cut s sep).2.1.toArray⟩, .bool (Lib.cut s sep).2.2]) w) := by
  obtain ⟨m, hm⟩ := hm
  have := Tryd.strings_Cut ⟨s.toArray⟩ ⟨sep.toArray⟩ m w (by simp [ByteArray.size]; omega) hm
  refine this.mono fun e w' ⟨he, n, hw⟩ => ⟨?_, by rw [hw]; exact Nw.drewN w n⟩
  rw [he]
end Vd
end Go.Proofs.YtlimhggkimnddaaDoor
