/- Names: the contracts of watchglassref1.run, slices.Index and Contains for strings, Reserved, lex.Name and watchglassref1.Name. No condition but the lengths that any string has. -/
import Derived.Test.YtjelbfodkacipaaLexA
set_option linter.unusedSimpArgs false
set_option linter.unusedVariables false
namespace Go.Proofs.Ytjelbfodkacipaa
open Go.ChangeShapes Go.WideShapes Go.ChangeAt Go.RowKit
namespace Lx
theorem eq95 (x : UInt8) : ((x.toNat : Int) == 95) = decide (x.toNat = 95) := by rw [Bool.eq_iff_iff, beq_iff_eq, decide_eq_true_iff]; omega
set_option maxRecDepth 20000 in
set_option maxHeartbeats 1600000 in
theorem run_words (bs : List UInt8) (at_ : Nat) (w : World) (hl : at_ ≤ bs.length) (hb : bs.length ≤ 1000000000) : Calls Try.prog 71 #[.string ⟨bs.toArray⟩, .int .i64 (at_ : Int), .bool true] w (Gives (.int .i64 ((fin mo bs at_ : Nat) - (at_ : Int))) w) := by
  go_enter Try.func71, Try.ntmps71
  go_wp2
  go_loopw [7] (fun i wr => ∃ n : Nat, at_ + n ≤ bs.length ∧ i = .int .i64 (n : Int) ∧ Hid (fin mo bs (at_ + n) = fin mo bs at_) ∧ Nw w wr) (fun i _ => bs.length - (intOf i).toNat)
  case atStart => exact ⟨0, hl, rfl, (rfl : _ = _), Nw.refl _⟩
  case round =>
    obtain ⟨n, hk, rfl, hf, hn⟩ := hrel
    by_cases hlt : at_ + n < bs.length
    · have hdk : decide (at_ + n < bs.length) = true := decide_eq_true hlt
      obtain ⟨x, hx⟩ : ∃ x, bs[at_ + n]? = some x := ⟨bs[at_ + n], by rw [List.getElem?_eq_getElem]⟩
      obtain ⟨hgb, hgx⟩ := str_at hx
      have HM := hid (show mo x = (sm x || dg x || decide (x.toNat = 95)) from rfl)
      have HD := hid (fun w => rdigit_c x w)
      have HSM := hid (fun w => small_c x w)
      have hu := eq95 x
      cases hd : dg x with
      | true =>
        rw [hd] at HD HM
        have hp : mo x = true := by first | exact hd | (rw [HM.out]; simp)
        have HS := hid (fin_step mo bs (at_ + n) x hx hp)
        clear hx hp HM
        go_wp2_with (first
          | (go_at_call 82; refine (HD.out _).mono ?_; rintro e w1 ⟨rfl, hn1⟩)
          | (go_at_call 70; refine (HSM.out _).mono ?_; rintro e w1 ⟨rfl, hn1⟩)
          | fail)
        go_roundw
        case rel => exact ⟨n + 1, by omega, by go_num, (by rw [← hf.out, HS.out]; rfl : _ = _), (by repeat (first | assumption | exact Nw.refl _ | refine Nw.alloc ?_ _ | refine Nw.drew ?_ | refine Nw.drewN2 ?_ _ | (refine Nw.trans ?_ (by assumption))))⟩
        case measure => simp [intOf]; omega
      | false =>
        rw [hd] at HD HM
        cases hs : sm x with
        | true =>
          rw [hs] at HSM HM
          have hp : mo x = true := by rw [HM.out]; rfl
          have HS := hid (fin_step mo bs (at_ + n) x hx hp)
          clear hx hp HM
          go_wp2_with (first
            | (go_at_call 82; refine (HD.out _).mono ?_; rintro e w1 ⟨rfl, hn1⟩)
            | (go_at_call 70; refine (HSM.out _).mono ?_; rintro e w1 ⟨rfl, hn1⟩)
            | fail)
          go_roundw
          case rel => exact ⟨n + 1, by omega, by go_num, (by rw [← hf.out, HS.out]; rfl : _ = _), (by repeat (first | assumption | exact Nw.refl _ | refine Nw.alloc ?_ _ | refine Nw.drew ?_ | refine Nw.drewN2 ?_ _ | (refine Nw.trans ?_ (by assumption))))⟩
          case measure => simp [intOf]; omega
        | false =>
          rw [hs] at HSM HM
          cases h5 : decide (x.toNat = 95) with
          | true =>
            rw [h5] at hu HM
            have hp : mo x = true := by rw [HM.out]; rfl
            have HS := hid (fin_step mo bs (at_ + n) x hx hp)
            clear hx hp HM
            go_wp2_with (first
              | (go_at_call 82; refine (HD.out _).mono ?_; rintro e w1 ⟨rfl, hn1⟩)
              | (go_at_call 70; refine (HSM.out _).mono ?_; rintro e w1 ⟨rfl, hn1⟩)
              | fail)
            go_roundw
            case rel => exact ⟨n + 1, by omega, by go_num, (by rw [← hf.out, HS.out]; rfl : _ = _), (by repeat (first | assumption | exact Nw.refl _ | refine Nw.alloc ?_ _ | refine Nw.drew ?_ | refine Nw.drewN2 ?_ _ | (refine Nw.trans ?_ (by assumption))))⟩
            case measure => simp [intOf]; omega
          | false =>
            rw [h5] at hu HM
            have hp : mo x = false := by rw [HM.out]; rfl
            have HS := hid (fin_stop mo bs (at_ + n) x hx hp)
            clear hx hp HM
            go_wp2_with (first
              | (go_at_call 82; refine (HD.out _).mono ?_; rintro e w1 ⟨rfl, hn1⟩)
              | (go_at_call 70; refine (HSM.out _).mono ?_; rintro e w1 ⟨rfl, hn1⟩)
              | fail)
            go_ret
            exact Gives.i (by have := hf.out; have := HS.out; omega) (by repeat (first | assumption | exact Nw.refl _ | refine Nw.alloc ?_ _ | refine Nw.drew ?_ | refine Nw.drewN2 ?_ _ | (refine Nw.trans ?_ (by assumption))))
    · have hdk : decide (at_ + n < bs.length) = false := decide_eq_false hlt
      have HF := hid (fin_end mo bs (at_ + n) (by omega))
      go_wp2
      go_ret
      exact Gives.i (by have := hf.out; have := HF.out; omega) hn

set_option maxRecDepth 20000 in
set_option maxHeartbeats 1600000 in
theorem run_nums (bs : List UInt8) (at_ : Nat) (w : World) (hl : at_ ≤ bs.length) (hb : bs.length ≤ 1000000000) : Calls Try.prog 71 #[.string ⟨bs.toArray⟩, .int .i64 (at_ : Int), .bool false] w (Gives (.int .i64 ((fin dg bs at_ : Nat) - (at_ : Int))) w) := by
  go_enter Try.func71, Try.ntmps71
  go_wp2
  go_loopw [7] (fun i wr => ∃ n : Nat, at_ + n ≤ bs.length ∧ i = .int .i64 (n : Int) ∧ Hid (fin dg bs (at_ + n) = fin dg bs at_) ∧ Nw w wr) (fun i _ => bs.length - (intOf i).toNat)
  case atStart => exact ⟨0, hl, rfl, (rfl : _ = _), Nw.refl _⟩
  case round =>
    obtain ⟨n, hk, rfl, hf, hn⟩ := hrel
    by_cases hlt : at_ + n < bs.length
    · have hdk : decide (at_ + n < bs.length) = true := decide_eq_true hlt
      obtain ⟨x, hx⟩ : ∃ x, bs[at_ + n]? = some x := ⟨bs[at_ + n], by rw [List.getElem?_eq_getElem]⟩
      obtain ⟨hgb, hgx⟩ := str_at hx
      have HM := hid (show mo x = (sm x || dg x || decide (x.toNat = 95)) from rfl)
      have HD := hid (fun w => rdigit_c x w)
      have HSM := hid (fun w => small_c x w)
      have hu := eq95 x
      cases hd : dg x with
      | true =>
        rw [hd] at HD HM
        have hp : dg x = true := by first | exact hd | (rw [HM.out]; simp)
        have HS := hid (fin_step dg bs (at_ + n) x hx hp)
        clear hx hp HM
        go_wp2_with (first
          | (go_at_call 82; refine (HD.out _).mono ?_; rintro e w1 ⟨rfl, hn1⟩)
          | (go_at_call 70; refine (HSM.out _).mono ?_; rintro e w1 ⟨rfl, hn1⟩)
          | fail)
        go_roundw
        case rel => exact ⟨n + 1, by omega, by go_num, (by rw [← hf.out, HS.out]; rfl : _ = _), (by repeat (first | assumption | exact Nw.refl _ | refine Nw.alloc ?_ _ | refine Nw.drew ?_ | refine Nw.drewN2 ?_ _ | (refine Nw.trans ?_ (by assumption))))⟩
        case measure => simp [intOf]; omega
      | false =>
        rw [hd] at HD HM
        have hp : dg x = false := hd
        have HS := hid (fin_stop dg bs (at_ + n) x hx hp)
        clear hx hp HM
        go_wp2_with (first
          | (go_at_call 82; refine (HD.out _).mono ?_; rintro e w1 ⟨rfl, hn1⟩)
          | (go_at_call 70; refine (HSM.out _).mono ?_; rintro e w1 ⟨rfl, hn1⟩)
          | fail)
        go_ret
        exact Gives.i (by have := hf.out; have := HS.out; omega) (by repeat (first | assumption | exact Nw.refl _ | refine Nw.alloc ?_ _ | refine Nw.drew ?_ | refine Nw.drewN2 ?_ _ | (refine Nw.trans ?_ (by assumption))))
    · have hdk : decide (at_ + n < bs.length) = false := decide_eq_false hlt
      have HF := hid (fin_end dg bs (at_ + n) (by omega))
      go_wp2
      go_ret
      exact Gives.i (by have := hf.out; have := HF.out; omega) hn

end Lx
end Go.Proofs.Ytjelbfodkacipaa
