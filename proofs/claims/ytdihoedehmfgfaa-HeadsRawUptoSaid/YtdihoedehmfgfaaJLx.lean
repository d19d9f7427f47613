/- Joined texts.
Letters, digits, names: the contracts of lex.letter, digit, more, end and of the reference's small, digit, run. No condition but the lengths that any string has.
Names: the contracts of watchglassref1.run, slices.Index and Contains for strings, Reserved, lex.Name and watchglassref1.Name. No condition but the lengths that any string has.
Names: the contracts of slices.Index and Contains for strings, Reserved, lex.Name and watchglassref1.Name. No condition but the lengths that any string has.
Names: the contracts of lex.Name and watchglassref1.Name. No condition but a length that any text has.
-/
import Derived.Test.YtdihoedehmfgfaaAppB
import Derived.MapKept
import Derived.Laws.StructEq
set_option linter.unusedSimpArgs false
set_option linter.unusedVariables false
namespace Go.Proofs.Ytdihoedehmfgfaa
open Go.ChangeShapes Go.WideShapes Go.ChangeAt Go.RowKit
namespace Lx
def sm (b : UInt8) : Bool := decide (97 ≤ b.toNat) && decide (b.toNat ≤ 122)
def dg (b : UInt8) : Bool := decide (48 ≤ b.toNat) && decide (b.toNat ≤ 57)
def mo (b : UInt8) : Bool := sm b || dg b || decide (b.toNat = 95)
theorem letter_c (b : UInt8) (w : World) : Calls Try.prog 83 #[.int .u8 (b.toNat : Int)] w (Gives (.bool (sm b)) w) := by
  have HE := hid (show sm b = (decide (97 ≤ b.toNat) && decide (b.toNat ≤ 122)) from rfl)
  by_cases h1 : 97 ≤ b.toNat
  · have d1 : decide ((97 : Int) ≤ (b.toNat : Int)) = true := decide_eq_true (by omega)
    by_cases h2 : b.toNat ≤ 122
    · have d2 : decide ((b.toNat : Int) ≤ 122) = true := decide_eq_true (by omega)
      have HF := hid (show sm b = true by rw [HE.out, decide_eq_true h1, decide_eq_true h2]; rfl)
      go_enter Try.func83, Try.ntmps83
      go_wp2
      go_ret
      exact Gives.b HF.out.symm (by repeat (first | assumption | exact Nw.refl _ | refine Nw.alloc ?_ _ | refine Nw.drew ?_ | refine Nw.drewN2 ?_ _ | (refine Nw.trans ?_ (by assumption))))
    · have d2 : decide ((b.toNat : Int) ≤ 122) = false := decide_eq_false (by omega)
      have HF := hid (show sm b = false by rw [HE.out, decide_eq_false h2, Bool.and_false])
      go_enter Try.func83, Try.ntmps83
      go_wp2
      go_ret
      exact Gives.b HF.out.symm (by repeat (first | assumption | exact Nw.refl _ | refine Nw.alloc ?_ _ | refine Nw.drew ?_ | refine Nw.drewN2 ?_ _ | (refine Nw.trans ?_ (by assumption))))
  · have d1 : decide ((97 : Int) ≤ (b.toNat : Int)) = false := decide_eq_false (by omega)
    have HF := hid (show sm b = false by rw [HE.out, decide_eq_false h1, Bool.false_and])
    go_enter Try.func83, Try.ntmps83
    go_wp2
    go_ret
    exact Gives.b HF.out.symm (by repeat (first | assumption | exact Nw.refl _ | refine Nw.alloc ?_ _ | refine Nw.drew ?_ | refine Nw.drewN2 ?_ _ | (refine Nw.trans ?_ (by assumption))))

theorem small_c (b : UInt8) (w : World) : Calls Try.prog 97 #[.int .u8 (b.toNat : Int)] w (Gives (.bool (sm b)) w) := by
  have HE := hid (show sm b = (decide (97 ≤ b.toNat) && decide (b.toNat ≤ 122)) from rfl)
  by_cases h1 : 97 ≤ b.toNat
  · have d1 : decide ((97 : Int) ≤ (b.toNat : Int)) = true := decide_eq_true (by omega)
    by_cases h2 : b.toNat ≤ 122
    · have d2 : decide ((b.toNat : Int) ≤ 122) = true := decide_eq_true (by omega)
      have HF := hid (show sm b = true by rw [HE.out, decide_eq_true h1, decide_eq_true h2]; rfl)
      go_enter Try.func97, Try.ntmps97
      go_wp2
      go_ret
      exact Gives.b HF.out.symm (by repeat (first | assumption | exact Nw.refl _ | refine Nw.alloc ?_ _ | refine Nw.drew ?_ | refine Nw.drewN2 ?_ _ | (refine Nw.trans ?_ (by assumption))))
    · have d2 : decide ((b.toNat : Int) ≤ 122) = false := decide_eq_false (by omega)
      have HF := hid (show sm b = false by rw [HE.out, decide_eq_false h2, Bool.and_false])
      go_enter Try.func97, Try.ntmps97
      go_wp2
      go_ret
      exact Gives.b HF.out.symm (by repeat (first | assumption | exact Nw.refl _ | refine Nw.alloc ?_ _ | refine Nw.drew ?_ | refine Nw.drewN2 ?_ _ | (refine Nw.trans ?_ (by assumption))))
  · have d1 : decide ((97 : Int) ≤ (b.toNat : Int)) = false := decide_eq_false (by omega)
    have HF := hid (show sm b = false by rw [HE.out, decide_eq_false h1, Bool.false_and])
    go_enter Try.func97, Try.ntmps97
    go_wp2
    go_ret
    exact Gives.b HF.out.symm (by repeat (first | assumption | exact Nw.refl _ | refine Nw.alloc ?_ _ | refine Nw.drew ?_ | refine Nw.drewN2 ?_ _ | (refine Nw.trans ?_ (by assumption))))

theorem digit_c (b : UInt8) (w : World) : Calls Try.prog 102 #[.int .u8 (b.toNat : Int)] w (Gives (.bool (dg b)) w) := by
  have HE := hid (show dg b = (decide (48 ≤ b.toNat) && decide (b.toNat ≤ 57)) from rfl)
  by_cases h1 : 48 ≤ b.toNat
  · have d1 : decide ((48 : Int) ≤ (b.toNat : Int)) = true := decide_eq_true (by omega)
    by_cases h2 : b.toNat ≤ 57
    · have d2 : decide ((b.toNat : Int) ≤ 57) = true := decide_eq_true (by omega)
      have HF := hid (show dg b = true by rw [HE.out, decide_eq_true h1, decide_eq_true h2]; rfl)
      go_enter Try.func102, Try.ntmps102
      go_wp2
      go_ret
      exact Gives.b HF.out.symm (by repeat (first | assumption | exact Nw.refl _ | refine Nw.alloc ?_ _ | refine Nw.drew ?_ | refine Nw.drewN2 ?_ _ | (refine Nw.trans ?_ (by assumption))))
    · have d2 : decide ((b.toNat : Int) ≤ 57) = false := decide_eq_false (by omega)
      have HF := hid (show dg b = false by rw [HE.out, decide_eq_false h2, Bool.and_false])
      go_enter Try.func102, Try.ntmps102
      go_wp2
      go_ret
      exact Gives.b HF.out.symm (by repeat (first | assumption | exact Nw.refl _ | refine Nw.alloc ?_ _ | refine Nw.drew ?_ | refine Nw.drewN2 ?_ _ | (refine Nw.trans ?_ (by assumption))))
  · have d1 : decide ((48 : Int) ≤ (b.toNat : Int)) = false := decide_eq_false (by omega)
    have HF := hid (show dg b = false by rw [HE.out, decide_eq_false h1, Bool.false_and])
    go_enter Try.func102, Try.ntmps102
    go_wp2
    go_ret
    exact Gives.b HF.out.symm (by repeat (first | assumption | exact Nw.refl _ | refine Nw.alloc ?_ _ | refine Nw.drew ?_ | refine Nw.drewN2 ?_ _ | (refine Nw.trans ?_ (by assumption))))

theorem rdigit_c (b : UInt8) (w : World) : Calls Try.prog 105 #[.int .u8 (b.toNat : Int)] w (Gives (.bool (dg b)) w) := by
  have HE := hid (show dg b = (decide (48 ≤ b.toNat) && decide (b.toNat ≤ 57)) from rfl)
  by_cases h1 : 48 ≤ b.toNat
  · have d1 : decide ((48 : Int) ≤ (b.toNat : Int)) = true := decide_eq_true (by omega)
    by_cases h2 : b.toNat ≤ 57
    · have d2 : decide ((b.toNat : Int) ≤ 57) = true := decide_eq_true (by omega)
      have HF := hid (show dg b = true by rw [HE.out, decide_eq_true h1, decide_eq_true h2]; rfl)
      go_enter Try.func105, Try.ntmps105
      go_wp2
      go_ret
      exact Gives.b HF.out.symm (by repeat (first | assumption | exact Nw.refl _ | refine Nw.alloc ?_ _ | refine Nw.drew ?_ | refine Nw.drewN2 ?_ _ | (refine Nw.trans ?_ (by assumption))))
    · have d2 : decide ((b.toNat : Int) ≤ 57) = false := decide_eq_false (by omega)
      have HF := hid (show dg b = false by rw [HE.out, decide_eq_false h2, Bool.and_false])
      go_enter Try.func105, Try.ntmps105
      go_wp2
      go_ret
      exact Gives.b HF.out.symm (by repeat (first | assumption | exact Nw.refl _ | refine Nw.alloc ?_ _ | refine Nw.drew ?_ | refine Nw.drewN2 ?_ _ | (refine Nw.trans ?_ (by assumption))))
  · have d1 : decide ((48 : Int) ≤ (b.toNat : Int)) = false := decide_eq_false (by omega)
    have HF := hid (show dg b = false by rw [HE.out, decide_eq_false h1, Bool.false_and])
    go_enter Try.func105, Try.ntmps105
    go_wp2
    go_ret
    exact Gives.b HF.out.symm (by repeat (first | assumption | exact Nw.refl _ | refine Nw.alloc ?_ _ | refine Nw.drew ?_ | refine Nw.drewN2 ?_ _ | (refine Nw.trans ?_ (by assumption))))

theorem more_c (b : UInt8) (w : World) : Calls Try.prog 85 #[.int .u8 (b.toNat : Int)] w (Gives (.bool (mo b)) w) := by
  have HE := hid (show mo b = (sm b || dg b || decide (b.toNat = 95)) from rfl)
  have hs := fun w => letter_c b w
  have hd := fun w => digit_c b w
  have hu : ((b.toNat : Int) == 95) = decide (b.toNat = 95) := by rw [Bool.eq_iff_iff, beq_iff_eq, decide_eq_true_iff]; omega
  generalize decide (b.toNat = 95) = u at *
  generalize sm b = s at *
  generalize dg b = d at *
  cases s <;> cases d <;>
  · have HS := hid hs
    have HD := hid hd
    clear hs hd
    go_enter Try.func85, Try.ntmps85
    go_wp2_with (first
      | (go_at_call 83; refine (HS.out _).mono ?_; rintro e w1 ⟨rfl, hn1⟩)
      | (go_at_call 102; refine (HD.out _).mono ?_; rintro e w2 ⟨rfl, hn2⟩)
      | fail)
    go_ret
    exact Gives.b (by rw [HE.out]; first | rfl | (rw [hu]; rfl) | simp) (by repeat (first | assumption | exact Nw.refl _ | refine Nw.alloc ?_ _ | refine Nw.drew ?_ | refine Nw.drewN2 ?_ _ | (refine Nw.trans ?_ (by assumption))))
def fin (P : UInt8 → Bool) (bs : List UInt8) (k : Nat) : Nat := k + ((bs.drop k).takeWhile P).length
theorem fin_end (P : UInt8 → Bool) (bs : List UInt8) (k : Nat) (h : bs.length ≤ k) : fin P bs k = k := by unfold fin; rw [List.drop_of_length_le h]; rfl
theorem fin_step (P : UInt8 → Bool) (bs : List UInt8) (k : Nat) (x : UInt8) (h : bs[k]? = some x) (hp : P x = true) : fin P bs k = fin P bs (k + 1) := by
  obtain ⟨hk, rfl⟩ := List.getElem?_eq_some_iff.1 h
  unfold fin
  rw [List.drop_eq_getElem_cons hk, List.takeWhile_cons, if_pos hp, List.length_cons]
  omega
theorem fin_stop (P : UInt8 → Bool) (bs : List UInt8) (k : Nat) (x : UInt8) (h : bs[k]? = some x) (hp : P x = false) : fin P bs k = k := by
  obtain ⟨hk, rfl⟩ := List.getElem?_eq_some_iff.1 h
  unfold fin
  rw [List.drop_eq_getElem_cons hk, List.takeWhile_cons, if_neg (by rw [hp]; decide)]
  rfl
theorem fin_le (P : UInt8 → Bool) (bs : List UInt8) (k : Nat) (h : k ≤ bs.length) : k ≤ fin P bs k ∧ fin P bs k ≤ bs.length := by
  unfold fin
  have := (List.takeWhile_sublist P (l := bs.drop k)).length_le
  rw [List.length_drop] at this
  omega
theorem str_at {bs : List UInt8} {k : Nat} {x : UInt8} (h : bs[k]? = some x) : ∃ hk, (ByteArray.mk bs.toArray)[k]'hk = x := by
  obtain ⟨hk, e⟩ := List.getElem?_eq_some_iff.1 h
  refine ⟨by show k < bs.toArray.size; simpa using hk, ?_⟩
  show bs.toArray[k]'_ = x
  simpa using e
def str (bs : List UInt8) : Value := .string ⟨bs.toArray⟩
set_option maxRecDepth 20000 in
theorem end_more (bs : List UInt8) (at_ : Nat) (w : World) (hl : at_ ≤ bs.length) (hb : bs.length ≤ 1000000000) : Calls Try.prog 84 #[.string ⟨bs.toArray⟩, .int .i64 (at_ : Int), .func (.func 85) #[] #[]] w (Gives (.int .i64 ((fin mo bs at_ : Nat) : Int)) w) := by
  go_enter Try.func84, Try.ntmps84
  go_wp2
  go_loopw [1] (fun i wr => ∃ k : Nat, k ≤ bs.length ∧ i = .int .i64 (k : Int) ∧ Hid (fin mo bs k = fin mo bs at_) ∧ Nw w wr) (fun i _ => bs.length - (intOf i).toNat)
  case atStart => exact ⟨at_, hl, rfl, (rfl : _ = _), Nw.refl _⟩
  case round =>
    obtain ⟨k, hk, rfl, hf, hn⟩ := hrel
    by_cases hlt : k < bs.length
    · have hdk : decide (k < bs.length) = true := decide_eq_true hlt
      obtain ⟨x, hx⟩ : ∃ x, bs[k]? = some x := ⟨bs[k], by rw [List.getElem?_eq_getElem]⟩
      obtain ⟨hgb, hgx⟩ := str_at hx
      have HC := hid (fun w => more_c x w)
      cases hp : mo x with
      | true =>
        have HS := hid (fin_step mo bs k x hx hp)
        rw [hp] at HC
        clear hx hp
        go_wp2_with (first
          | (go_at_call 85; refine (HC.out _).mono ?_; rintro e w1 ⟨rfl, hn1⟩)
          | fail)
        go_roundw
        case rel => exact ⟨k + 1, by omega, by go_num, (by rw [← hf.out, HS.out] : _ = _), hn.trans hn1⟩
        case measure => simp [intOf]; omega
      | false =>
        have HS := hid (fin_stop mo bs k x hx hp)
        rw [hp] at HC
        clear hx hp
        go_wp2_with (first
          | (go_at_call 85; refine (HC.out _).mono ?_; rintro e w1 ⟨rfl, hn1⟩)
          | fail)
        go_ret
        exact Gives.i (by rw [← hf.out, HS.out]) (hn.trans hn1)
    · have hdk : decide (k < bs.length) = false := decide_eq_false hlt
      have HF := hid (fin_end mo bs k (by omega))
      go_wp2
      go_ret
      exact Gives.i (by rw [← hf.out, HF.out]) hn

set_option maxRecDepth 20000 in
theorem end_digit (bs : List UInt8) (at_ : Nat) (w : World) (hl : at_ ≤ bs.length) (hb : bs.length ≤ 1000000000) : Calls Try.prog 84 #[.string ⟨bs.toArray⟩, .int .i64 (at_ : Int), .func (.func 102) #[] #[]] w (Gives (.int .i64 ((fin dg bs at_ : Nat) : Int)) w) := by
  go_enter Try.func84, Try.ntmps84
  go_wp2
  go_loopw [1] (fun i wr => ∃ k : Nat, k ≤ bs.length ∧ i = .int .i64 (k : Int) ∧ Hid (fin dg bs k = fin dg bs at_) ∧ Nw w wr) (fun i _ => bs.length - (intOf i).toNat)
  case atStart => exact ⟨at_, hl, rfl, (rfl : _ = _), Nw.refl _⟩
  case round =>
    obtain ⟨k, hk, rfl, hf, hn⟩ := hrel
    by_cases hlt : k < bs.length
    · have hdk : decide (k < bs.length) = true := decide_eq_true hlt
      obtain ⟨x, hx⟩ : ∃ x, bs[k]? = some x := ⟨bs[k], by rw [List.getElem?_eq_getElem]⟩
      obtain ⟨hgb, hgx⟩ := str_at hx
      have HC := hid (fun w => digit_c x w)
      cases hp : dg x with
      | true =>
        have HS := hid (fin_step dg bs k x hx hp)
        rw [hp] at HC
        clear hx hp
        go_wp2_with (first
          | (go_at_call 102; refine (HC.out _).mono ?_; rintro e w1 ⟨rfl, hn1⟩)
          | fail)
        go_roundw
        case rel => exact ⟨k + 1, by omega, by go_num, (by rw [← hf.out, HS.out] : _ = _), hn.trans hn1⟩
        case measure => simp [intOf]; omega
      | false =>
        have HS := hid (fin_stop dg bs k x hx hp)
        rw [hp] at HC
        clear hx hp
        go_wp2_with (first
          | (go_at_call 102; refine (HC.out _).mono ?_; rintro e w1 ⟨rfl, hn1⟩)
          | fail)
        go_ret
        exact Gives.i (by rw [← hf.out, HS.out]) (hn.trans hn1)
    · have hdk : decide (k < bs.length) = false := decide_eq_false hlt
      have HF := hid (fin_end dg bs k (by omega))
      go_wp2
      go_ret
      exact Gives.i (by rw [← hf.out, HF.out]) hn

end Lx
end Go.Proofs.Ytdihoedehmfgfaa
namespace Go.Proofs.Ytdihoedehmfgfaa
open Go.ChangeShapes Go.WideShapes Go.ChangeAt Go.RowKit
namespace Lx
theorem eq95 (x : UInt8) : ((x.toNat : Int) == 95) = decide (x.toNat = 95) := by rw [Bool.eq_iff_iff, beq_iff_eq, decide_eq_true_iff]; omega
set_option maxRecDepth 20000 in
set_option maxHeartbeats 1600000 in
theorem run_words (bs : List UInt8) (at_ : Nat) (w : World) (hl : at_ ≤ bs.length) (hb : bs.length ≤ 1000000000) : Calls Try.prog 98 #[.string ⟨bs.toArray⟩, .int .i64 (at_ : Int), .bool true] w (Gives (.int .i64 ((fin mo bs at_ : Nat) - (at_ : Int))) w) := by
  go_enter Try.func98, Try.ntmps98
  go_wp2
  go_loopw [7] (fun i wr => ∃ n : Nat, at_ + n ≤ bs.length ∧ i = .int .i64 (n : Int) ∧ Hid (fin mo bs (at_ + n) = fin mo bs at_) ∧ Nw w wr) (fun i _ => bs.length - (intOf i).toNat)
  case atStart => exact ⟨0, hl, rfl, (rfl : _ = _), Nw.refl _⟩
  case round =>
    obtain ⟨n, hk, rfl, hf, hn⟩ := hrel
    by_cases hlt : at_ + n < bs.length
    · have hdk : decide (at_ + n < bs.length) = true := decide_eq_true hlt
      obtain ⟨x, hx⟩ : ∃ x, bs[at_ + n]? = some x := ⟨bs[at_ + n], by rw [List.getElem?_eq_getElem]⟩
      obtain ⟨hgb, hgx⟩ := str_at hx
      have HM := hid (show mo x = (sm x || dg x || decide (x.toNat = 95)) from rfl)
      have HD := hid (fun w => rdigit_c x w)
      have HSM := hid (fun w => small_c x w)
      have hu := eq95 x
      cases hd : dg x with
      | true =>
        rw [hd] at HD HM
        have hp : mo x = true := by first | exact hd | (rw [HM.out]; simp)
        have HS := hid (fin_step mo bs (at_ + n) x hx hp)
        clear hx hp HM
        go_wp2_with (first
          | (go_at_call 105; refine (HD.out _).mono ?_; rintro e w1 ⟨rfl, hn1⟩)
          | (go_at_call 97; refine (HSM.out _).mono ?_; rintro e w1 ⟨rfl, hn1⟩)
          | fail)
        go_roundw
        case rel => exact ⟨n + 1, by omega, by go_num, (by rw [← hf.out, HS.out]; rfl : _ = _), (by repeat (first | assumption | exact Nw.refl _ | refine Nw.alloc ?_ _ | refine Nw.drew ?_ | refine Nw.drewN2 ?_ _ | (refine Nw.trans ?_ (by assumption))))⟩
        case measure => simp [intOf]; omega
      | false =>
        rw [hd] at HD HM
        cases hs : sm x with
        | true =>
          rw [hs] at HSM HM
          have hp : mo x = true := by rw [HM.out]; rfl
          have HS := hid (fin_step mo bs (at_ + n) x hx hp)
          clear hx hp HM
          go_wp2_with (first
            | (go_at_call 105; refine (HD.out _).mono ?_; rintro e w1 ⟨rfl, hn1⟩)
            | (go_at_call 97; refine (HSM.out _).mono ?_; rintro e w1 ⟨rfl, hn1⟩)
            | fail)
          go_roundw
          case rel => exact ⟨n + 1, by omega, by go_num, (by rw [← hf.out, HS.out]; rfl : _ = _), (by repeat (first | assumption | exact Nw.refl _ | refine Nw.alloc ?_ _ | refine Nw.drew ?_ | refine Nw.drewN2 ?_ _ | (refine Nw.trans ?_ (by assumption))))⟩
          case measure => simp [intOf]; omega
        | false =>
          rw [hs] at HSM HM
          cases h5 : decide (x.toNat = 95) with
          | true =>
            rw [h5] at hu HM
            have hp : mo x = true := by rw [HM.out]; rfl
            have HS := hid (fin_step mo bs (at_ + n) x hx hp)
            clear hx hp HM
            go_wp2_with (first
              | (go_at_call 105; refine (HD.out _).mono ?_; rintro e w1 ⟨rfl, hn1⟩)
              | (go_at_call 97; refine (HSM.out _).mono ?_; rintro e w1 ⟨rfl, hn1⟩)
              | fail)
            go_roundw
            case rel => exact ⟨n + 1, by omega, by go_num, (by rw [← hf.out, HS.out]; rfl : _ = _), (by repeat (first | assumption | exact Nw.refl _ | refine Nw.alloc ?_ _ | refine Nw.drew ?_ | refine Nw.drewN2 ?_ _ | (refine Nw.trans ?_ (by assumption))))⟩
            case measure => simp [intOf]; omega
          | false =>
            rw [h5] at hu HM
            have hp : mo x = false := by rw [HM.out]; rfl
            have HS := hid (fin_stop mo bs (at_ + n) x hx hp)
            clear hx hp HM
            go_wp2_with (first
              | (go_at_call 105; refine (HD.out _).mono ?_; rintro e w1 ⟨rfl, hn1⟩)
              | (go_at_call 97; refine (HSM.out _).mono ?_; rintro e w1 ⟨rfl, hn1⟩)
              | fail)
            go_ret
            exact Gives.i (by have := hf.out; have := HS.out; omega) (by repeat (first | assumption | exact Nw.refl _ | refine Nw.alloc ?_ _ | refine Nw.drew ?_ | refine Nw.drewN2 ?_ _ | (refine Nw.trans ?_ (by assumption))))
    · have hdk : decide (at_ + n < bs.length) = false := decide_eq_false hlt
      have HF := hid (fin_end mo bs (at_ + n) (by omega))
      go_wp2
      go_ret
      exact Gives.i (by have := hf.out; have := HF.out; omega) hn

set_option maxRecDepth 20000 in
set_option maxHeartbeats 1600000 in
theorem run_nums (bs : List UInt8) (at_ : Nat) (w : World) (hl : at_ ≤ bs.length) (hb : bs.length ≤ 1000000000) : Calls Try.prog 98 #[.string ⟨bs.toArray⟩, .int .i64 (at_ : Int), .bool false] w (Gives (.int .i64 ((fin dg bs at_ : Nat) - (at_ : Int))) w) := by
  go_enter Try.func98, Try.ntmps98
  go_wp2
  go_loopw [7] (fun i wr => ∃ n : Nat, at_ + n ≤ bs.length ∧ i = .int .i64 (n : Int) ∧ Hid (fin dg bs (at_ + n) = fin dg bs at_) ∧ Nw w wr) (fun i _ => bs.length - (intOf i).toNat)
  case atStart => exact ⟨0, hl, rfl, (rfl : _ = _), Nw.refl _⟩
  case round =>
    obtain ⟨n, hk, rfl, hf, hn⟩ := hrel
    by_cases hlt : at_ + n < bs.length
    · have hdk : decide (at_ + n < bs.length) = true := decide_eq_true hlt
      obtain ⟨x, hx⟩ : ∃ x, bs[at_ + n]? = some x := ⟨bs[at_ + n], by rw [List.getElem?_eq_getElem]⟩
      obtain ⟨hgb, hgx⟩ := str_at hx
      have HM := hid (show mo x = (sm x || dg x || decide (x.toNat = 95)) from rfl)
      have HD := hid (fun w => rdigit_c x w)
      have HSM := hid (fun w => small_c x w)
      have hu := eq95 x
      cases hd : dg x with
      | true =>
        rw [hd] at HD HM
        have hp : dg x = true := by first | exact hd | (rw [HM.out]; simp)
        have HS := hid (fin_step dg bs (at_ + n) x hx hp)
        clear hx hp HM
        go_wp2_with (first
          | (go_at_call 105; refine (HD.out _).mono ?_; rintro e w1 ⟨rfl, hn1⟩)
          | (go_at_call 97; refine (HSM.out _).mono ?_; rintro e w1 ⟨rfl, hn1⟩)
          | fail)
        go_roundw
        case rel => exact ⟨n + 1, by omega, by go_num, (by rw [← hf.out, HS.out]; rfl : _ = _), (by repeat (first | assumption | exact Nw.refl _ | refine Nw.alloc ?_ _ | refine Nw.drew ?_ | refine Nw.drewN2 ?_ _ | (refine Nw.trans ?_ (by assumption))))⟩
        case measure => simp [intOf]; omega
      | false =>
        rw [hd] at HD HM
        have hp : dg x = false := hd
        have HS := hid (fin_stop dg bs (at_ + n) x hx hp)
        clear hx hp HM
        go_wp2_with (first
          | (go_at_call 105; refine (HD.out _).mono ?_; rintro e w1 ⟨rfl, hn1⟩)
          | (go_at_call 97; refine (HSM.out _).mono ?_; rintro e w1 ⟨rfl, hn1⟩)
          | fail)
        go_ret
        exact Gives.i (by have := hf.out; have := HS.out; omega) (by repeat (first | assumption | exact Nw.refl _ | refine Nw.alloc ?_ _ | refine Nw.drew ?_ | refine Nw.drewN2 ?_ _ | (refine Nw.trans ?_ (by assumption))))
    · have hdk : decide (at_ + n < bs.length) = false := decide_eq_false hlt
      have HF := hid (fin_end dg bs (at_ + n) (by omega))
      go_wp2
      go_ret
      exact Gives.i (by have := hf.out; have := HF.out; omega) hn

end Lx
end Go.Proofs.Ytdihoedehmfgfaa
namespace Go.Proofs.Ytdihoedehmfgfaa
open Go.ChangeShapes Go.WideShapes Go.ChangeAt Go.RowKit
namespace Lx
def strs (l : List ByteArray) : List Value := l.map .string
theorem strs_length (l : List ByteArray) : (strs l).length = l.length := by simp [strs]
theorem strs_open {w : World} {v : Value} {l : List ByteArray} (h : Sl w v (strs l)) : ∃ p cap, v = .slice p l.length cap ∧ l.length ≤ cap ∧ cap ≤ maxLen ∧ (p = none → cap = 0) ∧ Cells w p (strs l) := h.open (strs_length l)
theorem strs_cell {w : World} {p : Option Addr} {l : List ByteArray} (h : Cells w p (strs l)) (i : Nat) (hi : i < l.length) :
    ∃ b off, p = some ⟨b, off, none⟩ ∧ w.cell? ⟨b, off + i, none⟩ = some (.string l[i]) := by
  obtain ⟨b, off, e, h⟩ := h i (by rw [strs_length]; exact hi)
  refine ⟨b, off, e, ?_⟩
  rw [h]; simp [strs]
theorem beq_str (a b : ByteArray) : (a.toList == b.toList) = decide (a = b) := by rw [← beq_toListBytes, Bool.eq_iff_iff, Go.MapKept.bytes_beq, decide_eq_true_iff]
def isIn (s : ByteArray) (l : List ByteArray) : Bool := l.any fun y => s.toList == y.toList
theorem isIn_iff (s : ByteArray) (l : List ByteArray) : isIn s l = true ↔ s ∈ l := by
  unfold isIn
  rw [List.any_eq_true]
  constructor
  · rintro ⟨y, hy, h⟩
    rw [beq_str, decide_eq_true_iff] at h
    rw [h]; exact hy
  · intro h
    exact ⟨s, h, beq_self_eq_true _⟩
theorem not_take {l : List ByteArray} {s : ByteArray} {k : Nat} (hk : k < l.length) (h : s ∉ l.take k) (he : l[k] ≠ s) : s ∉ l.take (k + 1) := by
  rw [List.take_add_one, List.getElem?_eq_getElem hk]
  simp only [List.mem_append, Option.toList_some, List.mem_singleton, not_or]
  exact ⟨h, fun e => he e.symm⟩
/-- A call hands back a place of s, or one below 0. -/
def HandsI (w : World) (l : List ByteArray) (s : ByteArray) (e : Ending) (w' : World) : Prop := ∃ i : Int, e = .returned (.int .i64 i) ∧ (0 ≤ i ↔ s ∈ l) ∧ (0 ≤ i → l[i.toNat]? = some s ∧ i < l.length) ∧ -1 ≤ i ∧ Nw w w'
theorem index_c (v : Value) (l : List ByteArray) (s : ByteArray) (w : World) (hv : Sl w v (strs l)) : Calls Try.prog 86 #[v, .string s] w (HandsI w l s) := by
  obtain ⟨p, cap, rfl, hcap, hmx, _, hc⟩ := strs_open hv
  unfold maxLen at hmx
  have HC := hid hc
  clear hc hv
  go_enter Try.func86, Try.ntmps86
  go_wp2
  go_loopw [5, 8] (fun _ i wr => ∃ k : Nat, k ≤ l.length ∧ i = .int .i64 k ∧ Hid (s ∉ l.take k) ∧ Nw w wr) (fun _ i _ => l.length - (intOf i).toNat)
  case atStart => exact ⟨0, Nat.zero_le _, rfl, (by simp : s ∉ l.take 0), Nw.refl _⟩
  case round =>
    obtain ⟨k, hk, rfl, ht, hn⟩ := hrel
    by_cases hlt : k < l.length
    · have hdk : decide (k < l.length) = true := decide_eq_true hlt
      obtain ⟨b1, o1, rfl, hcell⟩ := strs_cell (HC.out.nw hn) k hlt
      by_cases he : l[k] = s
      · have hd : (s.toList == l[k].toList) = true := by rw [he]; exact beq_self_eq_true _
        have HM := hid (show s ∈ l from he ▸ List.getElem_mem hlt)
        have HG := hid (show l[k]? = some s by rw [List.getElem?_eq_getElem hlt, he])
        clear he
        generalize l[k] = y at *
        go_wp2
        go_ret
        exact ⟨(k : Int), rfl, ⟨fun _ => HM.out, fun _ => by omega⟩, fun _ => ⟨by rw [Int.toNat_natCast]; exact HG.out, by omega⟩, by omega, hn⟩
      · have hd : (s.toList == l[k].toList) = false := by rw [beq_str]; exact decide_eq_false (fun e => he e.symm)
        have HN := hid (not_take hlt ht.out he)
        clear he
        generalize l[k] = y at *
        go_wp2
        go_roundw
        case rel => exact ⟨k + 1, by omega, by go_num, HN, hn⟩
        case measure => simp [intOf]; omega
    · have hdk : decide (k < l.length) = false := decide_eq_false hlt
      have HN := hid (show s ∉ l by have := ht.out; rwa [List.take_of_length_le (by omega)] at this)
      go_wp2
      go_ret
      exact ⟨-1, rfl, ⟨fun h => by omega, fun h => absurd h HN.out⟩, fun h => by omega, by omega, hn⟩
theorem contains_c (v : Value) (l : List ByteArray) (s : ByteArray) (w : World) (hv : Sl w v (strs l)) : Calls Try.prog 56 #[v, .string s] w (Gives (.bool (isIn s l)) w) := by
  go_enter Try.func56, Try.ntmps56
  go_wp2_with (first
    | (go_at_call 86; refine (index_c _ _ _ _ hv).mono ?_; rintro e w1 ⟨i, rfl, hi, _, _, hn1⟩)
    | fail)
  go_ret
  exact Gives.b (by rw [Bool.eq_iff_iff, isIn_iff]; simp only [decide_eq_true_eq]; exact hi) (by repeat (first | assumption | exact Nw.refl _ | refine Nw.alloc ?_ _ | refine Nw.drew ?_ | refine Nw.drewN2 ?_ _ | (refine Nw.trans ?_ (by assumption))))
/-! ### Reserved -/
def words : List ByteArray := [⟨#[116, 114, 117, 101]⟩, ⟨#[102, 97, 108, 115, 101]⟩, ⟨#[112, 114, 101, 118]⟩, ⟨#[110, 101, 120, 116]⟩, ⟨#[111, 110, 99, 101]⟩, ⟨#[104, 105, 115, 116]⟩, ⟨#[115, 111, 109, 101]⟩, ⟨#[97, 108, 108]⟩, ⟨#[115, 105, 110, 99, 101]⟩, ⟨#[117, 110, 116, 105, 108]⟩, ⟨#[98, 97, 99, 107]⟩, ⟨#[102, 111, 114, 101]⟩]
def words13 : List ByteArray := words ++ [⟨#[]⟩]
theorem words_index : ∀ (k : Nat) (_ : k < 13) (w : World), (Instr.index 140 (.agg (strs words13).toArray) (.int .i64 (k : Int))).run Try.prog w = .ok (.string (words13.getD k ⟨#[]⟩)) w := fun k hk w => match k, hk with
  | 0, _ => by kernel_rfl
  | 1, _ => by kernel_rfl
  | 2, _ => by kernel_rfl
  | 3, _ => by kernel_rfl
  | 4, _ => by kernel_rfl
  | 5, _ => by kernel_rfl
  | 6, _ => by kernel_rfl
  | 7, _ => by kernel_rfl
  | 8, _ => by kernel_rfl
  | 9, _ => by kernel_rfl
  | 10, _ => by kernel_rfl
  | 11, _ => by kernel_rfl
  | 12, _ => by kernel_rfl
set_option maxRecDepth 20000 in
theorem reserved_c (s : ByteArray) (w : World) : Calls Try.prog 99 #[.string s] w (Gives (.bool (isIn s words13)) w) := by
  go_enter Try.func99, Try.ntmps99
  go_wp2
  have HW := hid words_index
  have hlen : words13.length = 13 := rfl
  rw [show (#[Value.string ⟨#[116, 114, 117, 101]⟩, .string ⟨#[102, 97, 108, 115, 101]⟩, .string ⟨#[112, 114, 101, 118]⟩, .string ⟨#[110, 101, 120, 116]⟩, .string ⟨#[111, 110, 99, 101]⟩, .string ⟨#[104, 105, 115, 116]⟩, .string ⟨#[115, 111, 109, 101]⟩, .string ⟨#[97, 108, 108]⟩, .string ⟨#[115, 105, 110, 99, 101]⟩, .string ⟨#[117, 110, 116, 105, 108]⟩, .string ⟨#[98, 97, 99, 107]⟩, .string ⟨#[102, 111, 114, 101]⟩, .string ⟨#[]⟩] : Array Value) = (strs words13).toArray from rfl]
  generalize words13 = l at *
  generalize (strs l).toArray = arr at *
  go_loopw [4, 6] (fun _ i wr => ∃ k : Nat, k ≤ 13 ∧ i = .int .i64 k ∧ Hid (s ∉ l.take k) ∧ Nw w wr) (fun _ i _ => 13 - (intOf i).toNat)
  case atStart => exact ⟨0, Nat.zero_le _, rfl, (by simp : s ∉ l.take 0), Nw.refl _⟩
  case round =>
    obtain ⟨k, hk, rfl, ht, hn⟩ := hrel
    by_cases hlt : k < 13
    · have hdk : decide ((k : Int) < 13) = true := decide_eq_true (by omega)
      have hw := HW.out k hlt
      have hll : k < l.length := by omega
      have eg : l.getD k ⟨#[]⟩ = l[k] := by simp [List.getD_eq_getElem?_getD, hll]
      rw [eg] at hw
      clear eg
      by_cases he : l[k] = s
      · have hd : (s.toList == l[k].toList) = true := by rw [he]; exact beq_self_eq_true _
        have HM := hid (show isIn s l = true from (isIn_iff s l).2 (he ▸ List.getElem_mem hll))
        clear he
        generalize l[k] = y at *
        go_wp2
        go_ret
        exact Gives.b HM.out.symm hn
      · have hd : (s.toList == l[k].toList) = false := by rw [beq_str]; exact decide_eq_false (fun e => he e.symm)
        have HN := hid (not_take hll ht.out he)
        clear he
        generalize l[k] = y at *
        go_wp2
        go_roundw
        case rel => exact ⟨k + 1, by omega, by go_num, HN, hn⟩
        case measure => simp [intOf]; omega
    · obtain rfl : k = 13 := by omega
      have hdk : decide ((13 : Int) < 13) = false := rfl
      have HN := hid (show isIn s l = false by
        have h1 := ht.out
        rw [List.take_of_length_le (by omega)] at h1
        cases hi : isIn s l with
        | false => rfl
        | true => exact absurd ((isIn_iff s l).1 hi) h1)
      go_wp2
      go_ret
      exact Gives.b HN.out.symm hn
end Lx
end Go.Proofs.Ytdihoedehmfgfaa
namespace Go.Proofs.Ytdihoedehmfgfaa
open Go.ChangeShapes Go.WideShapes Go.ChangeAt Go.RowKit
namespace Lx
/-- May a text be a name? -/
def nameB (bs : List UInt8) : Bool := decide (0 < bs.length) && (decide (bs.length ≤ 16) && (sm (bs.getD 0 0) && (decide (fin mo bs 0 = bs.length) && !isIn ⟨bs.toArray⟩ words)))
theorem words13_in (bs : List UInt8) (h : 0 < bs.length) : isIn ⟨bs.toArray⟩ words13 = isIn ⟨bs.toArray⟩ words := by
  unfold words13 isIn
  rw [List.any_append]
  have : ([⟨#[]⟩] : List ByteArray).any (fun y => (ByteArray.mk bs.toArray).toList == y.toList) = false := by
    rw [List.any_cons, List.any_nil, Bool.or_false, beq_str]
    refine decide_eq_false fun e => ?_
    have := congrArg (fun b : ByteArray => b.data.toList.length) e
    simp at this
    subst this
    simp at h
  rw [this, Bool.or_false]
theorem words_row (w : World) (e : TypeId) : Sl (w.alloc (.cells (strs words).toArray e)) (.slice (some ⟨w.heap.size, 0, none⟩) 12 12) (strs words) := by
  exact Sl.newAt w (strs words) e (0, 0) _ _ rfl rfl (by simp [strs, words, maxLen])
set_option maxRecDepth 20000 in
set_option maxHeartbeats 800000 in
theorem name_c (bs : List UInt8) (w : World) (hb : bs.length ≤ 1000000000) : Calls Try.prog 55 #[.string ⟨bs.toArray⟩] w (Gives (.bool (nameB bs)) w) := by
  cases bs with
  | nil =>
    go_enter Try.func55, Try.ntmps55
    go_wp2
    go_ret
    exact Gives.b rfl (by repeat (first | assumption | exact Nw.refl _ | refine Nw.alloc ?_ _ | refine Nw.drew ?_ | refine Nw.drewN2 ?_ _ | (refine Nw.trans ?_ (by assumption))))
  | cons x r =>
    have hne : (x :: r).length ≠ 0 := by simp
    have hx : (x :: r)[0]? = some x := rfl
    obtain ⟨hgb, hgx⟩ := str_at hx
    have HD := hid (show (x :: r).getD 0 0 = x from rfl)
    have HE := hid (fun w => end_more (x :: r) 0 w (Nat.zero_le _) hb)
    have hie : (x :: r).isEmpty = false := rfl
    generalize x :: r = l at *
    have HN := hid (show nameB l = (decide (0 < l.length) && (decide (l.length ≤ 16) && (sm x && (decide (fin mo l 0 = l.length) && !isIn ⟨l.toArray⟩ words)))) by unfold nameB; rw [HD.out])
    by_cases h16 : l.length ≤ 16
    · have hd16 : decide ((16 : Int) < l.length) = false := decide_eq_false (by omega)
      have HS := hid (fun w => letter_c x w)
      rw [decide_eq_true (show 0 < l.length by omega), decide_eq_true h16] at HN
      have HC := hid (fun (w : World) hw => contains_c (.slice (some ⟨w.heap.size, 0, none⟩) 12 12) words ⟨l.toArray⟩ (w.alloc (.cells (strs words).toArray 9)) hw)
      have HR := hid (fun (w : World) => words_row w 9)
      generalize isIn ⟨l.toArray⟩ words = q at *
      generalize fin mo l 0 = f at *
      cases hs : sm x with
      | false =>
        rw [hs] at HS HN
        go_enter Try.func55, Try.ntmps55
        go_wp2_with (first
          | (go_at_call 83; refine (HS.out _).mono ?_; rintro e w1 ⟨rfl, hn1⟩)
          | fail)
        go_ret
        exact Gives.b HN.out.symm (by repeat (first | assumption | exact Nw.refl _ | refine Nw.alloc ?_ _ | refine Nw.drew ?_ | refine Nw.drewN2 ?_ _ | (refine Nw.trans ?_ (by assumption))))
      | true =>
        rw [hs] at HS HN
        by_cases hf : f = l.length
        · have hnq : ((f : Int) != (l.length : Int)) = false := by simp [hf]
          rw [decide_eq_true hf] at HN
          go_enter Try.func55, Try.ntmps55
          go_wp2_with (first
            | (go_at_call 83; refine (HS.out _).mono ?_; rintro e w1 ⟨rfl, hn1⟩)
            | (go_at_call 84; refine (HE.out _).mono ?_; rintro e w2 ⟨rfl, hn2⟩)
            | (go_at_call 56; refine (HC.out w2 (HR.out w2)).mono ?_; rintro e w3 ⟨rfl, hn3⟩)
            | fail)
          go_ret
          exact Gives.b (by rw [HN.out]; rfl) (hn1.trans (hn2.trans (((Nw.refl w2).alloc _).trans hn3)))
        · have hnq : ((f : Int) != (l.length : Int)) = true := by simp; omega
          rw [decide_eq_false hf] at HN
          go_enter Try.func55, Try.ntmps55
          go_wp2_with (first
            | (go_at_call 83; refine (HS.out _).mono ?_; rintro e w1 ⟨rfl, hn1⟩)
            | (go_at_call 84; refine (HE.out _).mono ?_; rintro e w2 ⟨rfl, hn2⟩)
            | fail)
          go_ret
          exact Gives.b HN.out.symm (by repeat (first | assumption | exact Nw.refl _ | refine Nw.alloc ?_ _ | refine Nw.drew ?_ | refine Nw.drewN2 ?_ _ | (refine Nw.trans ?_ (by assumption))))
    · have hd16 : decide ((16 : Int) < l.length) = true := decide_eq_true (by omega)
      have HF := hid (show nameB l = false by unfold nameB; rw [decide_eq_false h16]; simp)
      go_enter Try.func55, Try.ntmps55
      go_wp2
      go_ret
      exact Gives.b HF.out.symm (by repeat (first | assumption | exact Nw.refl _ | refine Nw.alloc ?_ _ | refine Nw.drew ?_ | refine Nw.drewN2 ?_ _ | (refine Nw.trans ?_ (by assumption))))
set_option maxRecDepth 20000 in
set_option maxHeartbeats 800000 in
theorem rname_c (bs : List UInt8) (w : World) (hb : bs.length ≤ 1000000000) : Calls Try.prog 73 #[.string ⟨bs.toArray⟩] w (Gives (.bool (nameB bs)) w) := by
  cases bs with
  | nil =>
    go_enter Try.func73, Try.ntmps73
    go_wp2
    go_ret
    exact Gives.b rfl (by repeat (first | assumption | exact Nw.refl _ | refine Nw.alloc ?_ _ | refine Nw.drew ?_ | refine Nw.drewN2 ?_ _ | (refine Nw.trans ?_ (by assumption))))
  | cons x r =>
    have hne : 0 < (x :: r).length := by simp
    have hx : (x :: r)[0]? = some x := rfl
    obtain ⟨hgb, hgx⟩ := str_at hx
    have HD := hid (show (x :: r).getD 0 0 = x from rfl)
    have HE := hid (fun w => run_words (x :: r) 0 w (Nat.zero_le _) hb)
    have hw13 := words13_in (x :: r) hne
    generalize x :: r = l at *
    have hdp : decide (0 < l.length) = true := decide_eq_true hne
    have HN := hid (show nameB l = (decide (0 < l.length) && (decide (l.length ≤ 16) && (sm x && (decide (fin mo l 0 = l.length) && !isIn ⟨l.toArray⟩ words)))) by unfold nameB; rw [HD.out])
    by_cases h16 : l.length ≤ 16
    · have hd16 : decide ((l.length : Int) ≤ 16) = true := decide_eq_true (by omega)
      have HS := hid (fun w => small_c x w)
      rw [hdp, decide_eq_true h16] at HN
      have HC := hid (fun w => reserved_c ⟨l.toArray⟩ w)
      rw [hw13] at HC
      clear hw13
      generalize isIn ⟨l.toArray⟩ words = q at *
      generalize fin mo l 0 = f at *
      cases hs : sm x with
      | false =>
        rw [hs] at HS HN
        go_enter Try.func73, Try.ntmps73
        go_wp2_with (first
          | (go_at_call 97; refine (HS.out _).mono ?_; rintro e w1 ⟨rfl, hn1⟩)
          | fail)
        go_ret
        exact Gives.b HN.out.symm (by repeat (first | assumption | exact Nw.refl _ | refine Nw.alloc ?_ _ | refine Nw.drew ?_ | refine Nw.drewN2 ?_ _ | (refine Nw.trans ?_ (by assumption))))
      | true =>
        rw [hs] at HS HN
        by_cases hf : f = l.length
        · have hnq : (((f : Int) - 0) == (l.length : Int)) = true := by simp [hf]
          rw [decide_eq_true hf] at HN
          go_enter Try.func73, Try.ntmps73
          go_wp2_with (first
            | (go_at_call 97; refine (HS.out _).mono ?_; rintro e w1 ⟨rfl, hn1⟩)
            | (go_at_call 98; refine (HE.out _).mono ?_; rintro e w2 ⟨rfl, hn2⟩)
            | (go_at_call 99; refine (HC.out _).mono ?_; rintro e w3 ⟨rfl, hn3⟩)
            | fail)
          go_ret
          exact Gives.b (by rw [HN.out]; rfl) (by repeat (first | assumption | exact Nw.refl _ | refine Nw.alloc ?_ _ | refine Nw.drew ?_ | refine Nw.drewN2 ?_ _ | (refine Nw.trans ?_ (by assumption))))
        · have hnq : (((f : Int) - 0) == (l.length : Int)) = false := by simp; omega
          rw [decide_eq_false hf] at HN
          go_enter Try.func73, Try.ntmps73
          go_wp2_with (first
            | (go_at_call 97; refine (HS.out _).mono ?_; rintro e w1 ⟨rfl, hn1⟩)
            | (go_at_call 98; refine (HE.out _).mono ?_; rintro e w2 ⟨rfl, hn2⟩)
            | fail)
          go_ret
          exact Gives.b HN.out.symm (by repeat (first | assumption | exact Nw.refl _ | refine Nw.alloc ?_ _ | refine Nw.drew ?_ | refine Nw.drewN2 ?_ _ | (refine Nw.trans ?_ (by assumption))))
    · have hd16 : decide ((l.length : Int) ≤ 16) = false := decide_eq_false (by omega)
      have HF := hid (show nameB l = false by unfold nameB; rw [decide_eq_false h16]; simp)
      go_enter Try.func73, Try.ntmps73
      go_wp2
      go_ret
      exact Gives.b HF.out.symm (by repeat (first | assumption | exact Nw.refl _ | refine Nw.alloc ?_ _ | refine Nw.drew ?_ | refine Nw.drewN2 ?_ _ | (refine Nw.trans ?_ (by assumption))))
end Lx
end Go.Proofs.Ytdihoedehmfgfaa
