/- Letters, digits, names: the contracts of lex.letter, digit, more, end and of the reference's small, digit, run. No condition but the lengths that any string has. -/
import Derived.Test.YtjelbfodkacipaaAppB
set_option linter.unusedSimpArgs false
set_option linter.unusedVariables false
namespace Go.Proofs.Ytjelbfodkacipaa
open Go.ChangeShapes Go.WideShapes Go.ChangeAt Go.RowKit
namespace Lx
def sm (b : UInt8) : Bool := decide (97 ≤ b.toNat) && decide (b.toNat ≤ 122)
def dg (b : UInt8) : Bool := decide (48 ≤ b.toNat) && decide (b.toNat ≤ 57)
def mo (b : UInt8) : Bool := sm b || dg b || decide (b.toNat = 95)
theorem letter_c (b : UInt8) (w : World) : Calls Try.prog 67 #[.int .u8 (b.toNat : Int)] w (Gives (.bool (sm b)) w) := by
  have HE := hid (show sm b = (decide (97 ≤ b.toNat) && decide (b.toNat ≤ 122)) from rfl)
  by_cases h1 : 97 ≤ b.toNat
  · have d1 : decide ((97 : Int) ≤ (b.toNat : Int)) = true := decide_eq_true (by omega)
    by_cases h2 : b.toNat ≤ 122
    · have d2 : decide ((b.toNat : Int) ≤ 122) = true := decide_eq_true (by omega)
      have HF := hid (show sm b = true by rw [HE.out, decide_eq_true h1, decide_eq_true h2]; rfl)
      go_enter Try.func67, Try.ntmps67
      go_wp2
      go_ret
      exact Gives.b HF.out.symm (by repeat (first | assumption | exact Nw.refl _ | refine Nw.alloc ?_ _ | refine Nw.drew ?_ | refine Nw.drewN2 ?_ _ | (refine Nw.trans ?_ (by assumption))))
    · have d2 : decide ((b.toNat : Int) ≤ 122) = false := decide_eq_false (by omega)
      have HF := hid (show sm b = false by rw [HE.out, decide_eq_false h2, Bool.and_false])
      go_enter Try.func67, Try.ntmps67
      go_wp2
      go_ret
      exact Gives.b HF.out.symm (by repeat (first | assumption | exact Nw.refl _ | refine Nw.alloc ?_ _ | refine Nw.drew ?_ | refine Nw.drewN2 ?_ _ | (refine Nw.trans ?_ (by assumption))))
  · have d1 : decide ((97 : Int) ≤ (b.toNat : Int)) = false := decide_eq_false (by omega)
    have HF := hid (show sm b = false by rw [HE.out, decide_eq_false h1, Bool.false_and])
    go_enter Try.func67, Try.ntmps67
    go_wp2
    go_ret
    exact Gives.b HF.out.symm (by repeat (first | assumption | exact Nw.refl _ | refine Nw.alloc ?_ _ | refine Nw.drew ?_ | refine Nw.drewN2 ?_ _ | (refine Nw.trans ?_ (by assumption))))

theorem small_c (b : UInt8) (w : World) : Calls Try.prog 70 #[.int .u8 (b.toNat : Int)] w (Gives (.bool (sm b)) w) := by
  have HE := hid (show sm b = (decide (97 ≤ b.toNat) && decide (b.toNat ≤ 122)) from rfl)
  by_cases h1 : 97 ≤ b.toNat
  · have d1 : decide ((97 : Int) ≤ (b.toNat : Int)) = true := decide_eq_true (by omega)
    by_cases h2 : b.toNat ≤ 122
    · have d2 : decide ((b.toNat : Int) ≤ 122) = true := decide_eq_true (by omega)
      have HF := hid (show sm b = true by rw [HE.out, decide_eq_true h1, decide_eq_true h2]; rfl)
      go_enter Try.func70, Try.ntmps70
      go_wp2
      go_ret
      exact Gives.b HF.out.symm (by repeat (first | assumption | exact Nw.refl _ | refine Nw.alloc ?_ _ | refine Nw.drew ?_ | refine Nw.drewN2 ?_ _ | (refine Nw.trans ?_ (by assumption))))
    · have d2 : decide ((b.toNat : Int) ≤ 122) = false := decide_eq_false (by omega)
      have HF := hid (show sm b = false by rw [HE.out, decide_eq_false h2, Bool.and_false])
      go_enter Try.func70, Try.ntmps70
      go_wp2
      go_ret
      exact Gives.b HF.out.symm (by repeat (first | assumption | exact Nw.refl _ | refine Nw.alloc ?_ _ | refine Nw.drew ?_ | refine Nw.drewN2 ?_ _ | (refine Nw.trans ?_ (by assumption))))
  · have d1 : decide ((97 : Int) ≤ (b.toNat : Int)) = false := decide_eq_false (by omega)
    have HF := hid (show sm b = false by rw [HE.out, decide_eq_false h1, Bool.false_and])
    go_enter Try.func70, Try.ntmps70
    go_wp2
    go_ret
    exact Gives.b HF.out.symm (by repeat (first | assumption | exact Nw.refl _ | refine Nw.alloc ?_ _ | refine Nw.drew ?_ | refine Nw.drewN2 ?_ _ | (refine Nw.trans ?_ (by assumption))))

theorem digit_c (b : UInt8) (w : World) : Calls Try.prog 81 #[.int .u8 (b.toNat : Int)] w (Gives (.bool (dg b)) w) := by
  have HE := hid (show dg b = (decide (48 ≤ b.toNat) && decide (b.toNat ≤ 57)) from rfl)
  by_cases h1 : 48 ≤ b.toNat
  · have d1 : decide ((48 : Int) ≤ (b.toNat : Int)) = true := decide_eq_true (by omega)
    by_cases h2 : b.toNat ≤ 57
    · have d2 : decide ((b.toNat : Int) ≤ 57) = true := decide_eq_true (by omega)
      have HF := hid (show dg b = true by rw [HE.out, decide_eq_true h1, decide_eq_true h2]; rfl)
      go_enter Try.func81, Try.ntmps81
      go_wp2
      go_ret
      exact Gives.b HF.out.symm (by repeat (first | assumption | exact Nw.refl _ | refine Nw.alloc ?_ _ | refine Nw.drew ?_ | refine Nw.drewN2 ?_ _ | (refine Nw.trans ?_ (by assumption))))
    · have d2 : decide ((b.toNat : Int) ≤ 57) = false := decide_eq_false (by omega)
      have HF := hid (show dg b = false by rw [HE.out, decide_eq_false h2, Bool.and_false])
      go_enter Try.func81, Try.ntmps81
      go_wp2
      go_ret
      exact Gives.b HF.out.symm (by repeat (first | assumption | exact Nw.refl _ | refine Nw.alloc ?_ _ | refine Nw.drew ?_ | refine Nw.drewN2 ?_ _ | (refine Nw.trans ?_ (by assumption))))
  · have d1 : decide ((48 : Int) ≤ (b.toNat : Int)) = false := decide_eq_false (by omega)
    have HF := hid (show dg b = false by rw [HE.out, decide_eq_false h1, Bool.false_and])
    go_enter Try.func81, Try.ntmps81
    go_wp2
    go_ret
    exact Gives.b HF.out.symm (by repeat (first | assumption | exact Nw.refl _ | refine Nw.alloc ?_ _ | refine Nw.drew ?_ | refine Nw.drewN2 ?_ _ | (refine Nw.trans ?_ (by assumption))))

theorem rdigit_c (b : UInt8) (w : World) : Calls Try.prog 82 #[.int .u8 (b.toNat : Int)] w (Gives (.bool (dg b)) w) := by
  have HE := hid (show dg b = (decide (48 ≤ b.toNat) && decide (b.toNat ≤ 57)) from rfl)
  by_cases h1 : 48 ≤ b.toNat
  · have d1 : decide ((48 : Int) ≤ (b.toNat : Int)) = true := decide_eq_true (by omega)
    by_cases h2 : b.toNat ≤ 57
    · have d2 : decide ((b.toNat : Int) ≤ 57) = true := decide_eq_true (by omega)
      have HF := hid (show dg b = true by rw [HE.out, decide_eq_true h1, decide_eq_true h2]; rfl)
      go_enter Try.func82, Try.ntmps82
      go_wp2
      go_ret
      exact Gives.b HF.out.symm (by repeat (first | assumption | exact Nw.refl _ | refine Nw.alloc ?_ _ | refine Nw.drew ?_ | refine Nw.drewN2 ?_ _ | (refine Nw.trans ?_ (by assumption))))
    · have d2 : decide ((b.toNat : Int) ≤ 57) = false := decide_eq_false (by omega)
      have HF := hid (show dg b = false by rw [HE.out, decide_eq_false h2, Bool.and_false])
      go_enter Try.func82, Try.ntmps82
      go_wp2
      go_ret
      exact Gives.b HF.out.symm (by repeat (first | assumption | exact Nw.refl _ | refine Nw.alloc ?_ _ | refine Nw.drew ?_ | refine Nw.drewN2 ?_ _ | (refine Nw.trans ?_ (by assumption))))
  · have d1 : decide ((48 : Int) ≤ (b.toNat : Int)) = false := decide_eq_false (by omega)
    have HF := hid (show dg b = false by rw [HE.out, decide_eq_false h1, Bool.false_and])
    go_enter Try.func82, Try.ntmps82
    go_wp2
    go_ret
    exact Gives.b HF.out.symm (by repeat (first | assumption | exact Nw.refl _ | refine Nw.alloc ?_ _ | refine Nw.drew ?_ | refine Nw.drewN2 ?_ _ | (refine Nw.trans ?_ (by assumption))))

theorem more_c (b : UInt8) (w : World) : Calls Try.prog 69 #[.int .u8 (b.toNat : Int)] w (Gives (.bool (mo b)) w) := by
  have HE := hid (show mo b = (sm b || dg b || decide (b.toNat = 95)) from rfl)
  have hs := fun w => letter_c b w
  have hd := fun w => digit_c b w
  have hu : ((b.toNat : Int) == 95) = decide (b.toNat = 95) := by rw [Bool.eq_iff_iff, beq_iff_eq, decide_eq_true_iff]; omega
  generalize decide (b.toNat = 95) = u at *
  generalize sm b = s at *
  generalize dg b = d at *
  cases s <;> cases d <;>
  · have HS := hid hs
    have HD := hid hd
    clear hs hd
    go_enter Try.func69, Try.ntmps69
    go_wp2_with (first
      | (go_at_call 67; refine (HS.out _).mono ?_; rintro e w1 ⟨rfl, hn1⟩)
      | (go_at_call 81; refine (HD.out _).mono ?_; rintro e w2 ⟨rfl, hn2⟩)
      | fail)
    go_ret
    exact Gives.b (by rw [HE.out]; first | rfl | (rw [hu]; rfl) | simp) (by repeat (first | assumption | exact Nw.refl _ | refine Nw.alloc ?_ _ | refine Nw.drew ?_ | refine Nw.drewN2 ?_ _ | (refine Nw.trans ?_ (by assumption))))
def fin (P : UInt8 → Bool) (bs : List UInt8) (k : Nat) : Nat := k + ((bs.drop k).takeWhile P).length
theorem fin_end (P : UInt8 → Bool) (bs : List UInt8) (k : Nat) (h : bs.length ≤ k) : fin P bs k = k := by unfold fin; rw [List.drop_of_length_le h]; rfl
theorem fin_step (P : UInt8 → Bool) (bs : List UInt8) (k : Nat) (x : UInt8) (h : bs[k]? = some x) (hp : P x = true) : fin P bs k = fin P bs (k + 1) := by
  obtain ⟨hk, rfl⟩ := List.getElem?_eq_some_iff.1 h
  unfold fin
  rw [List.drop_eq_getElem_cons hk, List.takeWhile_cons, if_pos hp, List.length_cons]
  omega
theorem fin_stop (P : UInt8 → Bool) (bs : List UInt8) (k : Nat) (x : UInt8) (h : bs[k]? = some x) (hp : P x = false) : fin P bs k = k := by
  obtain ⟨hk, rfl⟩ := List.getElem?_eq_some_iff.1 h
  unfold fin
  rw [List.drop_eq_getElem_cons hk, List.takeWhile_cons, if_neg (by rw [hp]; decide)]
  rfl
theorem fin_le (P : UInt8 → Bool) (bs : List UInt8) (k : Nat) (h : k ≤ bs.length) : k ≤ fin P bs k ∧ fin P bs k ≤ bs.length := by
  unfold fin
  have := (List.takeWhile_sublist P (l := bs.drop k)).length_le
  rw [List.length_drop] at this
  omega
theorem str_at {bs : List UInt8} {k : Nat} {x : UInt8} (h : bs[k]? = some x) : ∃ hk, (ByteArray.mk bs.toArray)[k]'hk = x := by
  obtain ⟨hk, e⟩ := List.getElem?_eq_some_iff.1 h
  refine ⟨by show k < bs.toArray.size; simpa using hk, ?_⟩
  show bs.toArray[k]'_ = x
  simpa using e
def str (bs : List UInt8) : Value := .string ⟨bs.toArray⟩
set_option maxRecDepth 20000 in
theorem end_more (bs : List UInt8) (at_ : Nat) (w : World) (hl : at_ ≤ bs.length) (hb : bs.length ≤ 1000000000) : Calls Try.prog 68 #[.string ⟨bs.toArray⟩, .int .i64 (at_ : Int), .func (.func 69) #[] #[]] w (Gives (.int .i64 ((fin mo bs at_ : Nat) : Int)) w) := by
  go_enter Try.func68, Try.ntmps68
  go_wp2
  go_loopw [1] (fun i wr => ∃ k : Nat, k ≤ bs.length ∧ i = .int .i64 (k : Int) ∧ Hid (fin mo bs k = fin mo bs at_) ∧ Nw w wr) (fun i _ => bs.length - (intOf i).toNat)
  case atStart => exact ⟨at_, hl, rfl, (rfl : _ = _), Nw.refl _⟩
  case round =>
    obtain ⟨k, hk, rfl, hf, hn⟩ := hrel
    by_cases hlt : k < bs.length
    · have hdk : decide (k < bs.length) = true := decide_eq_true hlt
      obtain ⟨x, hx⟩ : ∃ x, bs[k]? = some x := ⟨bs[k], by rw [List.getElem?_eq_getElem]⟩
      obtain ⟨hgb, hgx⟩ := str_at hx
      have HC := hid (fun w => more_c x w)
      cases hp : mo x with
      | true =>
        have HS := hid (fin_step mo bs k x hx hp)
        rw [hp] at HC
        clear hx hp
        go_wp2_with (first
          | (go_at_call 69; refine (HC.out _).mono ?_; rintro e w1 ⟨rfl, hn1⟩)
          | fail)
        go_roundw
        case rel => exact ⟨k + 1, by omega, by go_num, (by rw [← hf.out, HS.out] : _ = _), hn.trans hn1⟩
        case measure => simp [intOf]; omega
      | false =>
        have HS := hid (fin_stop mo bs k x hx hp)
        rw [hp] at HC
        clear hx hp
        go_wp2_with (first
          | (go_at_call 69; refine (HC.out _).mono ?_; rintro e w1 ⟨rfl, hn1⟩)
          | fail)
        go_ret
        exact Gives.i (by rw [← hf.out, HS.out]) (hn.trans hn1)
    · have hdk : decide (k < bs.length) = false := decide_eq_false hlt
      have HF := hid (fin_end mo bs k (by omega))
      go_wp2
      go_ret
      exact Gives.i (by rw [← hf.out, HF.out]) hn

set_option maxRecDepth 20000 in
theorem end_digit (bs : List UInt8) (at_ : Nat) (w : World) (hl : at_ ≤ bs.length) (hb : bs.length ≤ 1000000000) : Calls Try.prog 68 #[.string ⟨bs.toArray⟩, .int .i64 (at_ : Int), .func (.func 81) #[] #[]] w (Gives (.int .i64 ((fin dg bs at_ : Nat) : Int)) w) := by
  go_enter Try.func68, Try.ntmps68
  go_wp2
  go_loopw [1] (fun i wr => ∃ k : Nat, k ≤ bs.length ∧ i = .int .i64 (k : Int) ∧ Hid (fin dg bs k = fin dg bs at_) ∧ Nw w wr) (fun i _ => bs.length - (intOf i).toNat)
  case atStart => exact ⟨at_, hl, rfl, (rfl : _ = _), Nw.refl _⟩
  case round =>
    obtain ⟨k, hk, rfl, hf, hn⟩ := hrel
    by_cases hlt : k < bs.length
    · have hdk : decide (k < bs.length) = true := decide_eq_true hlt
      obtain ⟨x, hx⟩ : ∃ x, bs[k]? = some x := ⟨bs[k], by rw [List.getElem?_eq_getElem]⟩
      obtain ⟨hgb, hgx⟩ := str_at hx
      have HC := hid (fun w => digit_c x w)
      cases hp : dg x with
      | true =>
        have HS := hid (fin_step dg bs k x hx hp)
        rw [hp] at HC
        clear hx hp
        go_wp2_with (first
          | (go_at_call 81; refine (HC.out _).mono ?_; rintro e w1 ⟨rfl, hn1⟩)
          | fail)
        go_roundw
        case rel => exact ⟨k + 1, by omega, by go_num, (by rw [← hf.out, HS.out] : _ = _), hn.trans hn1⟩
        case measure => simp [intOf]; omega
      | false =>
        have HS := hid (fin_stop dg bs k x hx hp)
        rw [hp] at HC
        clear hx hp
        go_wp2_with (first
          | (go_at_call 81; refine (HC.out _).mono ?_; rintro e w1 ⟨rfl, hn1⟩)
          | fail)
        go_ret
        exact Gives.i (by rw [← hf.out, HS.out]) (hn.trans hn1)
    · have hdk : decide (k < bs.length) = false := decide_eq_false hlt
      have HF := hid (fin_end dg bs k (by omega))
      go_wp2
      go_ret
      exact Gives.i (by rw [← hf.out, HF.out]) hn

end Lx
end Go.Proofs.Ytjelbfodkacipaa
