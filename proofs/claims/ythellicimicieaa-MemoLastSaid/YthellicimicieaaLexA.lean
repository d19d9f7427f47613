/- Letters, digits, names: the contracts of lex.letter, digit, more, end and of the reference's small, digit, run. No condition but the lengths that any string has. -/
import Derived.Test.YthellicimicieaaAppB
set_option linter.unusedSimpArgs false
set_option linter.unusedVariables false
namespace Go.Proofs.Ythellicimicieaa
open Go.ChangeShapes Go.WideShapes Go.ChangeAt Go.RowKit
namespace Lx
def sm (b : UInt8) : Bool := decide (97 ≤ b.toNat) && decide (b.toNat ≤ 122)
def dg (b : UInt8) : Bool := decide (48 ≤ b.toNat) && decide (b.toNat ≤ 57)
def mo (b : UInt8) : Bool := sm b || dg b || decide (b.toNat = 95)
def fin (P : UInt8 → Bool) (bs : List UInt8) (k : Nat) : Nat := k + ((bs.drop k).takeWhile P).length
theorem fin_end (P : UInt8 → Bool) (bs : List UInt8) (k : Nat) (h : bs.length ≤ k) : fin P bs k = k := by unfold fin; rw [List.drop_of_length_le h]; rfl
theorem fin_step (P : UInt8 → Bool) (bs : List UInt8) (k : Nat) (x : UInt8) (h : bs[k]? = some x) (hp : P x = true) : fin P bs k = fin P bs (k + 1) := by
  obtain ⟨hk, rfl⟩ := List.getElem?_eq_some_iff.1 h
  unfold fin
  rw [List.drop_eq_getElem_cons hk, List.takeWhile_cons, if_pos hp, List.length_cons]
  omega
theorem fin_stop (P : UInt8 → Bool) (bs : List UInt8) (k : Nat) (x : UInt8) (h : bs[k]? = some x) (hp : P x = false) : fin P bs k = k := by
  obtain ⟨hk, rfl⟩ := List.getElem?_eq_some_iff.1 h
  unfold fin
  rw [List.drop_eq_getElem_cons hk, List.takeWhile_cons, if_neg (by rw [hp]; decide)]
  rfl
theorem fin_le (P : UInt8 → Bool) (bs : List UInt8) (k : Nat) (h : k ≤ bs.length) : k ≤ fin P bs k ∧ fin P bs k ≤ bs.length := by
  unfold fin
  have := (List.takeWhile_sublist P (l := bs.drop k)).length_le
  rw [List.length_drop] at this
  omega
theorem str_at {bs : List UInt8} {k : Nat} {x : UInt8} (h : bs[k]? = some x) : ∃ hk, (ByteArray.mk bs.toArray)[k]'hk = x := by
  obtain ⟨hk, e⟩ := List.getElem?_eq_some_iff.1 h
  refine ⟨by show k < bs.toArray.size; simpa using hk, ?_⟩
  show bs.toArray[k]'_ = x
  simpa using e
def str (bs : List UInt8) : Value := .string ⟨bs.toArray⟩
end Lx
end Go.Proofs.Ythellicimicieaa
