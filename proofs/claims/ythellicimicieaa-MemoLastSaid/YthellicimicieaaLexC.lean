/- Names: the contracts of slices.Index and Contains for strings, Reserved, lex.Name and watchglassref1.Name. No condition but the lengths that any string has. -/
import Derived.Test.YthellicimicieaaLexB
import Derived.MapKept
import Derived.Laws.StructEq
set_option linter.unusedSimpArgs false
set_option linter.unusedVariables false
namespace Go.Proofs.Ythellicimicieaa
open Go.ChangeShapes Go.WideShapes Go.ChangeAt Go.RowKit
namespace Lx
def strs (l : List ByteArray) : List Value := l.map .string
theorem strs_length (l : List ByteArray) : (strs l).length = l.length := by simp [strs]
theorem strs_open {w : World} {v : Value} {l : List ByteArray} (h : Sl w v (strs l)) : ∃ p cap, v = .slice p l.length cap ∧ l.length ≤ cap ∧ cap ≤ maxLen ∧ (p = none → cap = 0) ∧ Cells w p (strs l) := h.open (strs_length l)
theorem strs_cell {w : World} {p : Option Addr} {l : List ByteArray} (h : Cells w p (strs l)) (i : Nat) (hi : i < l.length) :
    ∃ b off, p = some ⟨b, off, none⟩ ∧ w.cell? ⟨b, off + i, none⟩ = some (.string l[i]) := by
  obtain ⟨b, off, e, h⟩ := h i (by rw [strs_length]; exact hi)
  refine ⟨b, off, e, ?_⟩
  rw [h]; simp [strs]
theorem beq_str (a b : ByteArray) : (a.toList == b.toList) = decide (a = b) := by rw [← beq_toListBytes, Bool.eq_iff_iff, Go.MapKept.bytes_beq, decide_eq_true_iff]
def isIn (s : ByteArray) (l : List ByteArray) : Bool := l.any fun y => s.toList == y.toList
theorem isIn_iff (s : ByteArray) (l : List ByteArray) : isIn s l = true ↔ s ∈ l := by
  unfold isIn
  rw [List.any_eq_true]
  constructor
  · rintro ⟨y, hy, h⟩
    rw [beq_str, decide_eq_true_iff] at h
    rw [h]; exact hy
  · intro h
    exact ⟨s, h, beq_self_eq_true _⟩
theorem not_take {l : List ByteArray} {s : ByteArray} {k : Nat} (hk : k < l.length) (h : s ∉ l.take k) (he : l[k] ≠ s) : s ∉ l.take (k + 1) := by
  rw [List.take_add_one, List.getElem?_eq_getElem hk]
  simp only [List.mem_append, Option.toList_some, List.mem_singleton, not_or]
  exact ⟨h, fun e => he e.symm⟩
/-- A call hands back a place of s, or one below 0. -/
def HandsI (w : World) (l : List ByteArray) (s : ByteArray) (e : Ending) (w' : World) : Prop := ∃ i : Int, e = .returned (.int .i64 i) ∧ (0 ≤ i ↔ s ∈ l) ∧ (0 ≤ i → l[i.toNat]? = some s ∧ i < l.length) ∧ -1 ≤ i ∧ Nw w w'
/-! ### Reserved -/
def words : List ByteArray := [⟨#[116, 114, 117, 101]⟩, ⟨#[102, 97, 108, 115, 101]⟩, ⟨#[112, 114, 101, 118]⟩, ⟨#[110, 101, 120, 116]⟩, ⟨#[111, 110, 99, 101]⟩, ⟨#[104, 105, 115, 116]⟩, ⟨#[115, 111, 109, 101]⟩, ⟨#[97, 108, 108]⟩, ⟨#[115, 105, 110, 99, 101]⟩, ⟨#[117, 110, 116, 105, 108]⟩, ⟨#[98, 97, 99, 107]⟩, ⟨#[102, 111, 114, 101]⟩]
def words13 : List ByteArray := words ++ [⟨#[]⟩]
end Lx
end Go.Proofs.Ythellicimicieaa
