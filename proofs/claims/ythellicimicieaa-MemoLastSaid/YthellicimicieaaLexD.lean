/- Names: the contracts of lex.Name and watchglassref1.Name. No condition but a length that any text has. -/
import Derived.Test.YthellicimicieaaLexC
set_option linter.unusedSimpArgs false
set_option linter.unusedVariables false
namespace Go.Proofs.Ythellicimicieaa
open Go.ChangeShapes Go.WideShapes Go.ChangeAt Go.RowKit
namespace Lx
/-- May a text be a name? -/
def nameB (bs : List UInt8) : Bool := decide (0 < bs.length) && (decide (bs.length ≤ 16) && (sm (bs.getD 0 0) && (decide (fin mo bs 0 = bs.length) && !isIn ⟨bs.toArray⟩ words)))
theorem words13_in (bs : List UInt8) (h : 0 < bs.length) : isIn ⟨bs.toArray⟩ words13 = isIn ⟨bs.toArray⟩ words := by
  unfold words13 isIn
  rw [List.any_append]
  have : ([⟨#[]⟩] : List ByteArray).any (fun y => (ByteArray.mk bs.toArray).toList == y.toList) = false := by
    rw [List.any_cons, List.any_nil, Bool.or_false, beq_str]
    refine decide_eq_false fun e => ?_
    have := congrArg (fun b : ByteArray => b.data.toList.length) e
    simp at this
    subst this
    simp at h
  rw [this, Bool.or_false]
theorem words_row (w : World) (e : TypeId) : Sl (w.alloc (.cells (strs words).toArray e)) (.slice (some ⟨w.heap.size, 0, none⟩) 12 12) (strs words) := by
  exact Sl.newAt w (strs words) e (0, 0) _ _ rfl rfl (by simp [strs, words, maxLen])
end Lx
end Go.Proofs.Ythellicimicieaa
