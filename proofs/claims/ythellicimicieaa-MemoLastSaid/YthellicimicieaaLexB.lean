/- Names: the contracts of watchglassref1.run, slices.Index and Contains for strings, Reserved, lex.Name and watchglassref1.Name. No condition but the lengths that any string has. -/
import Derived.Test.YthellicimicieaaLexA
set_option linter.unusedSimpArgs false
set_option linter.unusedVariables false
namespace Go.Proofs.Ythellicimicieaa
open Go.ChangeShapes Go.WideShapes Go.ChangeAt Go.RowKit
namespace Lx
theorem eq95 (x : UInt8) : ((x.toNat : Int) == 95) = decide (x.toNat = 95) := by rw [Bool.eq_iff_iff, beq_iff_eq, decide_eq_true_iff]; omega
end Lx
end Go.Proofs.Ythellicimicieaa
