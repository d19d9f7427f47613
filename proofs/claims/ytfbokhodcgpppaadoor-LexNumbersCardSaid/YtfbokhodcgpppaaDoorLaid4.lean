/- What the row LexNumbers has of the library: the tables lie as they are laid, and a world for the witness. No condition. -/
import Derived.Test.YtfbokhodcgpppaaDoorBase
import Derived.Test.YtfbokhodcgpppaaDoorCards
import Derived.Test.YtfbokhodcgpppaaDoorTie
import Derived.Deep.DeepHandedRow
import Derived.Lib.LaidTab
import Derived.Lib.SmallJoins
import Derived.Stop.LaidErr
import Derived.Lib.ItoaMem
import Derived.Lib.BitFns
namespace Go.Proofs.YtfbokhodcgpppaaDoor
open Go.ChangeShapes Go.WideShapes Go.ChangeAt Go.RowKit
def cellsOfData : DataW Unit → Array Value
  | .agg parts => (parts.map fun | .lit (.int k n) => Value.int k n | _ => undef).toArray
  | _ => #[]
/-- A world for the witnesses: the settled one, its tables filled. -/
noncomputable def laidWorld (os : Os) : World :=
  let w := World.holding Tryd.prog os ⟨#[], #[], []⟩
  { w with heap := ((w.heap.modify 3 fun
      | .cells _ t frozen => .cells (cellsOfData Rows.laid_math_bits_deBruijn64tab) t frozen
      | o => o).modify 2 fun
      | .cells _ t frozen => .cells (cellsOfData Rows.laid_math_bits_deBruijn32tab) t frozen
      | o => o).modify 0 fun
      | .cells _ t frozen => .cells (cellsOfData Rows.laid_internal_strconv_uint64pow10) t frozen
      | o => o }
theorem gPow : Tryd.prog.globalNamed "internal/strconv.uint64pow10" = some 0 := by kernel_rfl
theorem gPowT : (Tryd.prog.globals[0]?).map (·.type) = some 48 := by kernel_rfl
/-- The powers of ten, out of the list of an interval's law. -/
theorem pow_of {W : World} (h : laidMetH Tryd.prog Rows.lexNumbersRow.laid W) : Lib.TabIs Tryd.prog W "internal/strconv.uint64pow10" .u64 Lib.pow10Tab :=
  Lib.tabIs_of_head (rest := []) gPow gPowT Tryd.underlying48 Tryd.underlying41 (by kernel_rfl) (by kernel_rfl) (show laidMet Tryd.prog [("internal/strconv.uint64pow10", _)] W from (show laidMet Tryd.prog Rows.lexNumbersRow.laid W from h).tail.tail)
end Go.Proofs.YtfbokhodcgpppaaDoor
