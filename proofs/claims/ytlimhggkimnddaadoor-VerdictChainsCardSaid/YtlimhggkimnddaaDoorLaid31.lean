/- What the rows of layer 31 have of the library: the tables lie as they are laid, MaxLen holds a number, and a world for the witness. No condition. -/
import Derived.Test.YtlimhggkimnddaaDoorVerR
import Derived.Test.YtlimhggkimnddaaDoorVerS
import Derived.Test.YtlimhggkimnddaaDoorCards
import Derived.Test.YtlimhggkimnddaaDoorTie
import Derived.Deep.DeepHandedRow
import Derived.Lib.LaidTab
import Derived.Lib.SmallJoins
import Derived.Stop.LaidErr
import Derived.Lib.ItoaMem
import Derived.Lib.BitFns
import Derived.Shelf.Vars
set_option linter.unusedSimpArgs false
set_option linter.unusedVariables false
namespace Go.Proofs.YtlimhggkimnddaaDoor
open Go.ChangeShapes Go.WideShapes Go.ChangeAt Go.RowKit
def cellsOfData : DataW Unit → Array Value
  | .agg parts => (parts.map fun | .lit (.int k n) => Value.int k n | _ => undef).toArray
  | _ => #[]
/-- A world for the witnesses: the settled one, its tables filled. -/
noncomputable def laidWorld (os : Os) : World :=
  let w := World.holding Tryd.prog os ⟨#[], #[], []⟩
  { w with heap := ((w.heap.modify 3 fun
      | .cells _ t frozen => .cells (cellsOfData Rows.laid_math_bits_deBruijn64tab) t frozen
      | o => o).modify 2 fun
      | .cells _ t frozen => .cells (cellsOfData Rows.laid_math_bits_deBruijn32tab) t frozen
      | o => o).modify 1 fun
      | .cells _ t frozen => .cells (cellsOfData Rows.laid_internal_strconv_uint64pow10) t frozen
      | o => o }
theorem gPow : Tryd.prog.globalNamed "internal/strconv.uint64pow10" = some 1 := by kernel_rfl
theorem gPowT : (Tryd.prog.globals[1]?).map (·.type) = some 84 := by kernel_rfl
/-- The powers of ten, out of the rows' list. -/
theorem pow_of {W : World} (h : laidMetH Tryd.prog Rows.verdictTextsRow.laid W) : Lib.TabIs Tryd.prog W "internal/strconv.uint64pow10" .u64 Lib.pow10Tab :=
  Lib.tabIs_of_head (rest := []) gPow gPowT Tryd.underlying84 Tryd.underlying75 (by kernel_rfl) (by kernel_rfl) (show laidMet Tryd.prog [("internal/strconv.uint64pow10", _)] W from (show laidMet Tryd.prog Rows.verdictTextsRow.laid W from h).tail.tail)
theorem tab_of {W : World} (h : laidMetH Tryd.prog Rows.verdictTextsRow.laid W) : Vd.Tab W := fun w' hn => Joins.tab_stays gPow (pow_of h) hn (Nat.le_refl _)
theorem mx_of {W : World} (h : W.ShapedOpen Tryd.prog) : Vd.Mx W :=
  cell_of_shapedOpen_int h (g := 0) (t := 3) (zero := #[.int .i64 0]) (of_decide_eq_true (by kernel_rfl)) (by kernel_rfl) rfl (by kernel_rfl) (by kernel_rfl) Tryd.underlying3
end Go.Proofs.YtlimhggkimnddaaDoor
