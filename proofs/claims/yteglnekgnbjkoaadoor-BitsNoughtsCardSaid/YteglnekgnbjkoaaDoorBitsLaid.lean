/- The library's table that layer 2 reads lies as its text lays it. -/
import Derived.Test.YteglnekgnbjkoaaDoorBitsArms
import Derived.Test.YteglnekgnbjkoaaDoorLaid
namespace Go.Proofs.YteglnekgnbjkoaaDoor
open Go.ChangeShapes Go.WideShapes Go.ChangeAt Go.RowKit
theorem gTz : Tryd.prog.globalNamed "math/bits.deBruijn64tab" = some 0 := by kernel_rfl
theorem gTzT : (Tryd.prog.globals[0]?).map (·.type) = some 60 := by kernel_rfl
theorem tz_of {W : World} (h : laidMetH Tryd.prog Rows.bitsMakesRow.laid W) : Words.Tz W := by
  have ht : Lib.TabIs Tryd.prog W "math/bits.deBruijn64tab" .u8 (Lib.deBruijn64tab.map fun n : Nat => (n : Int)) :=
    Lib.tabIs_of_head (rest := []) gTz gTzT Tryd.underlying60 Tryd.underlying5 (by kernel_rfl) (by kernel_rfl) (show laidMet Tryd.prog [("math/bits.deBruijn64tab", _)] W from (show laidMet Tryd.prog Rows.bitsMakesRow.laid W from h))
  intro j hj
  have := ht.cell gTz j (by simpa using hj)
  rw [this]
  simp [List.getD_eq_getElem?_getD, hj]
end Go.Proofs.YteglnekgnbjkoaaDoor
