/- The contract of watchglassref1.Lex: the same tokens. No condition but a length that any text has. -/
import Derived.Test.YtfbokhodcgpppaaDoorLexI
namespace Go.Proofs.YtfbokhodcgpppaaDoor
open Go.ChangeShapes Go.WideShapes Go.ChangeAt Go.RowKit
namespace Lx
theorem cut_get (bs : List UInt8) (k n j : Nat) (h : j < n) : (cut bs k (k + n))[j]? = bs[k + j]? := by
  unfold cut
  rw [Nat.add_sub_cancel_left, List.getElem?_take_of_lt h, List.getElem?_drop]
end Lx
end Go.Proofs.YtfbokhodcgpppaaDoor
