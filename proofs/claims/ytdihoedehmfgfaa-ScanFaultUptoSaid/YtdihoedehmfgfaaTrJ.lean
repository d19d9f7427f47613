/- The contracts of Front, both. No condition but lengths. -/
import Derived.Test.YtdihoedehmfgfaaTrI
set_option linter.unusedSimpArgs false
set_option linter.unusedVariables false
namespace Go.Proofs.Ytdihoedehmfgfaa
open Go.ChangeShapes Go.WideShapes Go.ChangeAt Go.RowKit
namespace Tr
open Go.Proofs.Ytdihoedehmfgfaa.Lx (isIn nameB strs_open strs_cell contains_c)
open Go.Proofs.Ytdihoedehmfgfaa.Rec (rises i64s_open i64_cell)
def frontP (a b : T) : Bool := mayP a && (mayP b && (decide (a.names = b.names) && (decide (a.evs.length ≤ b.evs.length) && decide (a.evs = b.evs.take a.evs.length))))
end Tr
end Go.Proofs.Ytdihoedehmfgfaa
