/- The laws of layer 1 walked: SumReckons: for any bytes and any sum the program's sums are the reference's. No condition. -/
import Derived.Test.YtdihoedehmfgfaaSum
set_option linter.unusedSimpArgs false
set_option linter.unusedVariables false
namespace Go.Proofs.Ytdihoedehmfgfaa
open Go.ChangeShapes Go.WideShapes Go.ChangeAt Go.RowKit
namespace Sum
end Sum
end Go.Proofs.Ytdihoedehmfgfaa
