/- SourceNil: for every input the law returns true, and each argument reads as it did. No condition. -/
import Derived.Test.YtdihoedehmfgfaaSource
set_option linter.unusedSimpArgs false
set_option linter.unusedVariables false
namespace Go.Proofs.Ytdihoedehmfgfaa
open Go.ChangeShapes Go.WideShapes Go.ChangeAt Go.RowKit
open Go.ChangeMaps (open_string shut_string)
namespace Src
theorem read_nil (at_ most : Int) (w : World) : Calls Try.prog 88 #[.pointer none, .int .i64 at_, .int .i64 most] w fun e w' => e = .returned (.tuple #[.slice none 0 0, .int .i64 1]) ∧ w = w' := by
  go_enter Try.func88, Try.ntmps88
  go_wp2
  go_ret2
  exact ⟨rfl, rfl⟩
theorem len_nil (w : World) : Calls Try.prog 58 #[.pointer none] w fun e w' => e = .returned (.int .i64 0) ∧ w = w' := by
  go_enter Try.func58, Try.ntmps58
  go_wp2
  go_ret
  exact ⟨rfl, rfl⟩
end Src
end Go.Proofs.Ytdihoedehmfgfaa
