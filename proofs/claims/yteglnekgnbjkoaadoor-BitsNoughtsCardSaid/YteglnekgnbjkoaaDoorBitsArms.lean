/- Small sets, for the walks of layer 2's laws. -/
import Derived.Test.YteglnekgnbjkoaaDoorBitsI
namespace Go.Proofs.YteglnekgnbjkoaaDoor
open Go.ChangeShapes Go.WideShapes Go.ChangeAt Go.RowKit
namespace Words
def Small (s : List Wd) : Prop := s.length ≤ 1000
theorem small_le {s : List Wd} (h : Small s) : s.length ≤ 1073741824 := Nat.le_trans h (by decide)
theorem or_small {a b : List Wd} (ha : Small a) (hb : Small b) : Small (or a b) := Nat.le_trans (mk_len _ _) (Nat.max_le.2 ⟨ha, hb⟩)
theorem and_small {a b : List Wd} (ha : Small a) (hb : Small b) : Small (and a b) := Nat.le_trans (mk_len _ _) (Nat.max_le.2 ⟨ha, hb⟩)
theorem less_small {a b : List Wd} (ha : Small a) : Small (less a b) := Nat.le_trans (mk_len _ _) ha
theorem cut_small {a : List Wd} {n : Int} (ha : Small a) : Small (cut a n) := Nat.le_trans (mk_len _ _) ha
theorem of_small (l : List Int) : Small (of l) := by
  have := trim_len (ofw l)
  rw [ofw_len] at this
  exact Nat.le_trans this (by decide)
end Words
end Go.Proofs.YteglnekgnbjkoaaDoor
