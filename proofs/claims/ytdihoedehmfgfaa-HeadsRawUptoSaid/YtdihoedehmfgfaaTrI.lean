/- The contracts of Holds, both. No condition but lengths. -/
import Derived.Test.YtdihoedehmfgfaaTrH
set_option linter.unusedSimpArgs false
set_option linter.unusedVariables false
namespace Go.Proofs.Ytdihoedehmfgfaa
open Go.ChangeShapes Go.WideShapes Go.ChangeAt Go.RowKit
namespace Tr
open Go.Proofs.Ytdihoedehmfgfaa.Lx (isIn nameB strs_open strs_cell contains_c)
open Go.Proofs.Ytdihoedehmfgfaa.Rec (rises i64s_open i64_cell)
def holdsP (t : T) (i : Int) (s : ByteArray) : Bool := mayP t && (decide (0 ≤ i) && (decide (i < t.evs.length) && decide (idxP t.names s ∈ ids t.evs i.toNat)))
theorem may_rises {t : T} (h : mayP t = true) (k : Nat) (hk : k < t.evs.length) : rises (ids t.evs k) t.names.length = true := by
  unfold mayP at h
  rw [Bool.and_eq_true] at h
  have := (List.all_eq_true.1 h.2) k (List.mem_range.2 hk)
  unfold eOk at this
  rw [Bool.and_eq_true] at this
  exact this.1
theorem may_ge {t : T} (h : mayP t = true) (k : Nat) (hk : k < t.evs.length) (x : Int) (hx : x ∈ ids t.evs k) : 0 ≤ x := (Rec.rises_mem (may_rises h k hk) x hx).1
theorem holds_at (t : T) (k : Nat) (s : ByteArray) (h : mayP t = true) (hk : k < t.evs.length) : holdsP t (k : Int) s = decide (idxP t.names s ∈ ids t.evs k) := by
  unfold holdsP
  rw [h, decide_eq_true (by omega), decide_eq_true (by omega)]
  simp
theorem holds_no (t : T) (i : Int) (s : ByteArray) (h : i < 0 ∨ (t.evs.length : Int) ≤ i ∨ mayP t = false) : holdsP t i s = false := by
  unfold holdsP
  rcases h with h | h | h
  · rw [decide_eq_false (show ¬ 0 ≤ i by omega)]; simp
  · rw [decide_eq_false (show ¬ i < t.evs.length by omega)]; simp
  · rw [h]; rfl
end Tr
end Go.Proofs.Ytdihoedehmfgfaa
