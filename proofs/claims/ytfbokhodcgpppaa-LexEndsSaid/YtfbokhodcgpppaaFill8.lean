/- Rows of bytes that a call owns and fills one byte after the other: a cell, a store. No condition but lengths. -/
import Derived.Test.YtfbokhodcgpppaaMkF
namespace Go.Proofs.Ytfbokhodcgpppaa
open Go.RowKit
/-- A row under way: the first j bytes stand, the rest are noughts. -/
def under (xs : List UInt8) (j : Nat) : List UInt8 := xs.take j ++ List.replicate (xs.length - j) 0
theorem under_len (xs : List UInt8) (j : Nat) : (under xs j).length = xs.length := by simp [under]; omega
theorem under_zero (xs : List UInt8) : under xs 0 = List.replicate xs.length 0 := by simp [under]
theorem under_all (xs : List UInt8) : under xs xs.length = xs := by simp [under]
theorem under_set (xs : List UInt8) (j : Nat) (x : UInt8) (h : xs[j]? = some x) : (under xs j).set j x = under xs (j + 1) := by
  obtain ⟨hj, rfl⟩ := List.getElem?_eq_some_iff.1 h
  apply List.ext_getElem?
  intro i
  rw [List.getElem?_set]
  unfold under
  simp only [List.getElem?_append, List.length_take, List.length_append, List.length_replicate, List.getElem?_take, List.getElem?_replicate]
  by_cases h1 : j = i
  · subst h1
    rw [if_pos rfl, if_pos (by omega), if_pos (by omega), if_pos (by omega), List.getElem?_eq_getElem hj]
  · rw [if_neg h1]
    by_cases h2 : i < j
    · rw [if_pos (by omega), if_pos (by omega), if_pos (by omega), if_pos (by omega)]
    · rw [if_neg (by omega), if_neg (show ¬ i < min (j + 1) xs.length by omega)]
      by_cases h3 : i < xs.length
      · rw [if_pos (by omega), if_pos (by omega)]
      · rw [if_neg (by omega), if_neg (by omega)]
theorem own8_put {w w0 : World} {B g n cap : Nat} {e : TypeId} {s : List UInt8} {k : Nat} (h : Own w B e (.slice (some ⟨g, 0, none⟩) n cap) (u8s s)) (hl : n = s.length) (hn : Nw w0 w) (hg : w0.heap.size ≤ g) (z : Int) (x : UInt8) (hz : z = (x.toNat : Int)) :
    Own (w.setCell ⟨g, k, none⟩ (.int .u8 z)) B e (.slice (some ⟨g, 0, none⟩) n cap) (u8s (s.set k x)) ∧ Nw w0 (w.setCell ⟨g, k, none⟩ (.int .u8 z)) := by
  subst hz
  have := Own.set h (by rw [u8s_length, hl]) k (.int .u8 (x.toNat : Int))
  rw [← u8s_set] at this
  exact ⟨this, hn.setCell hg _⟩
theorem own8_cell {w : World} {B g n cap : Nat} {e : TypeId} {s : List UInt8} (h : Own w B e (.slice (some ⟨g, 0, none⟩) n cap) (u8s s)) (hl : n = s.length) (k : Nat) (hk : k < s.length) :
    w.cell? ⟨g, k, none⟩ = some (.int .u8 (s[k].toNat : Int)) ∧ w.frozen? ⟨g, k, none⟩ = false ∧ g < w.heap.size ∧ B ≤ g := by
  refine ⟨?_, Own.frozen h (by rw [u8s_length, hl]) k, (World.ownsRow.lt h g rfl).2, Own.lt h g rfl⟩
  rw [Own.cell h (by rw [u8s_length, hl]) k (by rw [u8s_length]; exact hk), u8s_get _ _ _ (List.getElem?_eq_getElem hk)]
end Go.Proofs.Ytfbokhodcgpppaa
