/- The contracts of Cut and Holds, both of each. No condition but lengths. -/
import Derived.Test.YtdihoedehmfgfaaTrG
set_option linter.unusedSimpArgs false
set_option linter.unusedVariables false
namespace Go.Proofs.Ytdihoedehmfgfaa
open Go.ChangeShapes Go.WideShapes Go.ChangeAt Go.RowKit
namespace Tr
open Go.Proofs.Ytdihoedehmfgfaa.Lx (isIn nameB strs_open strs_cell contains_c)
open Go.Proofs.Ytdihoedehmfgfaa.Rec (rises i64s_open i64_cell)
/-! ### Cut -/
def clampN (n : Int) (len : Nat) : Nat := (min (max n 0) (len : Int)).toNat
def cutP (t : T) (n : Int) : T := if mayP t = true then ⟨t.names, t.evs.take (clampN n t.evs.length)⟩ else none_
theorem clamp_le (n : Int) (len : Nat) : clampN n len ≤ len := by unfold clampN; omega
theorem clamp_is (n : Int) (len : Nat) : (if (len : Int) < (if n < 0 then 0 else n) then (len : Int) else if n < 0 then 0 else n) = (clampN n len : Int) := by
  unfold clampN
  split <;> split <;> omega
theorem Evs.set2 {w : World} {g j : Nat} {v x : Value} {es : Es} {a b : Value} {e : TypeId} {fr : Nat × Nat} (h : Evs w v es) (hg : w.heap[g]? = some (.cells #[a, b] e fr)) (ha : ∀ k z, Value.int k z ≠ a) (hb : ∀ k z, Value.int k z ≠ b) : Evs (w.setCell ⟨g, j, none⟩ x) v es := by
  have hm : Mods (fun k => k = g) w (w.setCell ⟨g, j, none⟩ x) := Mods.setCell (Mods.refl (fun k => k = g) w) (p := ⟨g, j, none⟩) rfl x
  obtain ⟨p, cap, rfl, h1, h2, h3, h4⟩ := h
  refine ⟨p, cap, rfl, h1, h2, h3, fun i hi => ?_⟩
  obtain ⟨b1, o1, vi, e1, c0, c1, hs⟩ := h4 i hi
  have hlt := World.block_lt_of_cell? w _ c0
  have hne : ¬ b1 = g := by
    rintro rfl
    rw [heap_cell hg] at c0
    generalize o1 + i * 2 = n at c0
    match n, c0 with
    | 0, c0 => simp at c0; exact ha _ _ c0.symm
    | 1, c0 => simp at c0; exact hb _ _ c0.symm
    | n + 2, c0 => simp at c0
  have hb2 := hm.block b1 hlt hne
  exact ⟨b1, o1, vi, e1, (World.cell?_of_block (a := ⟨b1, _, none⟩) hb2).trans c0, (World.cell?_of_block (a := ⟨b1, _, none⟩) hb2).trans c1, Sl.set2 hs hg (i64s_not (ha .i64) (hb .i64))⟩
end Tr
end Go.Proofs.Ytdihoedehmfgfaa
