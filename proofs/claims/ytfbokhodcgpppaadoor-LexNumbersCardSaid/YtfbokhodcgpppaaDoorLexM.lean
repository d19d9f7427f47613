/- A name's tokens; LexNames walked. No condition but lengths. -/
import Derived.Test.YtfbokhodcgpppaaDoorLexL
namespace Go.Proofs.YtfbokhodcgpppaaDoor
open Go.ChangeShapes Go.WideShapes Go.ChangeAt Go.RowKit
namespace Lx
theorem sm_not_blank {x : UInt8} (h : sm x = true) : ¬ (x = 32 ∨ x = 10) := by
  rintro (rfl | rfl) <;> exact absurd h (by decide)
/-- A name is one word, whole. -/
theorem name_lex (bs : List UInt8) (h : nameB bs = true) : lexP bs = ([⟨1, bs, 0, 0⟩, ⟨0, [], 0, bs.length⟩], 0, 0) := by
  unfold nameB at h
  simp only [Bool.and_eq_true, decide_eq_true_eq] at h
  obtain ⟨h0, h16, hs, hf, _⟩ := h
  obtain ⟨x, r, rfl⟩ : ∃ x r, bs = x :: r := by
    cases bs with
    | nil => simp at h0
    | cons x r => exact ⟨x, r, rfl⟩
  have hx : (x :: r)[0]? = some x := rfl
  have hs' : sm x = true := hs
  have ht : tokAt (x :: r) 0 x = some (⟨1, x :: r, 0, 0⟩, (x :: r).length) := by
    unfold tokAt
    rw [if_pos hs', hf, if_neg (by omega)]
    simp [cut]
  unfold lexP
  rw [if_neg (by omega), go_tok (x :: r) _ 0 _ [] x _ hx (sm_not_blank hs') ht]
  rw [show (x :: r).length = r.length + 1 from rfl, go_end (x :: r) r.length _ _ (by simp)]
  simp
end Lx
end Go.Proofs.YtfbokhodcgpppaaDoor
