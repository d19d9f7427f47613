/- The contracts of slices.Equal for tokens (rows that read alike) and of layer 4's awake; LexTexts walked. No condition but lengths. -/
import Derived.Test.YtfbokhodcgpppaaDoorLexJ
namespace Go.Proofs.YtfbokhodcgpppaaDoor
open Go.ChangeShapes Go.WideShapes Go.ChangeAt Go.RowKit
open Go.ChangeMaps (open_string shut_string)
namespace Lx
theorem tkl_get (l : List Tk) : ∀ (i : Nat) (t : Tk) (_ : l[i]? = some t) (j : Nat) (_ : j < 4), (tkl l)[i * 4 + j]? = (tkv t)[j]? := by
  induction l with
  | nil => intro i t h; simp at h
  | cons a r ih =>
    intro i t h j hj
    have e : tkl (a :: r) = tkv a ++ tkl r := by simp [tkl]
    rw [e]
    cases i with
    | zero =>
      simp at h
      subst h
      rw [List.getElem?_append_left (by simp [tkv]; omega)]
      simp
    | succ i =>
      simp at h
      rw [List.getElem?_append_right (by simp [tkv]; omega)]
      rw [← ih i t h j hj]
      congr 1
      simp [tkv]
      omega
/-- A row of tokens, as it reads. -/
def TS (w : World) (v : Value) (l : List Tk) : Prop := (l = [] ∧ v = .slice none 0 0) ∨ ∃ g cap, v = .slice (some ⟨g, 0, none⟩) l.length cap ∧ l.length ≤ cap ∧ cap ≤ maxLen ∧ ∀ (i : Nat) (t : Tk), l[i]? = some t → ∀ j, j < 4 → w.cell? ⟨g, i * 4 + j, none⟩ = (tkv t)[j]?
theorem TS.own {w : World} {B : Nat} {v : Value} {l : List Tk} (h : w.ownsRow B 29 4 v l.length (tkl l)) : TS w v l := by
  rcases h.2 with ⟨h1, h2⟩ | ⟨g, cap, cur, hv, hb, hg, hnc, hcm, hcs, ht⟩
  · exact Or.inl ⟨List.eq_nil_of_length_eq_zero h2, h1⟩
  · subst hv
    refine Or.inr ⟨g, cap, rfl, hnc, hcm, fun i t hi j hj => ?_⟩
    obtain ⟨hil, _⟩ := List.getElem?_eq_some_iff.1 hi
    rw [World.ownsRow.cellAt h (i * 4 + j) (by omega), tkl_get l i t hi j hj]
theorem TS.nw {w w' : World} {v : Value} {l : List Tk} (h : TS w v l) (hn : Nw w w') : TS w' v l := by
  rcases h with h | ⟨g, cap, h1, h2, h3, h4⟩
  · exact Or.inl h
  · refine Or.inr ⟨g, cap, h1, h2, h3, fun i t hi j hj => ?_⟩
    have := h4 i t hi j hj
    have hs : ∃ u, (tkv t)[j]? = some u := ⟨(tkv t)[j]'(by simp [tkv]; omega), by rw [List.getElem?_eq_getElem]⟩
    obtain ⟨u, hu⟩ := hs
    rw [hu] at this ⊢
    exact hn.cell this
end Lx
end Go.Proofs.YtfbokhodcgpppaaDoor
