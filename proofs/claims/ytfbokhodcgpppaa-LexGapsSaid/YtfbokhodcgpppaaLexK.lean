/- The contracts of slices.Equal for tokens (rows that read alike) and of layer 4's awake; LexTexts walked. No condition but lengths. -/
import Derived.Test.YtfbokhodcgpppaaLexJ
namespace Go.Proofs.Ytfbokhodcgpppaa
open Go.ChangeShapes Go.WideShapes Go.ChangeAt Go.RowKit
open Go.ChangeMaps (open_string shut_string)
namespace Lx
theorem tkl_get (l : List Tk) : ∀ (i : Nat) (t : Tk) (_ : l[i]? = some t) (j : Nat) (_ : j < 4), (tkl l)[i * 4 + j]? = (tkv t)[j]? := by
  induction l with
  | nil => intro i t h; simp at h
  | cons a r ih =>
    intro i t h j hj
    have e : tkl (a :: r) = tkv a ++ tkl r := by simp [tkl]
    rw [e]
    cases i with
    | zero =>
      simp at h
      subst h
      rw [List.getElem?_append_left (by simp [tkv]; omega)]
      simp
    | succ i =>
      simp at h
      rw [List.getElem?_append_right (by simp [tkv]; omega)]
      rw [← ih i t h j hj]
      congr 1
      simp [tkv]
      omega
/-- A row of tokens, as it reads. -/
def TS (w : World) (v : Value) (l : List Tk) : Prop := (l = [] ∧ v = .slice none 0 0) ∨ ∃ g cap, v = .slice (some ⟨g, 0, none⟩) l.length cap ∧ l.length ≤ cap ∧ cap ≤ maxLen ∧ ∀ (i : Nat) (t : Tk), l[i]? = some t → ∀ j, j < 4 → w.cell? ⟨g, i * 4 + j, none⟩ = (tkv t)[j]?
theorem TS.own {w : World} {B : Nat} {v : Value} {l : List Tk} (h : w.ownsRow B 31 4 v l.length (tkl l)) : TS w v l := by
  rcases h.2 with ⟨h1, h2⟩ | ⟨g, cap, cur, hv, hb, hg, hnc, hcm, hcs, ht⟩
  · exact Or.inl ⟨List.eq_nil_of_length_eq_zero h2, h1⟩
  · subst hv
    refine Or.inr ⟨g, cap, rfl, hnc, hcm, fun i t hi j hj => ?_⟩
    obtain ⟨hil, _⟩ := List.getElem?_eq_some_iff.1 hi
    rw [World.ownsRow.cellAt h (i * 4 + j) (by omega), tkl_get l i t hi j hj]
theorem TS.nw {w w' : World} {v : Value} {l : List Tk} (h : TS w v l) (hn : Nw w w') : TS w' v l := by
  rcases h with h | ⟨g, cap, h1, h2, h3, h4⟩
  · exact Or.inl h
  · refine Or.inr ⟨g, cap, h1, h2, h3, fun i t hi j hj => ?_⟩
    have := h4 i t hi j hj
    have hs : ∃ u, (tkv t)[j]? = some u := ⟨(tkv t)[j]'(by simp [tkv]; omega), by rw [List.getElem?_eq_getElem]⟩
    obtain ⟨u, hu⟩ := hs
    rw [hu] at this ⊢
    exact hn.cell this
theorem teq_c (u v : Value) (l : List Tk) (w : World) (hu : TS w u l) (hv : TS w v l) : Calls Try.prog 17 #[u, v] w (Gives (.bool true) w) := by
  rcases hu with ⟨rfl, rfl⟩ | ⟨g, cap, rfl, hcap, hmx, hc⟩
  · rcases hv with ⟨_, rfl⟩ | ⟨g2, cap2, rfl, hcap2, hmx2, hc2⟩
    · go_enter Try.func17, Try.ntmps17
      go_wp2
      go_loopw [5, 13] (fun _ i wr => i = .int .i64 0 ∧ Nw w wr) (fun _ i _ => (intOf i).toNat)
      case atStart => exact ⟨rfl, Nw.refl _⟩
      case round =>
        obtain ⟨rfl, hn⟩ := hrel
        go_wp2
        go_ret
        exact Gives.b rfl hn
    · go_enter Try.func17, Try.ntmps17
      go_wp2
      go_loopw [5, 13] (fun _ i wr => i = .int .i64 0 ∧ Nw w wr) (fun _ i _ => (intOf i).toNat)
      case atStart => exact ⟨rfl, Nw.refl _⟩
      case round =>
        obtain ⟨rfl, hn⟩ := hrel
        go_wp2
        go_ret
        exact Gives.b rfl hn
  · rcases hv with ⟨rfl, rfl⟩ | ⟨g2, cap2, rfl, hcap2, hmx2, hc2⟩
    · go_enter Try.func17, Try.ntmps17
      go_wp2
      go_loopw [5, 13] (fun _ i wr => i = .int .i64 0 ∧ Nw w wr) (fun _ i _ => (intOf i).toNat)
      case atStart => exact ⟨rfl, Nw.refl _⟩
      case round =>
        obtain ⟨rfl, hn⟩ := hrel
        go_wp2
        go_ret
        exact Gives.b rfl hn
    · unfold maxLen at hmx hmx2
      have HC := hid hc
      have HC2 := hid hc2
      clear hc hc2
      have hd : ((l.length : Int) != l.length) = false := by simp
      go_enter Try.func17, Try.ntmps17
      go_wp2
      go_loopw [5, 13] (fun _ i wr => ∃ k : Nat, k ≤ l.length ∧ i = .int .i64 k ∧ Nw w wr) (fun _ i _ => l.length - (intOf i).toNat)
      case atStart => exact ⟨0, Nat.zero_le _, rfl, Nw.refl _⟩
      case round =>
        obtain ⟨k, hk, rfl, hn⟩ := hrel
        by_cases hlt : k < l.length
        · have hdk : decide (k < l.length) = true := decide_eq_true hlt
          obtain ⟨t, ht⟩ : ∃ t, l[k]? = some t := ⟨l[k], by rw [List.getElem?_eq_getElem]⟩
          have a0 := hn.cell (v := .int .i64 t.kind) ((HC.out k t ht 0 (by decide)).trans rfl)
          have a1 := hn.cell (v := .string ⟨t.text.toArray⟩) ((HC.out k t ht 1 (by decide)).trans rfl)
          have a2 := hn.cell (v := .int .i64 t.num) ((HC.out k t ht 2 (by decide)).trans rfl)
          have a3 := hn.cell (v := .int .i64 (t.at_ : Int)) ((HC.out k t ht 3 (by decide)).trans rfl)
          have b0 := hn.cell (v := .int .i64 t.kind) ((HC2.out k t ht 0 (by decide)).trans rfl)
          have b1 := hn.cell (v := .string ⟨t.text.toArray⟩) ((HC2.out k t ht 1 (by decide)).trans rfl)
          have b2 := hn.cell (v := .int .i64 t.num) ((HC2.out k t ht 2 (by decide)).trans rfl)
          have b3 := hn.cell (v := .int .i64 (t.at_ : Int)) ((HC2.out k t ht 3 (by decide)).trans rfl)
          simp only [Nat.add_zero] at a0 b0
          have hg := World.block_lt_of_cell? wr _ a0
          have hg2 := World.block_lt_of_cell? wr _ b0
          simp only at hg hg2
          clear ht
          go_upto_region 6 with fail
          go_quiet (fail)
          go_wp2
          go_roundw
          case rel => exact ⟨k + 1, by omega, by go_num, (by repeat (first | assumption | exact Nw.refl _ | refine Nw.alloc ?_ _ | refine Nw.drew ?_ | refine Nw.drewN2 ?_ _ | (refine Nw.trans ?_ (by assumption))))⟩
          case measure => simp [intOf]; omega
        · have hdk : decide (k < l.length) = false := decide_eq_false hlt
          go_wp2
          go_ret
          exact Gives.b rfl hn
end Lx
end Go.Proofs.Ytfbokhodcgpppaa
