/- One pool, seen from a law. No condition but lengths. -/
import Derived.Test.YtdihoedehmfgfaaHdsI
set_option linter.unusedSimpArgs false
set_option linter.unusedVariables false
namespace Go.Proofs.Ytdihoedehmfgfaa
open Go.ChangeShapes Go.WideShapes Go.ChangeAt Go.RowKit
namespace Hp
open Go.Proofs.Ytdihoedehmfgfaa.Rec (none_ get i64s_open)
open Go.Proofs.Ytdihoedehmfgfaa.Sc (recP SI Ok)
/-- A pool between a law's calls: all that it is made of is new since W. -/
def HSt (W : World) (c : Cf) (hs : List (Option HS)) (peak : Int) (N : Nat) (w : World) : Prop :=
  ∃ P vh rs n, PI w P c vh rs peak n ∧ sts rs = hs ∧ n ≤ N ∧ (∀ k, P k → W.heap.size ≤ k) ∧ W.heap.size ≤ c.s ∧ Nw W w
section
variable {W w w' : World} {P : Nat → Prop} {c : Cf} {hs : List (Option HS)} {peak : Int} {N : Nat}
theorem HSt.base (h : HSt W c hs peak N w) : Nw W w := by obtain ⟨_, _, _, _, _, _, _, _, _, q⟩ := h; exact q
theorem HSt.nw (h : HSt W c hs peak N w) (hn : Nw w w') : HSt W c hs peak N w' := by
  obtain ⟨P, vh, rs, n, h1, h2, h3, h4, h5, h6⟩ := h
  exact ⟨P, vh, rs, n, h1.nw hn, h2, h3, h4, h5, h6.trans hn⟩
theorem HSt.po {vh : Value} {rs : List (Option Hd)} {n : Nat} {hs' : List (Option HS)} {peak' : Int} {M : Nat} (hP : ∀ k, P k → W.heap.size ≤ k) (hs : W.heap.size ≤ c.s) (hw : Nw W w) (h : PO w P c hs' peak' M w') : HSt W c hs' peak' M w' := by
  obtain ⟨P', vh', rs', n', h1, h2, h3, h4, h5, h6⟩ := h
  refine ⟨P', vh', rs', n', h3, h4, h5, fun k q => ?_, hs, hw.ofMods h6 (fun k q => ?_)⟩
  · rcases h2 k q with z | z
    · exact hP k z
    · exact Nat.le_trans hw.size z
  · rcases q with z | rfl
    · exact hP k z
    · exact hs
theorem made_st {b : List UInt8} {sc : List Int} {r : Nat} {l : List ByteArray} {k size : Int} {e : Ending} (h : Made w b sc r l k size e w') : ∃ c, e = .returned (.tuple #[.pointer (some ⟨c.a, 0, none⟩), .int .i64 0]) ∧ HSt w c [] 0 2000 w' ∧ c.b = b ∧ c.sc = sc ∧ c.r = r ∧ c.nm = l ∧ c.first = k ∧ c.size = size := by
  obtain ⟨c, P, h1, ⟨n, h2, h3⟩, h4, h5, h6, h7, h8, h9, h10, h11, h12, h13⟩ := h
  exact ⟨c, h1, ⟨P, _, _, n, h3, rfl, h2, h10, h11, h13⟩, h4, h5, h6, h7, h8, h9⟩
theorem HSt.open (h : HSt W c hs peak N w) (hl : hs.length ≤ 90000) {hs' : List (Option HS)} {peak' id er : Int} (he : openP c.size hs peak (hs0 c.first) = ((hs', peak'), (id, er))) :
    Calls Try.prog 26 #[.pointer (some ⟨c.a, 0, none⟩)] w fun e w' => e = .returned (.tuple #[.int .i64 id, .int .i64 er]) ∧ HSt W c hs' peak' N w' := by
  obtain ⟨P, vh, rs, n, h1, rfl, h3, h4, h5, h6⟩ := h
  refine (open_c h1 (by rw [← sts_length]; exact hl)).mono ?_
  rintro e w1 ⟨rfl, hp⟩
  rw [he] at hp ⊢
  exact ⟨rfl, HSt.po (vh := vh) (rs := rs) (n := n) h4 h5 h6 (by
    obtain ⟨P', vh', rs', n', a1, a2, a3, a4, a5, a6⟩ := hp
    exact ⟨P', vh', rs', n', a1, a2, a3, a4, by omega, a6⟩)⟩
theorem HSt.clone (h : HSt W c hs peak N w) (hl : hs.length ≤ 90000) {j : Int} {hs' : List (Option HS)} {peak' id er : Int} (he : cloneP c.size hs peak j = ((hs', peak'), (id, er))) :
    Calls Try.prog 28 #[.pointer (some ⟨c.a, 0, none⟩), .int .i64 j] w fun e w' => e = .returned (.tuple #[.int .i64 id, .int .i64 er]) ∧ HSt W c hs' peak' N w' := by
  obtain ⟨P, vh, rs, n, h1, rfl, h3, h4, h5, h6⟩ := h
  refine (clone_c h1 j (by rw [← sts_length]; exact hl)).mono ?_
  rintro e w1 ⟨rfl, hp⟩
  rw [he] at hp ⊢
  exact ⟨rfl, HSt.po (vh := vh) (rs := rs) (n := n) h4 h5 h6 (by
    obtain ⟨P', vh', rs', n', a1, a2, a3, a4, a5, a6⟩ := hp
    exact ⟨P', vh', rs', n', a1, a2, a3, a4, by omega, a6⟩)⟩
theorem HSt.close (h : HSt W c hs peak N w) {j : Int} {hs' : List (Option HS)} {q : Bool} (he : closeP hs j = (hs', q)) :
    Calls Try.prog 27 #[.pointer (some ⟨c.a, 0, none⟩), .int .i64 j] w fun e w' => e = .returned (.bool q) ∧ HSt W c hs' peak N w' := by
  obtain ⟨P, vh, rs, n, h1, rfl, h3, h4, h5, h6⟩ := h
  refine (close_c h1 j).mono ?_
  rintro e w1 ⟨rfl, hp⟩
  rw [he] at hp ⊢
  exact ⟨rfl, HSt.po (vh := vh) (rs := rs) (n := n) h4 h5 h6 (by
    obtain ⟨P', vh', rs', n', a1, a2, a3, a4, a5, a6⟩ := hp
    exact ⟨P', vh', rs', n', a1, a2, a3, a4, by omega, a6⟩)⟩
theorem HSt.count (h : HSt W c hs peak N w) {q : Int} (he : (cnt hs : Int) = q) : Calls Try.prog 29 #[.pointer (some ⟨c.a, 0, none⟩)] w fun e w' => e = .returned (.int .i64 q) ∧ w = w' := by
  subst he
  obtain ⟨P, vh, rs, n, h1, rfl, h3, h4, h5, h6⟩ := h
  exact count_c h1
theorem HSt.cells (h : HSt W c hs peak N w) (hl : hs.length ≤ 100000) {q : Int} (he : (cells hs : Int) = q) : Calls Try.prog 30 #[.pointer (some ⟨c.a, 0, none⟩)] w fun e w' => e = .returned (.int .i64 q) ∧ w = w' := by
  subst he
  obtain ⟨P, vh, rs, n, h1, rfl, h3, h4, h5, h6⟩ := h
  exact cells_c h1 (by rw [← sts_length]; exact hl)
theorem HSt.idx (h : HSt W c hs peak N w) (id : Int) : Calls Try.prog 31 #[.pointer (some ⟨c.a, 0, none⟩), .int .i64 id] w fun e w' => e = .returned (.tuple #[.int .i64 ((fnd hs id).elim 0 HS.idx), .bool (fnd hs id).isSome]) ∧ w = w' := by
  obtain ⟨P, vh, rs, n, h1, rfl, h3, h4, h5, h6⟩ := h
  exact idx_c h1 id
theorem HSt.peaks (h : HSt W c hs peak N w) : Calls Try.prog 32 #[.pointer (some ⟨c.a, 0, none⟩)] w fun e w' => e = .returned (.int .i64 peak) ∧ w = w' := by
  obtain ⟨P, vh, rs, n, h1, rfl, h3, h4, h5, h6⟩ := h
  exact peak_c h1
end
end Hp
end Go.Proofs.Ytdihoedehmfgfaa
