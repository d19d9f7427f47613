/- What a memory reads as: rows of entries of five cells each, in a block of the call's own; which blocks are a memory's own. No program in sight. No condition. -/
import Derived.Test.YthellicimicieaaMemoB
set_option linter.unusedSimpArgs false
set_option linter.unusedVariables false
namespace Go.Proofs.Ythellicimicieaa
open Go.ChangeShapes Go.WideShapes Go.ChangeAt Go.RowKit
namespace Mm
open Go.Proofs.Ythellicimicieaa.Words (Wd trim Set ws)
/-! ### Rows of five cells each -/
def chunks (n : Nat) (g : Nat → List Value) : List Value := (List.range n).flatMap g
theorem chunks_succ (n : Nat) (g : Nat → List Value) : chunks (n + 1) g = chunks n g ++ g n := by simp [chunks, List.range_succ]
theorem chunks_len {n : Nat} {g : Nat → List Value} (h : ∀ i, (g i).length = 5) : (chunks n g).length = n * 5 := by
  induction n with
  | zero => rfl
  | succ n ih => rw [chunks_succ, List.length_append, ih, h]; omega
theorem chunks_get {g : Nat → List Value} (h : ∀ i, (g i).length = 5) {i c : Nat} (hc : c < 5) : ∀ {n : Nat}, i < n → (chunks n g)[i * 5 + c]? = (g i)[c]?
  | n + 1, hi => by
    rw [chunks_succ]
    by_cases e : i = n
    · subst e
      rw [List.getElem?_append_right (by rw [chunks_len h]; omega), chunks_len h]
      congr 1; omega
    · rw [List.getElem?_append_left (by rw [chunks_len h]; omega)]
      exact chunks_get h hc (by omega)
theorem chunks_ext {n : Nat} {g : Nat → List Value} (h : ∀ i, (g i).length = 5) {l : List Value} (hl : l.length = n * 5) (he : ∀ i c, i < n → c < 5 → l[i * 5 + c]? = (g i)[c]?) : l = chunks n g := by
  refine List.ext_getElem? fun k => ?_
  by_cases hk : k < n * 5
  · have := he (k / 5) (k % 5) (by omega) (by omega)
    rw [show k / 5 * 5 + k % 5 = k by omega] at this
    rw [this]
    have h2 := chunks_get (g := g) h (i := k / 5) (c := k % 5) (n := n) (by omega) (by omega)
    rw [show k / 5 * 5 + k % 5 = k by omega] at h2
    exact h2.symm
  · rw [List.getElem?_eq_none (by omega), List.getElem?_eq_none (by rw [chunks_len h]; omega)]
abbrev V3 := Value × Value × Value
/-- An entry's cells. -/
def ent (z : V3) (n : En) : List Value := [z.1, z.2.1, z.2.2, .bool n.e, .bool n.k]
def enc (f : Nat → V3) (l : List En) : List Value := chunks l.length fun i => ent (f i) (at_ l i)
theorem ent_len (z : V3) (n : En) : (ent z n).length = 5 := rfl
theorem enc_len (f : Nat → V3) (l : List En) : (enc f l).length = l.length * 5 := chunks_len fun _ => rfl
theorem enc_get (f : Nat → V3) (l : List En) {i c : Nat} (hi : i < l.length) (hc : c < 5) : (enc f l)[i * 5 + c]? = (ent (f i) (at_ l i))[c]? := chunks_get (fun _ => rfl) hc hi
def upd (f : Nat → V3) (i : Nat) (z : V3) : Nat → V3 := fun j => if i = j then z else f j
theorem enc_snoc (f : Nat → V3) (l : List En) (z : V3) (n : En) : enc f l ++ ent z n = enc (upd f l.length z) (l ++ [n]) := by
  unfold enc
  refine chunks_ext (fun _ => rfl) ?_ (fun i c hi hc => ?_)
  · rw [List.length_append, chunks_len (fun _ => rfl), ent_len, List.length_append, List.length_singleton]; omega
  · rw [List.length_append, List.length_singleton] at hi
    rw [at_app _ _ _ hi]
    unfold upd
    by_cases e : i = l.length
    · subst e
      rw [List.getElem?_append_right (by rw [chunks_len (fun _ => rfl)]; omega), chunks_len (fun _ => rfl), if_pos rfl, if_pos rfl]
      congr 1; omega
    · rw [List.getElem?_append_left (by rw [chunks_len (fun _ => rfl)]; omega), if_neg (fun q => e q.symm), if_neg e]
      exact chunks_get (fun _ => rfl) hc (by omega)
theorem enc_mark (f : Nat → V3) (l : List En) {i : Nat} (hi : i < l.length) (b : Bool) : (enc f l).set (i * 5 + 4) (.bool b) = enc f (l.set i (mk1 (at_ l i) b)) := by
  conv => rhs; unfold enc
  refine chunks_ext (fun _ => rfl) (by rw [List.length_set, enc_len, List.length_set]) (fun j c hj hc => ?_)
  rw [List.length_set] at hj
  rw [at_set _ _ _ _ hi, List.getElem?_set]
  by_cases e : i = j
  · subst e
    rw [if_pos rfl]
    by_cases e2 : c = 4
    · subst e2
      rw [if_pos rfl, if_pos (by rw [enc_len]; omega)]
      rfl
    · rw [if_neg (by omega), enc_get _ _ hi hc]
      unfold ent mk1
      match c, e2, hc with
      | 0, _, _ => rfl
      | 1, _, _ => rfl
      | 2, _, _ => rfl
      | 3, _, _ => rfl
      | 4, h, _ => exact absurd rfl h
  · rw [if_neg (by omega), if_neg e, enc_get _ _ hj hc]
theorem enc_put (f : Nat → V3) (l : List En) {i : Nat} (hi : i < l.length) (z : V3) (n : En) :
    (((((enc f l).set (i * 5) z.1).set (i * 5 + 1) z.2.1).set (i * 5 + 2) z.2.2).set (i * 5 + 3) (.bool n.e)).set (i * 5 + 4) (.bool n.k) = enc (upd f i z) (l.set i n) := by
  conv => rhs; unfold enc
  refine chunks_ext (fun _ => rfl) (by simp only [List.length_set]; rw [enc_len]) (fun j c hj hc => ?_)
  rw [List.length_set] at hj
  rw [at_set _ _ _ _ hi]
  have hlen : i * 5 + 4 < (enc f l).length := by rw [enc_len]; omega
  unfold upd
  by_cases e : i = j
  · subst e
    rw [if_pos rfl, if_pos rfl]
    match c, hc with
    | 0, _ => simp only [List.getElem?_set, List.length_set]; simp [ent]; omega
    | 1, _ => simp only [List.getElem?_set, List.length_set]; simp [ent]; omega
    | 2, _ => simp only [List.getElem?_set, List.length_set]; simp [ent]; omega
    | 3, _ => simp only [List.getElem?_set, List.length_set]; simp [ent]; omega
    | 4, _ => simp only [List.getElem?_set, List.length_set]; simp [ent]; omega
  · rw [if_neg e, if_neg e, ← enc_get _ _ hj hc]
    simp only [List.getElem?_set]
    rw [if_neg (by omega), if_neg (by omega), if_neg (by omega), if_neg (by omega), if_neg (by omega)]
/-! ### A memory's blocks -/
/-- A row of entries; P: the blocks that memories are made of. -/
structure Row (w : World) (P : Nat → Prop) (B : Nat) (t : TypeId) (v : Value) (f : Nat → V3) (l : List En) : Prop where
  own : w.ownsRow B t 5 v l.length (enc f l)
  mine : ∀ k, v.ownBlock = some k → P k
  sets : ∀ i, i < l.length → Set w (f i).1 (at_ l i).s ∧ Set w (f i).2.1 (at_ l i).v ∧ Set w (f i).2.2 (at_ l i).x
  apart : ∀ i, i < l.length → (∀ k, (at_ l i).s ≠ [] → (f i).1.ownBlock = some k → ¬ P k) ∧ (∀ k, (at_ l i).v ≠ [] → (f i).2.1.ownBlock = some k → ¬ P k) ∧ (∀ k, (at_ l i).x ≠ [] → (f i).2.2.ownBlock = some k → ¬ P k)
/-- A set that no memory is made of. -/
def SetP (w : World) (P : Nat → Prop) (v : Value) (s : List Wd) : Prop := Set w v s ∧ ∀ k, s ≠ [] → v.ownBlock = some k → ¬ P k
theorem SetP.mods {w w' : World} {P P' S : Nat → Prop} {v : Value} {s : List Wd} (h : SetP w P v s) (hm : Mods S w w') (hS : ∀ k, S k → P k) (hP : ∀ k, P' k → P k ∨ w.heap.size ≤ k) : SetP w' P' v s := by
  have hne : ws s ≠ [] → s ≠ [] := fun h0 h1 => h0 (by rw [h1]; rfl)
  refine ⟨Sl.mods h.1 hm fun h0 k hk hs => h.2 k (hne h0) hk (hS k hs), fun k h0 hk hp => ?_⟩
  rcases hP k hp with q | q
  · exact h.2 k h0 hk q
  · have := Sl.lt h.1 (by intro e; exact h0 (List.map_eq_nil_iff.1 e)) k hk
    omega
theorem SetP.fresh {w0 w : World} {P : Nat → Prop} {v : Value} {s : List Wd} (h : Set w v s) (hb : ∀ k, v.ownBlock = some k → w0.heap.size ≤ k) (hP : ∀ k, P k → k < w0.heap.size) : SetP w P v s :=
  ⟨h, fun k _ hk hp => by have := hb k hk; have := hP k hp; omega⟩
theorem Row.at {w : World} {P : Nat → Prop} {B : Nat} {t : TypeId} {v : Value} {f : Nat → V3} {l : List En} (h : Row w P B t v f l) {i : Nat} (hi : i < l.length) :
    SetP w P (f i).1 (at_ l i).s ∧ SetP w P (f i).2.1 (at_ l i).v ∧ SetP w P (f i).2.2 (at_ l i).x :=
  ⟨⟨(h.sets i hi).1, (h.apart i hi).1⟩, ⟨(h.sets i hi).2.1, (h.apart i hi).2.1⟩, ⟨(h.sets i hi).2.2, (h.apart i hi).2.2⟩⟩
theorem Row.of {w : World} {P : Nat → Prop} {B : Nat} {t : TypeId} {v : Value} {f : Nat → V3} {l : List En} (h1 : w.ownsRow B t 5 v l.length (enc f l)) (h2 : ∀ k, v.ownBlock = some k → P k) (h3 : ∀ i, i < l.length → SetP w P (f i).1 (at_ l i).s ∧ SetP w P (f i).2.1 (at_ l i).v ∧ SetP w P (f i).2.2 (at_ l i).x) : Row w P B t v f l :=
  ⟨h1, h2, fun i hi => ⟨(h3 i hi).1.1, (h3 i hi).2.1.1, (h3 i hi).2.2.1⟩, fun i hi => ⟨(h3 i hi).1.2, (h3 i hi).2.1.2, (h3 i hi).2.2.2⟩⟩
theorem ownsRow_mods {S : Nat → Prop} {w w' : World} {B : Nat} {e : TypeId} {size : Nat} {v : Value} {n : Nat} {xs : List Value} (h : w.ownsRow B e size v n xs) (hm : Mods S w w') (hs : ∀ k, v.ownBlock = some k → ¬ S k) : w'.ownsRow B e size v n xs := by
  obtain ⟨h1, h2⟩ := h
  refine ⟨h1, ?_⟩
  rcases h2 with h2 | ⟨g, cap, cur, hv, hg, hh, r⟩
  · exact Or.inl h2
  · exact Or.inr ⟨g, cap, cur, hv, hg, hm.heap hh (hs g (by rw [hv]; rfl)), r⟩
/-- A row stays where other blocks of memories turn. -/
theorem Row.mods {S P P' : Nat → Prop} {w w' : World} {B : Nat} {t : TypeId} {v : Value} {f : Nat → V3} {l : List En} (h : Row w P B t v f l) (hm : Mods S w w') (hv : ∀ k, v.ownBlock = some k → ¬ S k) (hS : ∀ k, S k → P k) (hP1 : ∀ k, P k → P' k) (hP2 : ∀ k, P' k → P k ∨ w.heap.size ≤ k) : Row w' P' B t v f l :=
  Row.of (ownsRow_mods h.own hm hv) (fun k hk => hP1 k (h.mine k hk)) fun i hi => by
    obtain ⟨h1, h2, h3⟩ := h.at hi
    exact ⟨h1.mods hm hS hP2, h2.mods hm hS hP2, h3.mods hm hS hP2⟩
theorem Row.nw {P : Nat → Prop} {w w' : World} {B : Nat} {t : TypeId} {v : Value} {f : Nat → V3} {l : List En} (h : Row w P B t v f l) (hn : Nw w w') : Row w' P B t v f l :=
  h.mods (hn.mods fun _ => False) (fun _ _ q => q) (fun _ q => q.elim) (fun _ q => q) (fun _ q => Or.inl q)
/-- Blocks of unlike types are two. -/
theorem type_ne {w : World} {a b : Nat} {c d : Array Value} {t u : TypeId} {fr fs : Nat × Nat} (h1 : w.heap[a]? = some (.cells c t fr)) (h2 : w.heap[b]? = some (.cells d u fs)) (hn : t ≠ u) : a ≠ b := by
  rintro rfl
  rw [h1] at h2
  cases h2
  exact hn rfl
theorem row_block {w : World} {B : Nat} {t : TypeId} {size : Nat} {v : Value} {n : Nat} {xs : List Value} (h : w.ownsRow B t size v n xs) {k : Nat} (hk : v.ownBlock = some k) : B ≤ k ∧ ∃ cur, w.heap[k]? = some (.cells cur t (0, 0)) := by
  rcases h.2 with ⟨rfl, _⟩ | ⟨g, cap, cur, rfl, hg, hh, r⟩
  · cases hk
  · cases hk
    exact ⟨hg, cur, hh⟩
end Mm
end Go.Proofs.Ythellicimicieaa
