/- The contracts of copied and Cut. No condition but lengths. -/
import Derived.Test.YtdihoedehmfgfaaJTa
import Derived.Test.YtdihoedehmfgfaaJSq
set_option linter.unusedSimpArgs false
set_option linter.unusedVariables false
namespace Go.Proofs.Ytdihoedehmfgfaa
open Go.ChangeShapes Go.WideShapes Go.ChangeAt Go.RowKit
namespace Tr
open Go.Proofs.Ytdihoedehmfgfaa.Lx (isIn nameB strs_open strs_cell contains_c)
open Go.Proofs.Ytdihoedehmfgfaa.Rec (rises i64s_open i64_cell)
/-! ### An event's way into a row -/
def CloneS (B : Nat) (l : List Int) : Says := fun w u => Own w B 3 u (i64s l)
def EvS (B : Nat) (t : Int) (l : List Int) : Says := fun w a => ∃ u, a = .agg #[.int .u64 t, u] ∧ CloneS B l w u
def OneS (B : Nat) (t : Int) (l : List Int) : Says := fun w s => ∃ g u, s = .slice (some ⟨g, 0, none⟩) 1 1 ∧ Cells w (some ⟨g, 0, none⟩) [.int .u64 t, u] ∧ CloneS B l w u
theorem CloneS.stab (B : Nat) (l : List Int) : Stab (CloneS B l) := fun _ _ _ h hn => Own.nw h hn
theorem EvS.stab (B : Nat) (t : Int) (l : List Int) : Stab (EvS B t l) := fun _ _ _ ⟨u, e, h⟩ hn => ⟨u, e, Own.nw h hn⟩
theorem OneS.stab (B : Nat) (t : Int) (l : List Int) : Stab (OneS B t l) := fun _ _ _ ⟨g, u, e, h1, h2⟩ hn => ⟨g, u, e, h1.nw hn, Own.nw h2 hn⟩
theorem CloneS.one {B : Nat} {l : List Int} {w : World} {u : Value} (h : CloneS B l w u) : u.oneCell' = true := by
  rcases h.2 with ⟨rfl, _⟩ | ⟨g, cap, cur, rfl, _⟩ <;> rfl
theorem take_snoc (es : Es) (k : Nat) (h : k < es.length) : es.take (k + 1) = es.take k ++ [(tm es k, ids es k)] := by
  rw [List.take_add_one, List.getElem?_eq_getElem h]
  congr 1
  simp [tm, ids, List.getD_eq_getElem?_getD, h]
theorem ints_shape {w : World} {B : Nat} {v : Value} {l : List Int} (h : CloneS B l w v) : ∃ q c, v = .slice q l.length c := by
  obtain ⟨q, c, e, _⟩ := i64s_open (Own.sl h)
  exact ⟨q, c, e⟩
/-! ### Blocks apart -/
theorem Sl.apart {w : World} {v : Value} {vs : List Value} {g : Nat} {a b : Value} {e : TypeId} {fr : Nat × Nat} (h : Sl w v vs) (hg : w.heap[g]? = some (.cells #[a, b] e fr)) (hne : ∀ x ∈ vs, x ≠ a ∧ x ≠ b) :
    vs ≠ [] → ∀ k, v.ownBlock = some k → k ≠ g := by
  intro h0 k hk e1
  subst e1
  obtain ⟨p, cap, rfl, h1, h2, h3, h4⟩ := h
  have hl : 0 < vs.length := by cases vs with | nil => exact absurd rfl h0 | cons x r => simp
  obtain ⟨b1, o1, e1, hc⟩ := h4 0 hl
  subst e1
  simp only [Value.ownBlock, Option.some.injEq] at hk
  subst hk
  have hx := hne vs[0] (List.getElem_mem hl)
  rw [heap_cell hg] at hc
  match o1, hc with
  | 0, hc => simp at hc; exact hx.1 hc.symm
  | 1, hc => simp at hc; exact hx.2 hc.symm
  | n + 2, hc => simp at hc
theorem i64s_not {l : List Int} {a b : Value} (ha : ∀ z, Value.int .i64 z ≠ a) (hb : ∀ z, Value.int .i64 z ≠ b) : ∀ x ∈ i64s l, x ≠ a ∧ x ≠ b := by
  intro x hx
  obtain ⟨z, _, rfl⟩ := List.mem_map.1 hx
  exact ⟨ha z, hb z⟩
theorem EvOwn.mods {S : Nat → Prop} {w w' : World} {B : Nat} {v : Value} {es : Es} (h : EvOwn w B v es) (hm : Mods S w w') (hB : ∀ k, B ≤ k → ¬ S k) (hi : ∀ (u : Value) (m : List Int), Sl w u (i64s m) → m ≠ [] → ∀ k, u.ownBlock = some k → ¬ S k) : EvOwn w' B v es := by
  obtain ⟨vs, h1, h2, h3⟩ := h
  refine ⟨vs, h1, ?_, fun i hi2 => ⟨?_, (h3 i hi2).2⟩⟩
  · refine ⟨h2.1, ?_⟩
    rcases h2.2 with h4 | ⟨g, cap, cur, hv, hg, hh, r⟩
    · exact Or.inl h4
    · exact Or.inr ⟨g, cap, cur, hv, hg, hm.heap hh (hB g hg), r⟩
  · exact Sl.mods (h3 i hi2).1 hm fun h0 => hi _ _ (h3 i hi2).1 (i64s_ne h0)
/-- A cell of another block is written. -/
theorem EvOwn.set {w : World} {B g j : Nat} {v x : Value} {es : Es} {a b : Value} {e : TypeId} {fr : Nat × Nat} (h : EvOwn w B v es) (hgB : g < B) (hg : w.heap[g]? = some (.cells #[a, b] e fr)) (ha : ∀ z, Value.int .i64 z ≠ a) (hb : ∀ z, Value.int .i64 z ≠ b) :
    EvOwn (w.setCell ⟨g, j, none⟩ x) B v es :=
  h.mods (S := fun k => k = g) (Mods.setCell (Mods.refl (fun k => k = g) w) (p := ⟨g, j, none⟩) rfl x) (fun k hk e => by omega) fun u m hu h0 k hk => Sl.apart hu hg (i64s_not ha hb) (by intro e; apply h0; cases m with | nil => rfl | cons y r => simp [i64s] at e) k hk
theorem Sl.set2 {w : World} {g j : Nat} {v x : Value} {vs : List Value} {a b : Value} {e : TypeId} {fr : Nat × Nat} (h : Sl w v vs) (hg : w.heap[g]? = some (.cells #[a, b] e fr)) (hne : ∀ x ∈ vs, x ≠ a ∧ x ≠ b) : Sl (w.setCell ⟨g, j, none⟩ x) v vs :=
  Sl.mods h (S := fun k => k = g) (Mods.setCell (Mods.refl (fun k => k = g) w) (p := ⟨g, j, none⟩) rfl x) fun h0 k hk => Sl.apart h hg hne h0 k hk
theorem strs_not {l : List ByteArray} {p q : Option Addr} {n m c d : Nat} : ∀ x ∈ Lx.strs l, x ≠ .slice p n c ∧ x ≠ .slice q m d := by
  intro x hx
  obtain ⟨z, _, rfl⟩ := List.mem_map.1 hx
  exact ⟨nofun, nofun⟩
theorem Mods.grown {S : Nat → Prop} {a b c : World} {row : Option Nat} (h : Mods S a b) (hg : b.grownBy c row) (hr : ∀ k, row = some k → a.heap.size ≤ k) : Mods S a c :=
  ⟨hg.os.trans h.os, hg.tape.trans h.tape, hg.output.trans h.output, Nat.le_trans h.size hg.size, fun k hk hs => (hg.block k (Nat.lt_of_lt_of_le hk h.size) (fun e => by have := hr k e.symm; omega)).trans (h.block k hk hs)⟩
/-- A trace that is being filled (block g): its names, the row of its events, which is of the call's own. -/
def CpSt (wL : World) (g : Nat) (vn v : Value) (es : Es) (wr : World) : Prop := wr.heap[g]? = some (.cells #[vn, v] 34 (0, 0)) ∧ EvOwn wr wL.heap.size v es ∧ Mods (· = g) wL wr
theorem CpSt.nw {wL w w' : World} {g : Nat} {vn v : Value} {es : Es} (h : CpSt wL g vn v es w) (hn : Nw w w') : CpSt wL g vn v es w' := ⟨hn.heap h.1, h.2.1.nw hn, h.2.2.nw hn⟩
theorem EvOwn.shape {w : World} {B n : Nat} {v : Value} {es : Es} (h : EvOwn w B v es) (hn : es.length = n) : ∃ q c, v = .slice q n c := by
  subst hn
  obtain ⟨p, cap, e, _⟩ := h.evs
  exact ⟨p, cap, e⟩
theorem CpSt.step {wL wz wR w2 : World} {g n : Nat} {p : Option Addr} {m c : Nat} {v v2 u : Value} {es : Es} {vs : List Value} {t : Int} {l : List Int} (hz : CpSt wL g (.slice p m c) v es wz) (hR : Nw wz wR) (hg : g < wL.heap.size) (hl : es.length = n)
    (h1 : vs.length = es.length) (hrow : wz.ownsRow wL.heap.size 38 2 v es.length (evc es vs)) (h3 : ∀ i, i < es.length → Sl wz (vs.getD i undef) (i64s (ids es i)) ∧ (ids es i ≠ [] → ∀ k, (vs.getD i undef).ownBlock = some k → v.ownBlock ≠ some k))
    (hu : CloneS wz.heap.size l wR u) (ho : w2.ownsRow wL.heap.size 38 2 v2 (es.length + 1) (evc es vs ++ [.int .u64 t, u])) (hgr : wR.grownBy w2 v.ownBlock) (hat : v2.ownBlock = v.ownBlock ∨ v2.ownBlock = some wR.heap.size) :
    (∃ q d, v2 = .slice q (n + 1) d) ∧ w2.heap[g]? = some (.cells #[.slice p m c, v] 34 (0, 0)) ∧ CpSt wL g (.slice p m c) v2 (es ++ [(t, l)]) (w2.setCell ⟨g, 1, none⟩ v2) := by
  have hev := EvOwn.add h1 (fun i hi => ⟨(h3 i hi).1.nw hR, (h3 i hi).2⟩) (Own.sl hu) (fun _ => own_apart hrow hu) ho hgr hat
  obtain ⟨q0, c0, rfl⟩ := hz.2.1.shape hl
  have hrow2 : ∀ k, (Value.slice q0 n c0).ownBlock = some k → wL.heap.size ≤ k := fun k hk => (World.ownsRow.lt hrow k hk).1
  have hy : w2.heap[g]? = some (.cells #[.slice p m c, .slice q0 n c0] 34 (0, 0)) := by
    have h5 := hR.heap hz.1
    rw [hgr.block g (lt_of_heap h5) (fun e => by have := hrow2 g e.symm; omega)]
    exact h5
  refine ⟨hev.shape (by simp [hl]), hy, heap_set hy 1 v2, hev.set hg hy nofun nofun, ?_⟩
  exact Mods.setCell (Mods.grown (hz.2.2.nw hR) hgr hrow2) (p := ⟨g, 1, none⟩) rfl v2
structure Small (t : T) : Prop where
  n : t.names.length ≤ 1000000000
  e : t.evs.length ≤ 1000000000
  i : ∀ i, i < t.evs.length → (ids t.evs i).length ≤ 1000000000
  s : ∀ s ∈ t.names, s.size ≤ 1000000000
theorem strs_shape {w : World} {B : Nat} {v : Value} {l : List ByteArray} (h : Own w B 9 v (Lx.strs l)) : ∃ p c, v = .slice p l.length c := by
  obtain ⟨p, c, e, _⟩ := strs_open h.sl
  exact ⟨p, c, e⟩
theorem lt_alloc (w : World) (o : Obj) : w.heap.size < (w.alloc o).heap.size := by
  show w.heap.size < (w.heap.push _).size
  rw [Array.size_push]; omega
/-- Two new blocks of two cells each. -/
theorem boxes (w : World) (a b c d : Value) (e f : TypeId) : ((w.alloc (.cells #[a, b] e)).alloc (.cells #[c, d] f)).cell? ⟨w.heap.size, 0, none⟩ = some a ∧ ((w.alloc (.cells #[a, b] e)).alloc (.cells #[c, d] f)).cell? ⟨w.heap.size, 1, none⟩ = some b ∧
    ((w.alloc (.cells #[a, b] e)).alloc (.cells #[c, d] f)).heap[w.heap.size + 1]? = some (.cells #[c, d] f (0, 0)) ∧ Nw w ((w.alloc (.cells #[a, b] e)).alloc (.cells #[c, d] f)) ∧ ((w.alloc (.cells #[a, b] e)).alloc (.cells #[c, d] f)).heap.size = w.heap.size + 2 := by
  have hs : (w.alloc (.cells #[a, b] e)).heap.size = w.heap.size + 1 := by
    show (w.heap.push _).size = _
    rw [Array.size_push]
  have hn := (Nw.refl (w.alloc (.cells #[a, b] e))).alloc (.cells #[c, d] f)
  refine ⟨hn.cell (box2 w a b e).1, hn.cell (box2 w a b e).2, ?_, ((Nw.refl w).alloc _).alloc _, by show ((w.heap.push _).push _).size = _; rw [Array.size_push, Array.size_push]⟩
  rw [← hs]
  exact heap_new _ _
end Tr
end Go.Proofs.Ytdihoedehmfgfaa
