/- Words and small laws that all texts of this seat use: what a slice of bytes reads as, worlds that only grow, and the last step from a walk to a law's statement. No condition. -/
import Derived.Test.YtdihoedehmfgfaaRows
import Derived.WalkKit
import Derived.ProofKit
import Derived.OpenShut
import Derived.JoinedCond
import Derived.Carry
import Derived.Laws.AppendOwnNone
import Derived.Outline
import Derived.Lib.SlBytesConst
import Derived.Deep.DeepMust
import Derived.Deep.DeepFit
import Derived.Deep.DeepCutAuto
import Derived.Deep.CutBlock
import Derived.Deep.QuietTactic
import Derived.BigQuiet
import Derived.Deep.RegionHeld3
import Derived.Deep.LoopGhost
import Derived.WalkLawsBesides
import Derived.WalkSpells
import Derived.Deep.RegionWith
import Derived.Deep.SlicePairs
set_option linter.unusedSimpArgs false
set_option linter.unusedVariables false
namespace Go.Proofs.Ytdihoedehmfgfaa
open Go.ChangeShapes Go.WideShapes Go.ChangeAt Go.RowKit
open Go.ChangeMaps (open_string shut_string)

/-- The number in a value. -/
def intIn : Value → Int | .int _ n => n | _ => 0
theorem hid {p : Prop} (h : p) : Hid p := h

/-! ### Worlds that only grow -/
/-- Nothing that was there has turned; there may be new blocks. -/
def Nw (w w' : World) : Prop := Below w.heap.size w w'
@[simp] theorem Nw.refl (w : World) : Nw w w := Below.refl _ _
theorem Nw.trans {a b c : World} (h : Nw a b) (k : Nw b c) : Nw a c := Below.trans h (Below.mono k h.size)
theorem Nw.drew {a b : World} (h : Nw a b) : Nw a b.drew := Below.drew h
@[simp] theorem Nw.drew_iff {a b : World} : Nw a b.drew ↔ Nw a b := ⟨fun h => ⟨h.os, h.tape, h.output, h.size, h.block⟩, fun h => h.drew⟩
@[simp] theorem Nw.of_drew {a b : World} : Nw a.drew b ↔ Nw a b := ⟨fun h => ⟨h.os, h.tape, h.output, h.size, h.block⟩, fun h => ⟨h.os, h.tape, h.output, h.size, h.block⟩⟩
theorem Nw.alloc {a b : World} (h : Nw a b) (o : Obj) : Nw a (b.alloc o) := Below.alloc h h.size o
theorem Nw.grown {a b c : World} (h : Nw a b) {row : Option Nat} (hg : b.grownBy c row) (hr : ∀ k, row = some k → a.heap.size ≤ k) : Nw a c := Below.grown h hg h.size hr
theorem Nw.setCell {a b : World} (h : Nw a b) {p : Addr} (hp : a.heap.size ≤ p.block) (u : Value) : Nw a (b.setCell p u) := Below.setCell h hp u
theorem Nw.drewN (w : World) (n : Nat) : Nw w (w.drewN n) := ⟨rfl, rfl, rfl, Nat.le_refl _, fun _ _ => rfl⟩
theorem Nw.drewN2 {a b : World} (h : Nw a b) (n : Nat) : Nw a (b.drewN n) := h.trans (Nw.drewN b n)
theorem Nw.size {a b : World} (h : Nw a b) : a.heap.size ≤ b.heap.size := Below.size h
theorem Nw.cell {w w' : World} (h : Nw w w') {a : Addr} {v : Value} (hc : w.cell? a = some v) : w'.cell? a = some v := by
  rw [Below.cell h (World.block_lt_of_cell? w a hc)]; exact hc
theorem Nw.ownsRow {w w' : World} (h : Nw w w') {B : Nat} {e : TypeId} {size : Nat} {v : Value} {n : Nat} {xs : List Value} (ho : w.ownsRow B e size v n xs) : w'.ownsRow B e size v n xs := by
  obtain ⟨h1, h2⟩ := ho
  refine ⟨h1, ?_⟩
  rcases h2 with h2 | ⟨g, cap, cur, hv, hg, hh, r⟩
  · exact Or.inl h2
  · refine Or.inr ⟨g, cap, cur, hv, hg, ?_, r⟩
    rw [h.block g (by by_cases hlt : g < w.heap.size; exact hlt; rw [Array.getElem?_eq_none (by omega)] at hh; cases hh)]; exact hh

/-- What a walk wants of a world that grew: old cells and marks read as they did, old blocks are there. -/
theorem nwc {W w1 : World} (h : Nw W w1) : (∀ b o, b < W.heap.size → w1.cell? ⟨b, o, none⟩ = W.cell? ⟨b, o, none⟩) ∧ (∀ b o, b < W.heap.size → w1.frozen? ⟨b, o, none⟩ = W.frozen? ⟨b, o, none⟩) ∧ (∀ b, b < W.heap.size → b < w1.heap.size) :=
  ⟨fun b o hb => Below.cell (p := ⟨b, o, none⟩) h hb, fun b o hb => Below.frozen (p := ⟨b, o, none⟩) h hb, fun b hb => Nat.lt_of_lt_of_le hb h.size⟩
/-- A call hands back v, and only makes new blocks. -/
def Gives (v : Value) (w : World) (e : Ending) (w' : World) : Prop := e = .returned v ∧ Nw w w'
theorem Gives.b {a b : Bool} {w w' : World} (h : a = b) (hn : Nw w w') : Gives (.bool b) w (.returned (.bool a)) w' := ⟨by rw [h], hn⟩
theorem Gives.i {k : IntKind} {a b : Int} {w w' : World} (h : a = b) (hn : Nw w w') : Gives (.int k b) w (.returned (.int k a)) w' := ⟨by rw [h], hn⟩
theorem Gives.is {v : Value} {w w' : World} (hn : Nw w w') : Gives v w (.returned v) w' := ⟨rfl, hn⟩

/-! ### Worlds in which some blocks were written -/
/-- Of what was there only the blocks in S may have turned. -/
structure Mods (S : Nat → Prop) (w w' : World) : Prop where
  os : w'.os = w.os
  tape : w'.tape = w.tape
  output : w'.output = w.output
  size : w.heap.size ≤ w'.heap.size
  block : ∀ k, k < w.heap.size → ¬ S k → w'.heap[k]? = w.heap[k]?
theorem Nw.mods {w w' : World} (h : Nw w w') (S : Nat → Prop) : Mods S w w' := ⟨h.os, h.tape, h.output, h.size, fun k hk _ => h.block k hk⟩
theorem Mods.refl (S : Nat → Prop) (w : World) : Mods S w w := (Nw.refl w).mods S
theorem Mods.trans {S : Nat → Prop} {a b c : World} (h : Mods S a b) (k : Mods S b c) : Mods S a c :=
  ⟨k.os.trans h.os, k.tape.trans h.tape, k.output.trans h.output, Nat.le_trans h.size k.size, fun i hi hs => (k.block i (Nat.lt_of_lt_of_le hi h.size) hs).trans (h.block i hi hs)⟩
theorem Mods.mono {S T : Nat → Prop} {w w' : World} (h : Mods S w w') (hs : ∀ k, S k → T k) : Mods T w w' := ⟨h.os, h.tape, h.output, h.size, fun k hk hn => h.block k hk (fun hk => hn (hs k hk))⟩
/-- What was written is younger than the beginning. -/
theorem Nw.ofMods {a b c : World} (h : Nw a b) {S : Nat → Prop} (k : Mods S b c) (hs : ∀ k, S k → a.heap.size ≤ k) : Nw a c :=
  ⟨k.os.trans h.os, k.tape.trans h.tape, k.output.trans h.output, Nat.le_trans h.size k.size, fun i hi => (k.block i (Nat.lt_of_lt_of_le hi h.size) (fun hk => by have := hs i hk; omega)).trans (h.block i hi)⟩
theorem Mods.setCell {S : Nat → Prop} {a b : World} (h : Mods S a b) {p : Addr} (hp : S p.block) (u : Value) : Mods S a (b.setCell p u) :=
  h.trans ⟨rfl, rfl, rfl, by simp [World.setCell], fun k _ hs => Below.heap_setCell _ _ _ _ (fun e => hs (e ▸ hp))⟩
theorem Mods.drew {S : Nat → Prop} {a b : World} (h : Mods S a b) : Mods S a b.drew := ⟨h.os, h.tape, h.output, h.size, h.block⟩
theorem Mods.nw {S : Nat → Prop} {a b c : World} (h : Mods S a b) (k : Nw b c) : Mods S a c := h.trans (k.mods S)
theorem lt_of_heap {w : World} {k : Nat} {o : Obj} (h : w.heap[k]? = some o) : k < w.heap.size := (Array.getElem?_eq_some_iff.1 h).1
theorem Nw.heap {w w' : World} (h : Nw w w') {k : Nat} {o : Obj} (hk : w.heap[k]? = some o) : w'.heap[k]? = some o := (h.block k (lt_of_heap hk)).trans hk
theorem Mods.heap {S : Nat → Prop} {w w' : World} (h : Mods S w w') {k : Nat} {o : Obj} (hk : w.heap[k]? = some o) (hs : ¬ S k) : w'.heap[k]? = some o := (h.block k (lt_of_heap hk) hs).trans hk
theorem heap_cell {w : World} {b : Nat} {cs : Array Value} {e : TypeId} {fr : Nat × Nat} (h : w.heap[b]? = some (.cells cs e fr)) (i : Nat) : w.cell? ⟨b, i, none⟩ = cs[i]? := by simp [World.cell?, h]
theorem heap_frozen {w : World} {b : Nat} {cs : Array Value} {e : TypeId} (h : w.heap[b]? = some (.cells cs e (0, 0))) (i : Nat) : w.frozen? ⟨b, i, none⟩ = false := by simp [World.frozen?, h]
theorem heap_set {w : World} {b : Nat} {cs : Array Value} {e : TypeId} {fr : Nat × Nat} (h : w.heap[b]? = some (.cells cs e fr)) (i : Nat) (u : Value) : (w.setCell ⟨b, i, none⟩ u).heap[b]? = some (.cells (cs.setIfInBounds i u) e fr) := by
  simp only [World.setCell, Array.getElem?_modify, if_true, h, Option.map_some]
  rfl
theorem heap_new (w : World) (o : Obj) : (w.alloc o).heap[w.heap.size]? = some o := by
  show (w.heap.push o)[w.heap.size]? = _
  simp

/-! ### What a slice reads as -/
theorem addr_add (b o i : Nat) : (⟨b, o, none⟩ : Addr).add i = ⟨b, o + i, none⟩ := by unfold Addr.add; split <;> simp_all

/-- From the place p on the cells read as the list vs. -/
def Cells (w : World) (p : Option Addr) (vs : List Value) : Prop :=
  ∀ i, (h : i < vs.length) → ∃ b off, p = some ⟨b, off, none⟩ ∧ w.cell? ⟨b, off + i, none⟩ = some vs[i]
theorem Cells.nw {w w' : World} {p : Option Addr} {vs : List Value} (h : Cells w p vs) (hn : Nw w w') : Cells w' p vs := fun i hi => by
  obtain ⟨b, off, e, hc⟩ := h i hi
  exact ⟨b, off, e, hn.cell hc⟩
theorem Cells.nil (w : World) (p : Option Addr) : Cells w p [] := fun i h => by cases h
/-- A slice of one-cell elements that reads as vs. -/
def Sl (w : World) (v : Value) (vs : List Value) : Prop := ∃ p cap, v = .slice p vs.length cap ∧ vs.length ≤ cap ∧ cap ≤ maxLen ∧ (p = none → cap = 0) ∧ Cells w p vs
theorem Sl.nw {w w' : World} {v : Value} {vs : List Value} (h : Sl w v vs) (hn : Nw w w') : Sl w' v vs := by
  obtain ⟨p, cap, e, h1, h2, h3, h4⟩ := h
  exact ⟨p, cap, e, h1, h2, h3, h4.nw hn⟩
/-- It reads so as long as its own block stays. -/
theorem Sl.keep {w w' : World} {v : Value} {vs : List Value} (h : Sl w v vs) (hk : vs ≠ [] → ∀ k, v.ownBlock = some k → w'.heap[k]? = w.heap[k]?) : Sl w' v vs := by
  obtain ⟨p, cap, e, h1, h2, h3, h4⟩ := h
  refine ⟨p, cap, e, h1, h2, h3, fun i hi => ?_⟩
  obtain ⟨b, off, e1, hc⟩ := h4 i hi
  refine ⟨b, off, e1, ?_⟩
  subst e1
  rw [← hc]
  exact World.cell?_of_block (w := w) (hk (by intro h0; subst h0; cases hi) b (by rw [e]; rfl))
/-- Where it has an element its block is there. -/
theorem Sl.lt {w : World} {v : Value} {vs : List Value} (h : Sl w v vs) (hne : vs ≠ []) : ∀ k, v.ownBlock = some k → k < w.heap.size := by
  obtain ⟨p, cap, rfl, h1, h2, h3, h4⟩ := h
  intro k hk
  obtain ⟨b, off, e1, hc⟩ := h4 0 (by cases vs with | nil => exact absurd rfl hne | cons x r => simp)
  subst e1
  simp only [Value.ownBlock, Option.some.injEq] at hk
  subst hk
  exact World.block_lt_of_cell? w _ hc
theorem Sl.mods {S : Nat → Prop} {w w' : World} {v : Value} {vs : List Value} (h : Sl w v vs) (hm : Mods S w w') (hs : vs ≠ [] → ∀ k, v.ownBlock = some k → ¬ S k) : Sl w' v vs :=
  h.keep fun hne k hk => hm.block k (h.lt hne k hk) (hs hne k hk)
theorem Sl.nil (w : World) : Sl w (.slice none 0 0) [] := ⟨none, 0, rfl, Nat.le_refl _, Nat.zero_le _, fun _ => rfl, Cells.nil _ _⟩

theorem Sl.open {w : World} {v : Value} {vs : List Value} {n : Nat} (h : Sl w v vs) (hn : vs.length = n) : ∃ p cap, v = .slice p n cap ∧ n ≤ cap ∧ cap ≤ maxLen ∧ (p = none → cap = 0) ∧ Cells w p vs := by
  subst hn
  exact h
def i64s (zs : List Int) : List Value := zs.map (.int .i64)
theorem i64s_length (zs : List Int) : (i64s zs).length = zs.length := by simp [i64s]
def u8s (bs : List UInt8) : List Value := bs.map fun x => .int .u8 x.toNat
theorem u8s_length (bs : List UInt8) : (u8s bs).length = bs.length := by simp [u8s]
theorem u8s_append (a b : List UInt8) : u8s a ++ u8s b = u8s (a ++ b) := by simp [u8s]
theorem u8s_cell {w : World} {p : Option Addr} {bs : List UInt8} (h : Cells w p (u8s bs)) (i : Nat) (hi : i < bs.length) :
    ∃ b off, ∃ x : UInt8, p = some ⟨b, off, none⟩ ∧ w.cell? ⟨b, off + i, none⟩ = some (.int .u8 (x.toNat : Int)) ∧ Hid (bs[i]? = some x) ∧ (x.toNat : Int) < 256 := by
  obtain ⟨b, off, e, h⟩ := h i (by simpa [u8s] using hi)
  refine ⟨b, off, bs[i], e, ?_, hid (by simp [hi]), by have := bs[i].toNat_lt; omega⟩
  rw [h]; simp [u8s]
/-- A slice of bytes. -/
def Bytes (w : World) (v : Value) (bs : List UInt8) : Prop := Sl w v (u8s bs)
theorem Bytes.nw {w w' : World} {v : Value} {bs : List UInt8} (h : Bytes w v bs) (hn : Nw w w') : Bytes w' v bs := Sl.nw h hn
theorem Bytes.nil (w : World) : Bytes w (.slice none 0 0) [] := Sl.nil w
theorem Bytes.open {w : World} {v : Value} {bs : List UInt8} (h : Bytes w v bs) : ∃ p cap, v = .slice p bs.length cap ∧ bs.length ≤ cap ∧ cap ≤ maxLen ∧ (p = none → cap = 0) ∧ Cells w p (u8s bs) := by
  obtain ⟨p, cap, e, h1, h2, h3, h4⟩ := h
  rw [u8s_length] at e h1
  exact ⟨p, cap, e, h1, h2, h3, h4⟩

theorem Cells.take {w : World} {p : Option Addr} {vs : List Value} (h : Cells w p vs) (n : Nat) : Cells w p (vs.take n) := fun i hi => by
  have hi' : i < n ∧ i < vs.length := by simp at hi; omega
  obtain ⟨b, off, e, hc⟩ := h i hi'.2
  exact ⟨b, off, e, by rw [hc]; simp⟩
theorem Cells.drop {w : World} {b off : Nat} {vs : List Value} (h : Cells w (some ⟨b, off, none⟩) vs) (n : Nat) : Cells w (some ⟨b, off + n, none⟩) (vs.drop n) := fun i hi => by
  have hi' : n + i < vs.length := by simp at hi; omega
  obtain ⟨b', off', e, hc⟩ := h (n + i) hi'
  cases e
  exact ⟨b, off + n, rfl, by rw [Nat.add_assoc, hc]; simp⟩
/-- Where there is an element there is a place. -/
theorem Cells.place {w : World} {p : Option Addr} {vs : List Value} (h : Cells w p vs) (hl : 0 < vs.length) : ∃ b off, p = some ⟨b, off, none⟩ := by
  obtain ⟨b, off, e, _⟩ := h 0 hl
  exact ⟨b, off, e⟩
theorem Bytes.mk {w : World} {p : Option Addr} {n cap : Nat} {bs : List UInt8} (h : Cells w p (u8s bs)) (hn : n = bs.length) (hc : bs.length ≤ cap) (hm : cap ≤ maxLen) (h0 : p = none → cap = 0) : Bytes w (.slice p n cap) bs := by
  subst hn
  exact ⟨p, cap, by rw [u8s_length], by rw [u8s_length]; exact hc, hm, h0, h⟩
theorem u8s_set (bs : List UInt8) (i : Nat) (x : UInt8) : u8s (bs.set i x) = (u8s bs).set i (.int .u8 x.toNat) := by simp [u8s, List.map_set]
theorem u8s_get (bs : List UInt8) (i : Nat) (x : UInt8) (h : bs[i]? = some x) : (u8s bs)[i]? = some (.int .u8 (x.toNat : Int)) := by simp [u8s, h]
theorem u8s_take (bs : List UInt8) (n : Nat) : u8s (bs.take n) = (u8s bs).take n := by simp [u8s]
theorem u8s_drop (bs : List UInt8) (n : Nat) : u8s (bs.drop n) = (u8s bs).drop n := by simp [u8s]

/-- A row that is owned reads as it was filled. -/
theorem Sl.own {w : World} {B : Nat} {e : TypeId} {v : Value} {n : Nat} {xs : List Value} (h : w.ownsRow B e 1 v n xs) : Sl w v xs := by
  have hl := h.1
  rcases h.2 with ⟨rfl, rfl⟩ | ⟨g, cap, cur, rfl, hb, hg, hn, hm, hs, ht⟩
  · obtain rfl : xs = [] := by simpa using hl
    exact Sl.nil w
  · have hl' : xs.length = n := by omega
    refine ⟨some ⟨g, 0, none⟩, cap, by rw [hl'], by omega, hm, (fun h => by cases h), fun i hi => ⟨g, 0, rfl, ?_⟩⟩
    have := h.cells (g := g) rfl i xs[i] (by simp [hi])
    have hadd : (⟨g, 0, none⟩ : Addr).add i = ⟨g, 0 + i, none⟩ := by unfold Addr.add; split <;> simp_all
    rw [hadd] at this; exact this

theorem cell_new (w : World) (cs : Array Value) (e : TypeId) (fr : Nat × Nat) (i : Nat) (h : i < cs.size) : (w.alloc (.cells cs e fr)).cell? ⟨w.heap.size, 0 + i, none⟩ = some cs[i] := by
  have hb : (w.alloc (.cells cs e fr)).heap[w.heap.size]? = some (.cells cs e fr) := by
    show (w.heap.push _)[w.heap.size]? = _
    simp
  unfold World.cell?
  rw [show (w.alloc (.cells cs e fr)).heap[(⟨w.heap.size, 0 + i, none⟩ : Addr).block]? = some (.cells cs e fr) from hb]
  simp [h]
/-- A new block of cells, as a slice. -/
theorem Sl.new (w : World) (vs : List Value) (e : TypeId) (fr : Nat × Nat) (h : vs.length ≤ maxLen) : Sl (w.alloc (.cells vs.toArray e fr)) (.slice (some ⟨w.heap.size, 0, none⟩) vs.length vs.length) vs :=
  ⟨_, _, rfl, Nat.le_refl _, h, (fun h => by cases h), fun i hi => ⟨w.heap.size, 0, rfl, by rw [cell_new w vs.toArray e fr i (by simpa using hi)]; simp⟩⟩
theorem Bytes.new (w : World) (bs : List UInt8) (e : TypeId) (fr : Nat × Nat) (h : bs.length ≤ maxLen) : Bytes (w.alloc (.cells (u8s bs).toArray e fr)) (.slice (some ⟨w.heap.size, 0, none⟩) bs.length bs.length) bs := by
  have := Sl.new w (u8s bs) e fr (by rw [u8s_length]; exact h)
  rw [u8s_length] at this; exact this

/-- The same, the block's number spelt otherwise. -/
theorem Sl.newAt (w : World) (vs : List Value) (e : TypeId) (fr : Nat × Nat) (g n : Nat) (hg : g = w.heap.size) (hn : n = vs.length) (h : vs.length ≤ maxLen) : Sl (w.alloc (.cells vs.toArray e fr)) (.slice (some ⟨g, 0, none⟩) n n) vs := by
  subst hg hn; exact Sl.new w vs e fr h
theorem Bytes.newAt (w : World) (bs : List UInt8) (e : TypeId) (fr : Nat × Nat) (g n : Nat) (hg : g = w.heap.size) (hn : n = bs.length) (h : bs.length ≤ maxLen) : Bytes (w.alloc (.cells (u8s bs).toArray e fr)) (.slice (some ⟨g, 0, none⟩) n n) bs := by
  subst hg hn; exact Bytes.new w bs e fr h
/-! ### Slices whose elements are two cells each -/
def Cells2 (w : World) (p : Option Addr) (vs : List (Value × Value)) : Prop :=
  ∀ i, (h : i < vs.length) → ∃ b off, p = some ⟨b, off, none⟩ ∧ w.cell? ⟨b, off + i * 2, none⟩ = some vs[i].1 ∧ w.cell? ⟨b, off + i * 2 + 1, none⟩ = some vs[i].2
theorem Cells2.nw {w w' : World} {p : Option Addr} {vs : List (Value × Value)} (h : Cells2 w p vs) (hn : Nw w w') : Cells2 w' p vs := fun i hi => by
  obtain ⟨b, off, e, h1, h2⟩ := h i hi
  exact ⟨b, off, e, hn.cell h1, hn.cell h2⟩
def Sl2 (w : World) (v : Value) (vs : List (Value × Value)) : Prop := ∃ p cap, v = .slice p vs.length cap ∧ vs.length ≤ cap ∧ cap ≤ maxLen ∧ (p = none → cap = 0) ∧ Cells2 w p vs
theorem Sl2.nw {w w' : World} {v : Value} {vs : List (Value × Value)} (h : Sl2 w v vs) (hn : Nw w w') : Sl2 w' v vs := by
  obtain ⟨p, cap, e, h1, h2, h3, h4⟩ := h
  exact ⟨p, cap, e, h1, h2, h3, h4.nw hn⟩
theorem Sl2.open {w : World} {v : Value} {vs : List (Value × Value)} {n : Nat} (h : Sl2 w v vs) (hn : vs.length = n) : ∃ p cap, v = .slice p n cap ∧ n ≤ cap ∧ cap ≤ maxLen ∧ (p = none → cap = 0) ∧ Cells2 w p vs := by
  subst hn
  exact h
/-! ### Rows of the call's own -/
/-- A slice that the call may write: its block begins at B or later, and it holds xs. -/
def Own (w : World) (B : Nat) (e : TypeId) (v : Value) (xs : List Value) : Prop := w.ownsRow B e 1 v xs.length xs
theorem Own.sl {w : World} {B : Nat} {e : TypeId} {v : Value} {xs : List Value} (h : Own w B e v xs) : Sl w v xs := Sl.own h
theorem Own.nw {w w' : World} {B : Nat} {e : TypeId} {v : Value} {xs : List Value} (h : Own w B e v xs) (hn : Nw w w') : Own w' B e v xs := hn.ownsRow h
theorem Own.nil (w : World) (B : Nat) (e : TypeId) : Own w B e (.slice none 0 0) [] := World.ownsRow_nil w B e 1
theorem Own.new (w : World) (B : Nat) (e : TypeId) (vs : List Value) (hb : B ≤ w.heap.size) (h : vs.length ≤ maxLen) : Own (w.alloc (.cells vs.toArray e)) B e (.slice (some ⟨w.heap.size, 0, none⟩) vs.length vs.length) vs := by
  have := World.ownsRow_lit (e := e) (size := 1) w vs.toArray vs.length hb h (by simp)
  simpa [Own] using this
theorem Own.newAt (w : World) (B : Nat) (e : TypeId) (vs : List Value) (g n : Nat) (hg : g = w.heap.size) (hn : n = vs.length) (hb : B ≤ w.heap.size) (h : vs.length ≤ maxLen) : Own (w.alloc (.cells vs.toArray e)) B e (.slice (some ⟨g, 0, none⟩) n n) vs := by
  subst hg hn; exact Own.new w B e vs hb h
theorem Own.lt {w : World} {B : Nat} {e : TypeId} {v : Value} {xs : List Value} (h : Own w B e v xs) : ∀ k, v.ownBlock = some k → B ≤ k := fun k hk => (World.ownsRow.lt h k hk).1
theorem Own.mono {w : World} {B B' : Nat} {e : TypeId} {v : Value} {xs : List Value} (h : Own w B e v xs) (hb : B' ≤ B) : Own w B' e v xs := by
  obtain ⟨h1, h2⟩ := h
  rcases h2 with h2 | ⟨g, cap, cur, hv, hg, hh, r⟩
  · exact ⟨h1, Or.inl h2⟩
  · exact ⟨h1, Or.inr ⟨g, cap, cur, hv, by omega, hh, r⟩⟩
theorem Own.opened {w : World} {B : Nat} {e : TypeId} {v : Value} {xs : List Value} (h : Own w B e v xs) (hne : 0 < xs.length) :
    ∃ g cap, v = .slice (some ⟨g, 0, none⟩) xs.length cap ∧ B ≤ g ∧ xs.length ≤ cap ∧ cap ≤ maxLen := by
  rcases h.2 with ⟨_, h2⟩ | ⟨g, cap, cur, hv, hg, _, hn, hm, _⟩
  · omega
  · exact ⟨g, cap, hv, hg, hn, hm⟩
theorem Own.cell {w : World} {B g n cap : Nat} {e : TypeId} {xs : List Value} (h : Own w B e (.slice (some ⟨g, 0, none⟩) n cap) xs) (hn : n = xs.length) (j : Nat) (hj : j < xs.length) : w.cell? ⟨g, j, none⟩ = xs[j]? := by
  subst hn
  exact World.ownsRow.cellAt h j (by omega)
theorem Own.frozen {w : World} {B g n cap : Nat} {e : TypeId} {xs : List Value} (h : Own w B e (.slice (some ⟨g, 0, none⟩) n cap) xs) (hn : n = xs.length) (j : Nat) : w.frozen? ⟨g, j, none⟩ = false := by
  subst hn
  exact World.ownsRow.frozenAt h j
theorem Own.set {w : World} {B g n cap : Nat} {e : TypeId} {xs : List Value} (h : Own w B e (.slice (some ⟨g, 0, none⟩) n cap) xs) (hn : n = xs.length) (j : Nat) (u : Value) : Own (w.setCell ⟨g, j, none⟩ u) B e (.slice (some ⟨g, 0, none⟩) n cap) (xs.set j u) := by
  subst hn
  have := (World.ownsRow.stored h j u).1
  unfold Own
  rw [List.length_set]
  exact this
theorem Own.mods {S : Nat → Prop} {w w' : World} {B : Nat} {e : TypeId} {v : Value} {xs : List Value} (h : Own w B e v xs) (hm : Mods S w w') (hs : ∀ k, B ≤ k → ¬ S k) : Own w' B e v xs := by
  obtain ⟨h1, h2⟩ := h
  refine ⟨h1, ?_⟩
  rcases h2 with h2 | ⟨g, cap, cur, hv, hg, hh, r⟩
  · exact Or.inl h2
  · exact Or.inr ⟨g, cap, cur, hv, hg, hm.heap hh (hs g hg), r⟩
theorem oneCell_map {α : Type} (f : α → Value) (h : ∀ x, (f x).oneCell' = true) (l : List α) : ∀ u ∈ l.map f, u.oneCell' = true := by
  intro u hu
  obtain ⟨x, _, rfl⟩ := List.mem_map.1 hu
  exact h x
theorem u8s_one (bs : List UInt8) : ∀ u ∈ u8s bs, u.oneCell' = true := oneCell_map _ (fun _ => rfl) bs

section
variable {P : Program} {w : World} {ops : Array Oper} {rest : List Oper} {o : Oper} {a : Act} {Q : Exit → Act → World → Prop}
/-- 's = append(s, x...)', s of the call's own, x any slice that reads. -/
theorem app1 (hgd : o.guard = none) (s x : Operand) (t : TypeId) (ho : o.op = .call { callee := .builtin .append, args := #[s, x], argTypes := #[t, t] })
    (e : TypeId) (z : Value) (bytes : Nat) (ht : P.underlying t = some (.slice e)) (hinfo : (P.info? e).map (fun i => (i.zero, i.size, i.bytes)) = some (some z, 1, bytes)) (hz : z.cells.size = 1) (hby : bytes ≤ 128)
    {w0 : World} (hn : Nw w0 w) {v : Value} {xs : List Value} (hown : Own w w0.heap.size e v xs) (hs : a.eval s = v) {u : Value} {news : List Value} (hu : Sl w u news) (hx : a.eval x = u) (h1 : ∀ u ∈ news, u.oneCell' = true)
    (h : ∀ v' w', Own w' w0.heap.size e v' (xs ++ news) → w.grownBy w' v.ownBlock → Nw w0 w' → wpList P ops Q rest (a.put o.dst v') w')
    (h63 : xs.length + news.length ≤ 1099511627776) : wpList P ops Q (o :: rest) a w := by
  obtain ⟨i, hi, hz0, hz1, hz2⟩ := info_parts hinfo
  obtain ⟨p, cap, rfl, hcap, hmx, hnone, hc⟩ := hu
  cases p with
  | none =>
    obtain rfl := hnone rfl
    obtain rfl : news = [] := by cases news with | nil => rfl | cons y r => simp at hcap
    refine wpList_append_own_none hgd s x t ho w0.heap.size e i 1 ht hi v xs.length xs hs hown hx ?_
    exact h v w (by simpa using hown) (World.grownBy.refl _ _) hn
  | some ad =>
    refine wpList_append_own (w := w) hgd s x t ho w0.heap.size e i z 1 bytes ht hi hz0 hz1 hz2 hz (by decide) v xs.length xs hs hown ad news.length cap news hx (by simp) (fun j y hj => ?_) h1 (by unfold maxLen; omega) ?_ hn.size (fun v' w' h2 h3 _ => ?_)
    · obtain ⟨hjl, rfl⟩ := List.getElem?_eq_some_iff.1 hj
      obtain ⟨b, off, e1, hcell⟩ := hc j hjl
      cases e1
      rw [addr_add]; exact hcell
    · have := Nat.mul_le_mul h63 hby; omega
    · exact h v' w' (by simpa [Own] using h2) h3 (hn.grown h3 (fun k hk => Own.lt hown k hk))
/-- 'make([]T, 0, n)' -/
theorem mk1 (hgd : o.guard = none) (l c : Operand) (t : TypeId) (ho : o.op = Op.makeSlice t l c) (e : TypeId) (z : Value) (bytes : Nat) (ht : P.underlying t = some (.slice e))
    (hinfo : (P.info? e).map (fun i => (i.zero, i.size, i.bytes)) = some (some z, 1, bytes)) (hby : bytes ≤ 128) {w0 : World} (hn : Nw w0 w) {kl kc : IntKind} {C : Int} (n : Nat) (hl : a.eval l = .int kl 0) (hc : a.eval c = .int kc C)
    (h : ∀ v' w', Own w' w0.heap.size e v' [] → Nw w0 w' → wpList P ops Q rest (a.put o.dst v') w')
    (hC : C = (n : Int)) (hsz : n ≤ 1099511627776) : wpList P ops Q (o :: rest) a w := by
  obtain ⟨i, hi, hz0, hz1, hz2⟩ := info_parts hinfo
  exact wpList_make_own w hgd l c t ho w0.heap.size e i z 1 ht hi hz0 hz1 kl kc C n hl hc hC (by have := Nat.mul_le_mul hby hsz; rw [hz2]; omega) (by unfold maxLen; omega) hn.size
    (fun w' h1 h2 => h _ w' h1 (hn.grown h2 (fun k hk => by cases hk)))
end

/-! ### Bytes as a string -/
theorem Cells.load {P : Program} {w : World} {a : Addr} {vs : List Value} (h : Cells w (some a) vs) : (loadCells a vs.length).run P w = .ok vs.toArray w := by
  have := run_loadCells_list (P := P) w a vs (fun j v hj => by
    obtain ⟨hjl, rfl⟩ := List.getElem?_eq_some_iff.1 hj
    obtain ⟨b, off, e1, hcell⟩ := h j hjl
    cases e1
    rw [addr_add]; exact hcell)
  exact this
theorem foldl_push (l : List Int) : ∀ s : ByteArray, l.foldl (fun r n => r.push (UInt8.ofNat n.toNat)) s = ⟨s.data ++ (l.map fun n => UInt8.ofNat n.toNat).toArray⟩ := by
  induction l with
  | nil => intro s; simp
  | cons x r ih => intro s; rw [List.foldl_cons, ih]; simp [ByteArray.push]
theorem run_str {P : Program} {w : World} {v : Value} {bs : List UInt8} (h : Bytes w v bs) (src dst e : TypeId)
    (hs : P.underlying src = some (.slice e)) (he : P.underlying e = some (.int .u8)) (hd : P.underlying dst = some .string) :
    (convert src dst v).run P w = .ok (.string ⟨bs.toArray⟩) w := by
  obtain ⟨p, cap, rfl, hcap, hmx, hnone, hc⟩ := h.open
  rw [run_convert_bytes_string w src dst e p bs.length cap hs he hd]
  cases p with
  | none =>
    obtain rfl := hnone rfl
    obtain rfl : bs = [] := by cases bs with | nil => rfl | cons y r => simp at hcap
    rfl
  | some a =>
    have hl := Cells.load (P := P) hc
    rw [u8s_length] at hl
    have e1 : u8s bs = (bs.map fun x : UInt8 => (x.toNat : Int)).map (Value.int .u8) := by simp [u8s, Function.comp_def]
    rw [e1] at hl
    rw [run_bytesToString w a bs.length cap _ hl, foldl_push]
    congr 2
    simp [Function.comp_def]

/-! ### From memory as it is read at a call's beginning -/
theorem addr_add_of_cell {w : World} {a : Addr} {v : Value} (h : w.cell? (a.add 0) = some v) : a = ⟨a.block, a.off, none⟩ := by
  obtain ⟨b, o, s⟩ := a
  have : s.isSome = false := by
    simp only [Addr.add, if_true, World.cell?] at h
    split at h
    · split at h <;> simp_all
    · cases h
  cases s <;> simp_all
theorem Cells.of_add {w : World} {a : Addr} {vs : List Value} (h : ∀ i, (hi : i < vs.length) → w.cell? (a.add i) = some vs[i]) : Cells w (some a) vs := fun i hi => by
  have e := addr_add_of_cell (h 0 (by omega))
  refine ⟨a.block, a.off, by rw [← e], ?_⟩
  have := h i hi
  rw [e, addr_add] at this; exact this

section
variable {H : Type} {enc : TypeId × Value → H} {P : Program}
theorem bulk_one (x : DataW H) : 1 ≤ Rows.uptoBulk x := by
  cases x with
  | lit l => cases l <;> simp [Rows.uptoBulk]
  | nil => simp [Rows.uptoBulk]
  | ptr d => simp [Rows.uptoBulk]
  | slice elems spare => simp [Rows.uptoBulk]
  | agg parts => simp [Rows.uptoBulk]
  | iface t d => simp [Rows.uptoBulk]
  | map entries => simp [Rows.uptoBulk]
  | held h => simp [Rows.uptoBulk]
theorem bulk_len (l : List (DataW H)) : l.length ≤ Rows.uptoBulkAll l := by
  induction l with
  | nil => simp [Rows.uptoBulkAll]
  | cons x r ih => have := bulk_one x; simp only [Rows.uptoBulkAll, List.length_cons]; omega
theorem bulk_ints {k : IntKind} {zs : List Int} {sp : List (DataW H)} {d : DataW H} (h : d = .slice (lits k zs) sp ∨ d = .nil ∧ zs = []) : zs.length ≤ Rows.uptoBulk d := by
  rcases h with rfl | ⟨rfl, rfl⟩
  · have e : (lits (H := H) k zs).length = zs.length := by simp [lits]
    have := bulk_len (lits (H := H) k zs)
    simp only [Rows.uptoBulk]
    omega
  · simp
/-- A slice of integers that came in. -/
theorem open_sl {t e : TypeId} {k : IntKind} {W : World} {base : Nat} {v : Value} {d : DataW H} {p : List MemPlace} (ht : P.underlying t = some (.slice e)) (he : P.underlying e = some (.int k)) (hc : P.cellsOf e = 1)
    (hval : Value.okWide P W .any base t v) (hj : DataW.Trod enc P W 0 (fun _ => true) true t v d p) :
    ∃ zs : List Int, Sl W v (zs.map (Value.int k)) ∧ (∀ z ∈ zs, (Lit.int k z).wf = true) ∧ (∃ sp, d = .slice (lits k zs) sp ∨ d = .nil ∧ zs = []) := by
  obtain ⟨a0, len, cap, rfl⟩ := okWide_slice ht hval
  obtain ⟨fuel, hf⟩ := hj
  rcases open_ints ht he hc hf with ⟨hcs, hx⟩ | ⟨a, len', cap', zs, hcs, _, hl, hm, hz, hx, hcell, hwz⟩
  · simp [Value.cells] at hcs
    obtain ⟨rfl, rfl, rfl⟩ := hcs
    simp only [Prod.mk.injEq] at hx
    exact ⟨[], Sl.nil W, (fun z h => by cases h), [], Or.inr ⟨hx.1, rfl⟩⟩
  · simp [Value.cells] at hcs
    obtain ⟨rfl, rfl, rfl⟩ := hcs
    simp only [Prod.mk.injEq] at hx
    simp only [if_true] at hz
    have hlen : (zs.take len).length = len := by simp; omega
    refine ⟨zs.take len, ⟨some a, cap, by simp; omega, by simp; omega, hm, (fun h => by cases h), Cells.of_add fun i hi => ?_⟩, fun z h => hwz z (List.mem_of_mem_take h), lits k (zs.drop len), Or.inl hx.1⟩
    simp at hi
    rw [hcell i (by omega)]
    simp [List.getElem?_eq_getElem (show i < zs.length by omega)]

theorem open_int64s {t e : TypeId} {W : World} {base : Nat} {v : Value} {d : DataW H} {p : List MemPlace} (ht : P.underlying t = some (.slice e)) (he : P.underlying e = some (.int .i64)) (hc : P.cellsOf e = 1)
    (hval : Value.okWide P W .any base t v) (hj : DataW.Trod enc P W 0 (fun _ => true) true t v d p) :
    ∃ zs : List Int, Sl W v (i64s zs) ∧ (∀ z ∈ zs, -9223372036854775808 ≤ z ∧ z ≤ 9223372036854775807) ∧ zs.length ≤ Rows.uptoBulk d := by
  obtain ⟨zs, h1, h2, sp, h3⟩ := open_sl ht he hc hval hj
  exact ⟨zs, h1, fun z hz => bounds_i64 (h2 z hz), bulk_ints h3⟩
theorem open_bytes {t e : TypeId} {W : World} {base : Nat} {v : Value} {d : DataW H} {p : List MemPlace} (ht : P.underlying t = some (.slice e)) (he : P.underlying e = some (.int .u8)) (hc : P.cellsOf e = 1)
    (hval : Value.okWide P W .any base t v) (hj : DataW.Trod enc P W 0 (fun _ => true) true t v d p) :
    ∃ bs : List UInt8, Bytes W v bs ∧ bs.length ≤ Rows.uptoBulk d := by
  obtain ⟨zs, h1, h2, sp, h3⟩ := open_sl ht he hc hval hj
  have e : zs.map (Value.int .u8) = u8s (zs.map fun z => UInt8.ofNat z.toNat) := by
    simp only [u8s, List.map_map]
    refine List.map_congr_left fun z hz => ?_
    have := bounds_u8 (h2 z hz)
    simp only [Function.comp_apply, UInt8.toNat_ofNat']
    congr 1; omega
  refine ⟨_, by unfold Bytes; rw [← e]; exact h1, ?_⟩
  rw [List.length_map]
  exact bulk_ints h3

/-- A slice of pairs that came in: what each of its cells reads as. -/
theorem open_sl2 {t e : TypeId} {f0 f1 : Field} {W : World} {base : Nat} {v : Value} {d : DataW H} {p : List MemPlace} (ht : P.underlying t = some (.slice e)) (he : P.underlying e = some (.struct #[f0, f1]))
    (ce : P.cellsOf e = 2) (o0 : f0.offset = 0) (o1 : f1.offset = 1) (c0 : P.cellsOf f0.type = 1) (c1 : P.cellsOf f1.type = 1)
    (hval : Value.okWide P W .any base t v) (hj : DataW.Trod enc P W 0 (fun _ => true) true t v d p) :
    ∃ l : List ((Value × DataW H) × (Value × DataW H)), Sl2 W v (l.map fun x => (x.1.1, x.2.1)) ∧
      (∀ x ∈ l, (∃ n p0, DataW.trod enc P W 0 (fun _ => true) true n f0.type [x.1.1] = some (x.1.2, p0)) ∧ (∃ n p1, DataW.trod enc P W 0 (fun _ => true) true n f1.type [x.2.1] = some (x.2.2, p1))) ∧
      (∃ sp, d = .slice (l.map fun x => .agg [x.1.2, x.2.2]) sp ∨ d = .nil ∧ l = []) := by
  obtain ⟨a0, len, cap, rfl⟩ := okWide_slice ht hval
  obtain ⟨fuel, hf⟩ := hj
  rcases Deep.open_slice_pairs ht he ce o0 o1 c0 c1 hf with ⟨hcs, hx⟩ | ⟨a, len', cap', m, n, V0, V1, D0, D1, P0, P1, hcs, _, hl, hm, hmm, hx, hc⟩
  · simp [Value.cells] at hcs
    obtain ⟨rfl, rfl, rfl⟩ := hcs
    simp only [Prod.mk.injEq] at hx
    exact ⟨[], ⟨none, 0, rfl, Nat.le_refl _, Nat.zero_le _, fun _ => rfl, fun i h => by cases h⟩, (fun x h => by cases h), [], Or.inr ⟨hx.1, rfl⟩⟩
  · simp [Value.cells] at hcs
    obtain ⟨rfl, rfl, rfl⟩ := hcs
    simp only [Prod.mk.injEq] at hx
    simp only [if_true] at hmm
    subst hmm
    refine ⟨(List.range len).map fun i => ((V0 i, D0 i), (V1 i, D1 i)), ⟨some a, m, by simp, by simpa using hl, hm, (fun h => by cases h), fun i hi => ?_⟩, fun x hx => ?_, (List.range (m - len)).map fun j => .agg [D0 (len + j), D1 (len + j)], Or.inl ?_⟩
    · simp at hi
      have e0 := addr_add_of_cell (by have := (hc 0 (by omega)).1; simpa using this : W.cell? (a.add 0) = some (V0 0))
      refine ⟨a.block, a.off, by rw [← e0], ?_⟩
      have := hc i (by omega)
      rw [e0, addr_add, addr_add] at this
      refine ⟨by simpa using this.1, ?_⟩
      rw [← Nat.add_assoc] at this
      simpa using this.2.1
    · obtain ⟨i, hi, rfl⟩ := List.mem_map.1 hx
      have := hc i (by simp at hi; omega)
      exact ⟨⟨n, _, this.2.2.1⟩, ⟨n, _, this.2.2.2⟩⟩
    · rw [hx.1]; simp [Function.comp_def]
/-- A slice of pairs of ints that came in. -/
theorem open_int_pairs {t e : TypeId} {f0 f1 : Field} {W : World} {base : Nat} {v : Value} {d : DataW H} {p : List MemPlace} (ht : P.underlying t = some (.slice e)) (he : P.underlying e = some (.struct #[f0, f1]))
    (ce : P.cellsOf e = 2) (o0 : f0.offset = 0) (o1 : f1.offset = 1) (c0 : P.cellsOf f0.type = 1) (c1 : P.cellsOf f1.type = 1) (i0 : P.underlying f0.type = some (.int .i64)) (i1 : P.underlying f1.type = some (.int .i64))
    (hval : Value.okWide P W .any base t v) (hj : DataW.Trod enc P W 0 (fun _ => true) true t v d p) :
    ∃ l : List (Int × Int), Sl2 W v (l.map fun x => (.int .i64 x.1, .int .i64 x.2)) ∧ (∀ x ∈ l, (-9223372036854775808 ≤ x.1 ∧ x.1 ≤ 9223372036854775807) ∧ -9223372036854775808 ≤ x.2 ∧ x.2 ≤ 9223372036854775807) ∧ l.length ≤ Rows.uptoBulk d := by
  obtain ⟨l, h1, h2, sp, h3⟩ := open_sl2 ht he ce o0 o1 c0 c1 hval hj
  have hall : ∀ x ∈ l, ∃ a b : Int, x.1.1 = .int .i64 a ∧ x.2.1 = .int .i64 b ∧ (-9223372036854775808 ≤ a ∧ a ≤ 9223372036854775807) ∧ -9223372036854775808 ≤ b ∧ b ≤ 9223372036854775807 := fun x hx => by
    obtain ⟨⟨n, p0, q0⟩, ⟨m, p1, q1⟩⟩ := h2 x hx
    obtain ⟨a, ha, _, hwa⟩ := DataW.trod_int i0 q0
    obtain ⟨b, hb, _, hwb⟩ := DataW.trod_int i1 q1
    exact ⟨a, b, by simpa using ha, by simpa using hb, bounds_i64 hwa, bounds_i64 hwb⟩
  refine ⟨l.map fun x => (intIn x.1.1, intIn x.2.1), ?_, ?_, ?_⟩
  · rw [List.map_map]
    have : (l.map ((fun x : Int × Int => (Value.int .i64 x.1, Value.int .i64 x.2)) ∘ fun x => (intIn x.1.1, intIn x.2.1))) = l.map fun x => (x.1.1, x.2.1) := List.map_congr_left fun x hx => by
      obtain ⟨a, b, ha, hb, _⟩ := hall x hx
      simp [ha, hb, intIn]
    rw [this]; exact h1
  · intro x hx
    obtain ⟨y, hy, rfl⟩ := List.mem_map.1 hx
    obtain ⟨a, b, ha, hb, h4, h5⟩ := hall y hy
    simp [ha, hb, intIn, h4, h5]
  · rw [List.length_map]
    rcases h3 with rfl | ⟨rfl, rfl⟩
    · have := bulk_len (l.map fun x => DataW.agg [x.1.2, x.2.2])
      rw [List.length_map] at this
      simp only [Rows.uptoBulk]
      omega
    · simp

/-! ### The last step -/
theorem trodAll_stays (hl : laidOutB P = true) {W W' : World} (hb : Nw W W') : ∀ {ts : List TypeId} {vs : List Value} {ds : List (DataW H)} {p : List MemPlace},
    (∀ t ∈ ts, P.readableRec t = true ∧ t < P.types.size) → (∀ x ∈ p, x.block < W.heap.size) → DataW.TrodAll enc P W 0 (fun _ => true) true ts vs ds p →
    DataW.TrodAll enc P W' 0 (fun b => decide (b < W.heap.size)) true ts vs ds p
  | [], _, _, _, _, _, h => by
    obtain ⟨rfl, rfl, rfl⟩ := trodAll_nil h
    exact rfl
  | t :: ts, _, _, _, ht, hlt, h => by
    obtain ⟨v, vs, d, ds, p, q, rfl, rfl, rfl, h1, h2⟩ := trodAll_cons h
    refine trodAll_cons_mk (Below.trod hl (ht t (by simp)).1 (ht t (by simp)).2 h1 hb (fun x hx => hlt x (by simp [hx]))) (trodAll_stays hl hb (fun t h => ht t (by simp [h])) (fun x hx => hlt x (by simp [hx])) h2)

/-- What a walk of a law gives, as the law's row asks for it. -/
theorem law_post {f : Func} {s : ChangeSpec} {W W' : World} {args : Array Value} {ds : List (DataW H)} {before : List MemPlace} (tb : TypeId) (hl : laidOutB P = true)
    (hW : DataW.Whole enc P f.params.toList [] false W args.toList ds [] before) (hv : s.vars = [])
    (ht : ∀ t ∈ f.params.toList, P.readableRec t = true ∧ t < P.types.size) (hr : f.resultTypes = #[tb]) (hbool : P.underlying tb = some .bool)
    (hfn : s.fn H ds = { results := [.lit (.bool true)], args := ds }) (hb : Nw W W') : s.post enc P f false true false false W args (.bool true) W' := by
  have hW' := hW
  obtain ⟨p, q, hA, hV, rfl, _, _⟩ := hW
  obtain ⟨_, rfl⟩ := trodVars_none hV
  have hlt := hW'.lt
  simp only [List.append_nil] at hlt hW'
  refine ⟨ds, [], p, [], p, [], by rw [hv]; exact hW', ?_, ?_, ?_, hb.frame _, fun h => by cases h⟩
  · rw [List.append_nil, hfn, hr]
    exact trodAll_cons_mk (shut_bool hbool true) trodAll_mk0
  · rw [List.append_nil, hfn]
    exact trodAll_stays hl hb ht hlt hA
  · rw [hv, List.append_nil, hfn]; rfl
end

theorem u8_of (n : Int) (h : 0 ≤ n ∧ n ≤ 255) : ∃ x : UInt8, n = (x.toNat : Int) := ⟨UInt8.ofNat n.toNat, by rw [UInt8.toNat_ofNat']; omega⟩

/-! ### Closed facts of this translation -/
theorem own : ownKnob Try.prog.godebug = none := by kernel_rfl
theorem kconst (w : World) (C : Array Value) (n c : Nat) : (convert 22 22 (.slice (some ⟨w.heap.size, 0, none⟩) n c)).run Try.prog (w.alloc (.cells C 5)) = .ok (.slice (some ⟨w.heap.size, 0, none⟩) n c) (w.alloc (.cells C 5 (C.size, C.size + 1))) :=
  Lib.run_convert_bytes_const (P := Try.prog) w 22 5 C n c Try.underlying22 Try.underlying5
theorem str_ok {w : World} {v : Value} {bs : List UInt8} (h : Bytes w v bs) : (convert 22 9 v).run Try.prog w = .ok (.string ⟨bs.toArray⟩) w :=
  run_str h 22 9 5 Try.underlying22 Try.underlying5 Try.underlying9
theorem str_later {w : World} {v : Value} {bs : List UInt8} (h : Bytes w v bs) : ∀ w', Nw w w' → (convert 22 9 v).run Try.prog w' = .ok (.string ⟨bs.toArray⟩) w' := fun _ hn => str_ok (h.nw hn)
theorem info_u8 : (Try.prog.info? 5).map (fun i => (i.zero, i.size, i.bytes)) = some (some (.int .u8 0), 1, 1) := by kernel_rfl
theorem laidOut : laidOutB Try.prog = true := by kernel_rfl
end Go.Proofs.Ytdihoedehmfgfaa
