/- One memory, and two side by side, between calls. No condition but lengths. -/
import Derived.Test.YthellicimicieaaMemoI
import Derived.Test.YthellicimicieaaMemoC
import Derived.Test.YthellicimicieaaMemoO
set_option linter.unusedSimpArgs false
set_option linter.unusedVariables false
namespace Go.Proofs.Ythellicimicieaa
open Go.ChangeShapes Go.WideShapes Go.ChangeAt Go.RowKit
namespace Mm
open Go.Proofs.Ythellicimicieaa.Words (Wd wd trim Set ws ws_one ws_length same same_c samewords_c rtrim_c HandsW)
/-- The blocks of memories may be more. -/
structure Ext (w : World) (P : Nat → Prop) (w' : World) (P' : Nat → Prop) : Prop where
  sub : ∀ k, P k → P' k
  new : ∀ k, P' k → P k ∨ w.heap.size ≤ k
  low : ∀ k, P' k → k < w'.heap.size
def Old (w : World) (v v' : Value) : Prop := ∀ k, v'.ownBlock = some k → v.ownBlock = some k ∨ w.heap.size ≤ k
theorem Ext.refl {w w' : World} {P : Nat → Prop} (hP : ∀ k, P k → k < w.heap.size) (hz : w.heap.size ≤ w'.heap.size) : Ext w P w' P := ⟨fun _ q => q, fun _ q => Or.inl q, fun k q => Nat.lt_of_lt_of_le (hP k q) hz⟩
theorem Ext.trans {w w1 w2 : World} {P P1 P2 : Nat → Prop} (h : Ext w P w1 P1) (k : Ext w1 P1 w2 P2) (hz : w.heap.size ≤ w1.heap.size) : Ext w P w2 P2 :=
  ⟨fun j q => k.sub j (h.sub j q), fun j q => by rcases k.new j q with q | q; exact h.new j q; exact Or.inr (Nat.le_trans hz q), k.low⟩
theorem Old.trans {w w1 : World} {v v1 v2 : Value} (h : Old w v v1) (k : Old w1 v1 v2) (hz : w.heap.size ≤ w1.heap.size) : Old w v v2 := fun j q => by
  rcases k j q with q | q
  · exact h j q
  · exact Or.inr (Nat.le_trans hz q)
theorem MI.frame {w w' : World} {P P' S : Nat → Prop} {B a : Nat} {v : Value} {f : Nat → V3} {m : Me} (h : MI w P B a v f m) (hm : Mods S w w') (he : Ext w P w' P') (ha : ¬ S a) (hv : ∀ k, v.ownBlock = some k → ¬ S k) (hS : ∀ k, S k → P k) : MI w' P' B a v f m :=
  ⟨hm.heap h.blk ha, h.ge, he.sub a h.mine, h.row.mods hm hv hS he.sub he.new, h.ok⟩
theorem RI.frame {w w' : World} {P P' S : Nat → Prop} {B a : Nat} {v : Value} {f : Nat → V3} {m : Me} (h : RI w P B a v f m) (hm : Mods S w w') (he : Ext w P w' P') (ha : ¬ S a) (hv : ∀ k, v.ownBlock = some k → ¬ S k) (hS : ∀ k, S k → P k) : RI w' P' B a v f m :=
  ⟨hm.heap h.blk ha, h.ge, he.sub a h.mine, h.row.mods hm hv hS he.sub he.new, h.ok⟩
/-- What a memory is made of. -/
def Own2 (a : Nat) (v : Value) (k : Nat) : Prop := k = a ∨ v.ownBlock = some k
theorem MI.own2 {w : World} {P : Nat → Prop} {B a : Nat} {v : Value} {f : Nat → V3} {m : Me} (h : MI w P B a v f m) {k : Nat} (hk : Own2 a v k) : P k ∧ (∃ cs, w.heap[k]? = some (.cells cs 76 (0, 0)) ∨ w.heap[k]? = some (.cells cs 82 (0, 0))) := by
  rcases hk with rfl | hk
  · exact ⟨h.mine, _, Or.inl h.blk⟩
  · obtain ⟨_, cur, hc⟩ := row_block h.row.own hk
    exact ⟨h.row.mine k hk, cur, Or.inr hc⟩
theorem RI.own2 {w : World} {P : Nat → Prop} {B a : Nat} {v : Value} {f : Nat → V3} {m : Me} (h : RI w P B a v f m) {k : Nat} (hk : Own2 a v k) : P k ∧ (∃ cs, w.heap[k]? = some (.cells cs 80 (0, 0)) ∨ w.heap[k]? = some (.cells cs 87 (0, 0))) := by
  rcases hk with rfl | hk
  · exact ⟨h.mine, _, Or.inl h.blk⟩
  · obtain ⟨_, cur, hc⟩ := row_block h.row.own hk
    exact ⟨h.row.mine k hk, cur, Or.inr hc⟩
/-- A memory and one of the document's share no block. -/
theorem own2_ne {w : World} {P : Nat → Prop} {B B' a a' : Nat} {v v' : Value} {f f' : Nat → V3} {m m' : Me} (h : MI w P B a v f m) (h' : RI w P B' a' v' f' m') {k : Nat} (hk : Own2 a v k) (hk' : Own2 a' v' k) : False := by
  obtain ⟨_, c, h1⟩ := h.own2 hk
  obtain ⟨_, d, h2⟩ := h'.own2 hk'
  rcases h1 with h1 | h1 <;> rcases h2 with h2 | h2 <;> exact type_ne h1 h2 (by decide) rfl
/-- What two memories side by side have become. -/
def DO (w : World) (P : Nat → Prop) (Bm Br am : Nat) (vm : Value) (ar : Nat) (vr : Value) (M' : Me) (w' : World) : Prop :=
  ∃ P' vm' fm' vr' fr', Ext w P w' P' ∧ MI w' P' Bm am vm' fm' M' ∧ RI w' P' Br ar vr' fr' M' ∧ Mods (fun k => Own2 am vm k ∨ Own2 ar vr k) w w' ∧ Old w vm vm' ∧ Old w vr vr'
theorem DO.nw {w w1 w2 : World} {P : Nat → Prop} {Bm Br am ar : Nat} {vm vr : Value} {M : Me} (h : DO w P Bm Br am vm ar vr M w1) (hn : Nw w1 w2) : DO w P Bm Br am vm ar vr M w2 := by
  obtain ⟨P', vm', fm', vr', fr', he, hm, hr, hd, o1, o2⟩ := h
  exact ⟨P', vm', fm', vr', fr', ⟨he.sub, he.new, fun k q => Nat.lt_of_lt_of_le (he.low k q) hn.size⟩, hm.nw hn, hr.nw hn, hd.nw hn, o1, o2⟩
theorem DO.start {w : World} {P : Nat → Prop} {Bm Br am ar : Nat} {vm vr : Value} {fm fr : Nat → V3} {M : Me} (hP : ∀ k, P k → k < w.heap.size) (hm : MI w P Bm am vm fm M) (hr : RI w P Br ar vr fr M) : DO w P Bm Br am vm ar vr M w :=
  ⟨P, vm, fm, vr, fr, Ext.refl hP (Nat.le_refl _), hm, hr, Mods.refl _ _, fun _ q => Or.inl q, fun _ q => Or.inl q⟩
/-- A memory turned, then the document's like it. -/
theorem DO.step {w w1 w2 w3 w4 : World} {P P1 : Nat → Prop} {Bm Br am ar : Nat} {vm vr vm1 vr1 : Value} {fm1 fr1 : Nat → V3} {M M' : Me} (he : Ext w P w1 P1) (hm : MI w1 P1 Bm am vm1 fm1 M) (hr : RI w1 P1 Br ar vr1 fr1 M) (hd : Mods (fun k => Own2 am vm k ∨ Own2 ar vr k) w w1) (o1 : Old w vm vm1) (o2 : Old w vr vr1)
    (h1 : MO w1 P1 Bm am vm1 M' w2) (hn : Nw w2 w3) (h2 : ∀ P2, Ext w1 P1 w3 P2 → RI w3 P2 Br ar vr1 fr1 M → RO w3 P2 Br ar vr1 M' w4) : DO w P Bm Br am vm ar vr M' w4 := by
  obtain ⟨P2, vm2, fm2, e1, e2, e3, hm2, hd2, ho2⟩ := h1
  have hx : Ext w1 P1 w2 P2 := ⟨e1, e2, e3⟩
  have hr2 : RI w2 P2 Br ar vr1 fr1 M := hr.frame hd2 hx (fun q => own2_ne hm hr (k := ar) q (Or.inl rfl)) (fun k hk q => own2_ne hm hr (k := k) q (Or.inr hk)) (fun k q => (hm.own2 q).1)
  have hx3 : Ext w1 P1 w3 P2 := ⟨e1, e2, fun k q => Nat.lt_of_lt_of_le (e3 k q) hn.size⟩
  have hm3 := hm2.nw hn
  have hr3 := hr2.nw hn
  obtain ⟨P3, vr3, fr3, g1, g2, g3, hr4, hd4, ho4⟩ := h2 P2 hx3 hr3
  have hx4 : Ext w3 P2 w4 P3 := ⟨g1, g2, g3⟩
  have hm4 : MI w4 P3 Bm am vm2 fm2 M' := hm3.frame hd4 hx4 (fun q => own2_ne hm3 hr3 (k := am) (Or.inl rfl) q) (fun k hk q => own2_ne hm3 hr3 (k := k) (Or.inr hk) q) (fun k q => (hr3.own2 q).1)
  have z1 := hd.size
  have z2 : w1.heap.size ≤ w3.heap.size := Nat.le_trans hd2.size hn.size
  have hz : w.heap.size ≤ w3.heap.size := Nat.le_trans z1 z2
  refine ⟨P3, vm2, fm2, vr3, fr3, (he.trans hx3 z1).trans hx4 hz, hm4, hr4, ?_, o1.trans ho2 z1, o2.trans ho4 hz⟩
  have a1 : Mods (fun k => Own2 am vm k ∨ Own2 ar vr k) w w2 := ⟨hd2.os.trans hd.os, hd2.tape.trans hd.tape, hd2.output.trans hd.output, Nat.le_trans hd.size hd2.size, fun k hk hs => (hd2.block k (Nat.lt_of_lt_of_le hk hd.size) (fun q => by
    rcases q with q | q
    · exact hs (Or.inl (Or.inl q))
    · rcases o1 k q with q | q
      · exact hs (Or.inl (Or.inr q))
      · omega)).trans (hd.block k hk hs)⟩
  have a2 := a1.nw hn
  exact ⟨hd4.os.trans a2.os, hd4.tape.trans a2.tape, hd4.output.trans a2.output, Nat.le_trans a2.size hd4.size, fun k hk hs => (hd4.block k (Nat.lt_of_lt_of_le hk a2.size) (fun q => by
    rcases q with q | q
    · exact hs (Or.inr (Or.inl q))
    · rcases o2 k q with q | q
      · exact hs (Or.inr (Or.inr q))
      · omega)).trans (a2.block k hk hs)⟩
/-! ### One memory, seen from the law -/
def St (W : World) (a : Nat) (m : Me) (w : World) : Prop := ∃ P B v f, MI w P B a v f m ∧ (∀ k, P k → k < w.heap.size) ∧ (∀ k, P k → W.heap.size ≤ k) ∧ Nw W w
theorem St.nw {W w w' : World} {a : Nat} {m : Me} (h : St W a m w) (hn : Nw w w') : St W a m w' := by
  obtain ⟨P, B, v, f, h1, h2, h3, h4⟩ := h
  exact ⟨P, B, v, f, h1.nw hn, fun k q => Nat.lt_of_lt_of_le (h2 k q) hn.size, h3, h4.trans hn⟩
theorem St.base {W w : World} {a : Nat} {m : Me} (h : St W a m w) : Nw W w := by
  obtain ⟨P, B, v, f, h1, h2, h3, h4⟩ := h; exact h4
theorem St.ok {W w : World} {a : Nat} {m : Me} (h : St W a m w) : Ok m := by
  obtain ⟨P, B, v, f, h1, h2, h3, h4⟩ := h; exact h1.ok
theorem St.lt {W w : World} {a : Nat} {m : Me} (h : St W a m w) : a < w.heap.size := by
  obtain ⟨P, B, v, f, h1, h2, h3, h4⟩ := h; exact h1.lt
theorem st_of {W w w' : World} {P : Nat → Prop} {B a : Nat} {v : Value} {f : Nat → V3} {m m' : Me} (hm : MI w P B a v f m) (h3 : ∀ k, P k → W.heap.size ≤ k) (h4 : Nw W w) (h : MO w P B a v m' w') : St W a m' w' := by
  obtain ⟨P', v', f', e1, e2, e3, hm', hd, _⟩ := h
  refine ⟨P', B, v', f', hm', e3, fun k q => ?_, h4.ofMods hd fun k q => h3 k (hm.own2 q).1⟩
  rcases e2 k q with q | q
  · exact h3 k q
  · exact Nat.le_trans h4.size q
theorem put_st {W w : World} {a : Nat} {m : Me} (us uv ux : Value) (s v x : List Wd) (e : Bool) (h : St W a m w) (k1 : Set w us s) (k2 : Set w uv v) (k3 : Set w ux x) (ls : s.length ≤ 1000) (lv : v.length ≤ 1000) (lx : x.length ≤ 1000) :
    Calls Try.prog 24 #[.pointer (some ⟨a, 0, none⟩), us, uv, .agg #[ux, .bool e]] w fun en w' => en = .returned (.tuple #[]) ∧ St W a (putM m s v x e) w' := by
  obtain ⟨P, B, u, f, h1, h2, h3, h4⟩ := h
  exact (put_c P B a u f m us uv ux s v x e w h1 h2 k1 k2 k3 ls lv lx).mono fun en w' h => ⟨h.1, st_of h1 h3 h4 h.2⟩
theorem get_st {W w : World} {a : Nat} {m : Me} (us uv : Value) (s v : List Wd) (h : St W a m w) (k1 : Set w us s) (k2 : Set w uv v) :
    Calls Try.prog 25 #[.pointer (some ⟨a, 0, none⟩), us, uv] w fun en w' => HandsM (getP m s v) en w' ∧ St W a (getM m s v) w' := by
  obtain ⟨P, B, u, f, h1, h2, h3, h4⟩ := h
  exact (get_c P B a u f m us uv s v w h1 h2 k1 k2).mono fun en w' h => ⟨h.1, st_of h1 h3 h4 h.2⟩
theorem len_st {W w : World} {a : Nat} {m : Me} (h : St W a m w) : Calls Try.prog 28 #[.pointer (some ⟨a, 0, none⟩)] w (Gives (.int .i64 (m.l.length : Int)) w) := by
  obtain ⟨P, B, u, f, h1, h2, h3, h4⟩ := h
  exact len_c P B a u f m w h1
theorem cells_st {W w : World} {a : Nat} {m : Me} (h : St W a m w) : Calls Try.prog 30 #[.pointer (some ⟨a, 0, none⟩)] w (Gives (.int .i64 (cells m.l : Int)) w) := by
  obtain ⟨P, B, u, f, h1, h2, h3, h4⟩ := h
  exact cells_c P B a u f m w h1
theorem new_st (W w : World) (room : Int) (hn : Nw W w) : Calls Try.prog 21 #[.int .i64 room] w fun en w' => ∃ a, en = .returned (.pointer (some ⟨a, 0, none⟩)) ∧ St W a ⟨rm room, [], 0⟩ w' :=
  (new_c (fun _ => False) room w).mono fun en w' ⟨a, e, ha, hl, hn', hm⟩ => ⟨a, e, _, _, _, _, hm, fun k q => by rcases q with q | q; exact q.elim; exact q ▸ hl, fun k q => by rcases q with q | q; exact q.elim; exact q ▸ Nat.le_trans hn.size ha, hn.trans hn'⟩
end Mm
end Go.Proofs.Ythellicimicieaa
