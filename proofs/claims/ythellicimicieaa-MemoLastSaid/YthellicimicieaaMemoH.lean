/- The contracts of Put, both. No condition but lengths. -/
import Derived.Test.YthellicimicieaaMemoG
import Derived.Test.YthellicimicieaaTrB
import Derived.Test.YthellicimicieaaSeqF
set_option linter.unusedSimpArgs false
set_option linter.unusedVariables false
namespace Go.Proofs.Ythellicimicieaa
open Go.ChangeShapes Go.WideShapes Go.ChangeAt Go.RowKit
namespace Mm
open Go.Proofs.Ythellicimicieaa.Words (Wd wd trim Set ws ws_one ws_length same same_c samewords_c rtrim_c HandsW or or_c)
theorem or_none (s : List Wd) : or s [] = trim s := by
  refine Words.ext (Words.or_trim s []) (Words.trim_trim s) fun i => ?_
  rw [Words.wd_or, Words.wd_trim, Words.wd_nil]
  simp
set_option maxRecDepth 20000 in
theorem plain_c (v : Value) (s : List Wd) (w : World) (hv : Set w v s) (hl : s.length ≤ 1000) : Calls Try.prog 49 #[v] w (HandsW w (trim s)) := by
  have HO := hid (or_c v (.slice none 0 0) s [] w hv (Set.nil w) (by omega) (Nat.zero_le _))
  rw [or_none] at HO
  obtain ⟨p, c, rfl, _⟩ := hv.open
  go_enter Try.func49, Try.ntmps49
  go_wp2_with (first
    | (go_at_call 36; refine HO.out.mono ?_; rintro e w1 ⟨v1, rfl, hs1, hf1, hn1⟩)
    | fail)
  go_ret
  exact ⟨v1, rfl, hs1, hf1, hn1⟩
theorem set_apart {w : World} {v : Value} {s : List Wd} {k : Nat} {cs : Array Value} {t : TypeId} {fr : Nat × Nat} (h : Set w v s) (hs : s ≠ []) (hk : v.ownBlock = some k) (hh : w.heap[k]? = some (.cells cs t fr)) (hc : ∀ (j : Nat) x, cs[j]? = some x → ∀ z, x ≠ .int .u64 z) : False := by
  obtain ⟨p, cap, rfl, h1, h2, h3, h4⟩ := h.open
  cases s with
  | nil => exact hs rfl
  | cons y r =>
    obtain ⟨b, off, rfl, hb⟩ := h4 0 (by simp [ws])
    cases hk
    rw [heap_cell hh] at hb
    exact hc _ _ hb _ rfl
/-- An entry that is being made: its three sets are of the call's own. -/
def EnS (N : Nat) (s v x : List Wd) (e : Bool) : Says := fun w u => ∃ p1 n1 c1 p2 n2 c2 p3 n3 c3, u = .agg #[.slice p1 n1 c1, .slice p2 n2 c2, .slice p3 n3 c3, .bool e, .bool true] ∧
  (Set w (.slice p1 n1 c1) s ∧ ∀ k, (Value.slice p1 n1 c1).ownBlock = some k → N ≤ k) ∧ (Set w (.slice p2 n2 c2) v ∧ ∀ k, (Value.slice p2 n2 c2).ownBlock = some k → N ≤ k) ∧ (Set w (.slice p3 n3 c3) x ∧ ∀ k, (Value.slice p3 n3 c3).ownBlock = some k → N ≤ k)
theorem EnS.stab (N : Nat) (s v x : List Wd) (e : Bool) : Stab (EnS N s v x e) := fun _ _ _ ⟨p1, n1, c1, p2, n2, c2, p3, n3, c3, he, h1, h2, h3⟩ hn => ⟨p1, n1, c1, p2, n2, c2, p3, n3, c3, he, ⟨Set.nw h1.1 hn, h1.2⟩, ⟨Set.nw h2.1 hn, h2.2⟩, ⟨Set.nw h3.1 hn, h3.2⟩⟩
def BoxS (N : Nat) (t : TypeId) : Says := fun w u => ∃ g, u = .pointer (some ⟨g, 0, none⟩) ∧ N ≤ g ∧ w.heap[g]? = some (.cells #[.slice none 0 0, .slice none 0 0, .slice none 0 0, .bool false, .bool false] t (0, 0))
theorem BoxS.stab (N : Nat) (t : TypeId) : Stab (BoxS N t) := fun _ _ _ ⟨g, he, h1, h2⟩ hn => ⟨g, he, h1, hn.heap h2⟩
attribute [simp] EnS.stab BoxS.stab
/-- Five stores side by side. -/
def st5 (w : World) (g o : Nat) (a b c d e : Value) : World := ((((w.setCell ⟨g, o, none⟩ a).setCell ⟨g, o + 1, none⟩ b).setCell ⟨g, o + 2, none⟩ c).setCell ⟨g, o + 3, none⟩ d).setCell ⟨g, o + 4, none⟩ e
theorem st5_mods (w : World) (g o : Nat) (a b c d e : Value) : Mods (fun k => k = g) w (st5 w g o a b c d e) := ((((mods_cell w g o a).trans (mods_cell _ g (o + 1) b)).trans (mods_cell _ g (o + 2) c)).trans (mods_cell _ g (o + 3) d)).trans (mods_cell _ g (o + 4) e)
theorem st5_heap {w : World} {g : Nat} {a0 b0 c0 d0 e0 : Value} {t : TypeId} (h : w.heap[g]? = some (.cells #[a0, b0, c0, d0, e0] t (0, 0))) (a b c d e : Value) : (st5 w g 0 a b c d e).heap[g]? = some (.cells #[a, b, c, d, e] t (0, 0)) :=
  heap_set (heap_set (heap_set (heap_set (heap_set h 0 a) 1 b) 2 c) 3 d) 4 e
/-- An entry that is made: where it lies, its sets, which are of the call's own. -/
structure EnB (W w : World) (g : Nat) (t : TypeId) (z : V3) (n : En) : Prop where
  blk : w.heap[g]? = some (.cells #[z.1, z.2.1, z.2.2, .bool n.e, .bool n.k] t (0, 0))
  ge : W.heap.size ≤ g
  s1 : Set w z.1 n.s
  s2 : Set w z.2.1 n.v
  s3 : Set w z.2.2 n.x
  f1 : ∀ k, z.1.ownBlock = some k → W.heap.size ≤ k
  f2 : ∀ k, z.2.1.ownBlock = some k → W.heap.size ≤ k
  f3 : ∀ k, z.2.2.ownBlock = some k → W.heap.size ≤ k
theorem EnB.mods {W w w' : World} {g : Nat} {t : TypeId} {z : V3} {n : En} {S : Nat → Prop} (h : EnB W w g t z n) (hm : Mods S w w') (hS : ∀ k, S k → k < W.heap.size) : EnB W w' g t z n :=
  ⟨hm.heap h.blk (fun q => by have := hS _ q; have := h.ge; omega), h.ge, Sl.mods h.s1 hm (fun _ k hk q => by have := hS _ q; have := h.f1 k hk; omega), Sl.mods h.s2 hm (fun _ k hk q => by have := hS _ q; have := h.f2 k hk; omega), Sl.mods h.s3 hm (fun _ k hk q => by have := hS _ q; have := h.f3 k hk; omega), h.f1, h.f2, h.f3⟩
theorem EnB.nw {W w w' : World} {g : Nat} {t : TypeId} {z : V3} {n : En} (h : EnB W w g t z n) (hn : Nw w w') : EnB W w' g t z n := h.mods (hn.mods fun _ => False) (fun _ q => q.elim)
theorem EnB.setP {W w : World} {g : Nat} {t : TypeId} {z : V3} {n : En} {P : Nat → Prop} (h : EnB W w g t z n) (hP : ∀ k, P k → k < W.heap.size) : SetP w P z.1 n.s ∧ SetP w P z.2.1 n.v ∧ SetP w P z.2.2 n.x :=
  ⟨⟨h.s1, fun k _ hk q => by have := hP _ q; have := h.f1 k hk; omega⟩, ⟨h.s2, fun k _ hk q => by have := hP _ q; have := h.f2 k hk; omega⟩, ⟨h.s3, fun k _ hk q => by have := hP _ q; have := h.f3 k hk; omega⟩⟩
/-- The store of an entry into its box. -/
theorem enb_make {W w : World} {N g : Nat} {t : TypeId} {q1 q2 q3 : Option Addr} {n1 d1 n2 d2 n3 d3 : Nat} {s v x : List Wd} {e : Bool} (hN : W.heap.size ≤ N) (hg : N ≤ g) (hb : w.heap[g]? = some (.cells #[.slice none 0 0, .slice none 0 0, .slice none 0 0, .bool false, .bool false] t (0, 0)))
    (h1 : Set w (.slice q1 n1 d1) (trim s) ∧ ∀ k, (Value.slice q1 n1 d1).ownBlock = some k → N ≤ k) (h2 : Set w (.slice q2 n2 d2) (trim v) ∧ ∀ k, (Value.slice q2 n2 d2).ownBlock = some k → N ≤ k) (h3 : Set w (.slice q3 n3 d3) (trim x) ∧ ∀ k, (Value.slice q3 n3 d3).ownBlock = some k → N ≤ k) :
    EnB W (st5 w g 0 (.slice q1 n1 d1) (.slice q2 n2 d2) (.slice q3 n3 d3) (.bool e) (.bool true)) g t (.slice q1 n1 d1, .slice q2 n2 d2, .slice q3 n3 d3) (new_ s v x e) := by
  have hm := st5_mods w g 0 (.slice q1 n1 d1) (.slice q2 n2 d2) (.slice q3 n3 d3) (.bool e) (.bool true)
  have key : ∀ {u : Value} {y : List Wd}, Set w u y → Set (st5 w g 0 (.slice q1 n1 d1) (.slice q2 n2 d2) (.slice q3 n3 d3) (.bool e) (.bool true)) u y := fun {u y} h =>
    Sl.mods h hm fun h0 k hk q => by
      subst q
      refine set_apart h (fun e => h0 (by rw [e]; rfl)) hk hb fun j x' hj z => ?_
      match j, hj with
      | 0, hj => cases hj; nofun
      | 1, hj => cases hj; nofun
      | 2, hj => cases hj; nofun
      | 3, hj => cases hj; nofun
      | 4, hj => cases hj; nofun
  exact ⟨st5_heap hb _ _ _ _ _, Nat.le_trans hN hg, key h1.1, key h2.1, key h3.1, fun k hk => Nat.le_trans hN (h1.2 k hk), fun k hk => Nat.le_trans hN (h2.2 k hk), fun k hk => Nat.le_trans hN (h3.2 k hk)⟩
/-- A row in which one entry is another. -/
theorem row_put {w : World} {P : Nat → Prop} {B : Nat} {t : TypeId} {g n cap : Nat} {f : Nat → V3} {l : List En} (h : Row w P B t (.slice (some ⟨g, 0, none⟩) n cap) f l) (hn : n = l.length) {i : Nat} (hi : i < l.length) (z : V3) (nw : En) (hz : SetP w P z.1 nw.s ∧ SetP w P z.2.1 nw.v ∧ SetP w P z.2.2 nw.x) :
    Row (st5 w g (i * 5) z.1 z.2.1 z.2.2 (.bool nw.e) (.bool nw.k)) P B t (.slice (some ⟨g, 0, none⟩) n cap) (upd f i z) (l.set i nw) := by
  subst hn
  have hPg : P g := h.mine g rfl
  have hm := st5_mods w g (i * 5) z.1 z.2.1 z.2.2 (.bool nw.e) (.bool nw.k)
  have hS : ∀ k, k = g → P k := fun k e => e ▸ hPg
  refine Row.of ?_ h.mine fun j hj => ?_
  · have h1 := (World.ownsRow.stored h.own (i * 5) z.1).1
    have h2 := (World.ownsRow.stored h1 (i * 5 + 1) z.2.1).1
    have h3 := (World.ownsRow.stored h2 (i * 5 + 2) z.2.2).1
    have h4 := (World.ownsRow.stored h3 (i * 5 + 3) (.bool nw.e)).1
    have h5 := (World.ownsRow.stored h4 (i * 5 + 4) (.bool nw.k)).1
    rw [enc_put _ _ hi] at h5
    rw [List.length_set]
    exact h5
  · rw [List.length_set] at hj
    obtain ⟨h1, h2, h3⟩ := h.at hj
    rw [at_set _ _ _ _ hi]
    unfold upd
    by_cases e : i = j
    · subst e
      rw [if_pos rfl, if_pos rfl]
      exact ⟨hz.1.mods hm hS (fun _ q => Or.inl q), hz.2.1.mods hm hS (fun _ q => Or.inl q), hz.2.2.mods hm hS (fun _ q => Or.inl q)⟩
    · rw [if_neg e, if_neg e]
      exact ⟨h1.mods hm hS (fun _ q => Or.inl q), h2.mods hm hS (fun _ q => Or.inl q), h3.mods hm hS (fun _ q => Or.inl q)⟩
/-- A row that has one entry more. -/
theorem row_app {w w' : World} {P P' : Nat → Prop} {B : Nat} {t : TypeId} {v v' : Value} {f : Nat → V3} {l : List En} (h : Row w P B t v f l) (z : V3) (nw : En) (hz : SetP w P z.1 nw.s ∧ SetP w P z.2.1 nw.v ∧ SetP w P z.2.2 nw.x)
    (ho : w'.ownsRow B t 5 v' (l.length + 1) (enc f l ++ ent z nw)) (hg : w.grownBy w' v.ownBlock) (hP2 : ∀ k, P' k → P k ∨ w.heap.size ≤ k) (hP3 : ∀ k, v'.ownBlock = some k → P' k) : Row w' P' B t v' (upd f l.length z) (l ++ [nw]) := by
  have hm : Mods (fun k => v.ownBlock = some k) w w' := ⟨hg.os, hg.tape, hg.output, hg.size, fun k hk hs => hg.block k hk (fun e => hs e.symm)⟩
  refine Row.of ?_ hP3 fun j hj => ?_
  · rw [← enc_snoc, List.length_append, List.length_singleton]; exact ho
  · rw [List.length_append, List.length_singleton] at hj
    rw [at_app _ _ _ hj]
    unfold upd
    by_cases e : j = l.length
    · subst e
      rw [if_pos rfl, if_pos rfl]
      exact ⟨hz.1.mods hm (fun k hk => h.mine k hk) hP2, hz.2.1.mods hm (fun k hk => h.mine k hk) hP2, hz.2.2.mods hm (fun k hk => h.mine k hk) hP2⟩
    · rw [if_neg (fun q => e q.symm), if_neg e]
      obtain ⟨h1, h2, h3⟩ := h.at (show j < l.length by omega)
      exact ⟨h1.mods hm (fun k hk => h.mine k hk) hP2, h2.mods hm (fun k hk => h.mine k hk) hP2, h3.mods hm (fun k hk => h.mine k hk) hP2⟩
theorem info_entry : (Try.prog.info? 82).map (fun i => (i.zero, i.size, i.bytes)) = some (some (.agg #[.slice none 0 0, .slice none 0 0, .slice none 0 0, .bool false, .bool false]), 5, 88) := by kernel_rfl
theorem info_rentry : (Try.prog.info? 87).map (fun i => (i.zero, i.size, i.bytes)) = some (some (.agg #[.slice none 0 0, .slice none 0 0, .slice none 0 0, .bool false, .bool false]), 5, 88) := by kernel_rfl
/-- A row of one entry in a block of its own. -/
def OneE (z : V3) (n : En) : Says := fun w u => ∃ g, u = .slice (some ⟨g, 0, none⟩) 1 1 ∧ Cells w (some ⟨g, 0, none⟩) (ent z n)
theorem OneE.stab (z : V3) (n : En) : Stab (OneE z n) := fun _ _ _ ⟨g, he, h⟩ hn => ⟨g, he, h.nw hn⟩
attribute [simp] OneE.stab
theorem one_new (w : World) (z : V3) (n : En) (t : TypeId) : OneE z n (w.alloc (.cells #[z.1, z.2.1, z.2.2, .bool n.e, .bool n.k] t)) (.slice (some ⟨w.heap.size, 0, none⟩) 1 1) :=
  ⟨_, rfl, Tr.cells_newAt w [z.1, z.2.1, z.2.2, .bool n.e, .bool n.k] t _ _ rfl⟩
theorem row_slice {w : World} {B : Nat} {t : TypeId} {size : Nat} {v : Value} {n : Nat} {xs : List Value} (h : w.ownsRow B t size v n xs) (h0 : 0 < n) : ∃ g cap, v = .slice (some ⟨g, 0, none⟩) n cap := by
  rcases h.2 with ⟨_, h1⟩ | ⟨g, cap, cur, rfl, _⟩
  · omega
  · exact ⟨g, cap, rfl⟩
theorem app_keeps {w w' : World} {a B size n : Nat} {cs : Array Value} {t t' : TypeId} {fr : Nat × Nat} {v : Value} {xs : List Value} (hn : t ≠ t') (hb : w.heap[a]? = some (.cells cs t fr)) (ho : w.ownsRow B t' size v n xs) (hg : w.grownBy w' v.ownBlock) :
    Mods (fun k => v.ownBlock = some k) w w' ∧ w'.heap[a]? = some (.cells cs t fr) := by
  have hm : Mods (fun k => v.ownBlock = some k) w w' := ⟨hg.os, hg.tape, hg.output, hg.size, fun k hk hs => hg.block k hk (fun e => hs e.symm)⟩
  exact ⟨hm, hm.heap hb fun e => by
    obtain ⟨_, cur, hc⟩ := row_block ho e
    exact type_ne hb hc hn rfl⟩
theorem app_mo {w wR w2 : World} {P : Nat → Prop} {B a g8 : Nat} {v v' : Value} {f : Nat → V3} {m : Me} {z : V3} {nw : En} (hP : ∀ k, P k → k < w.heap.size) (hm1 : MI wR P B a v f m) (hw1 : Nw w wR) (HB : EnB w wR g8 82 z nw) (ho : w2.ownsRow B 82 5 v' (m.l.length + 1) (enc f m.l ++ ent z nw)) (hg : wR.grownBy w2 v.ownBlock)
    (hat : v'.ownBlock = v.ownBlock ∨ v'.ownBlock = some wR.heap.size) (ok : Ok ⟨m.room, m.l ++ [nw], m.hand⟩) : MO w P B a v ⟨m.room, m.l ++ [nw], m.hand⟩ (w2.setCell ⟨a, 1, none⟩ v') := by
  obtain ⟨hmd2, hb2⟩ := app_keeps (t' := 82) (by decide) hm1.blk hm1.row.own hg
  have hmc := mods_cell w2 a 1 v'
  have hs1 := hw1.size
  have hP2 : ∀ k, P k ∨ v'.ownBlock = some k → P k ∨ wR.heap.size ≤ k := fun k h => by
    rcases h with h | h
    · exact Or.inl h
    · rcases hat with q | q
      · exact Or.inl (hm1.row.mine k (q ▸ h))
      · rw [q] at h; cases h; exact Or.inr (Nat.le_refl _)
  refine ⟨fun k => P k ∨ v'.ownBlock = some k, v', _, fun _ q => Or.inl q, fun k q => (hP2 k q).imp_right (fun h => by omega), fun k q => ?_, ⟨heap_set hb2 1 v', hm1.ge, Or.inl hm1.mine, (row_app (P' := fun k => P k ∨ v'.ownBlock = some k) hm1.row z nw (HB.setP hP) ho hg hP2 (fun k h => Or.inr h)).mods hmc (fun k hk e => ?_) (fun k e => Or.inl (e ▸ hm1.mine)) (fun _ q => q) (fun _ q => Or.inl q), ok⟩, ((hw1.mods _).trans (hmd2.mono fun k h => Or.inr h)).trans (hmc.mono fun k h => Or.inl h), fun k h => ?_⟩
  · have : k < w2.heap.size := by
      rcases q with q | q
      · have := hP k q; have := hg.size; omega
      · obtain ⟨_, cur, hc⟩ := row_block ho q
        exact lt_of_heap hc
    have := hmc.size
    omega
  · obtain ⟨_, cur, hc⟩ := row_block ho hk
    exact type_ne hb2 hc (by decide) e.symm
  · rcases hat with q | q
    · exact Or.inl (q ▸ h)
    · rw [q] at h; cases h; exact Or.inr hs1

theorem app_ro {w wR w2 : World} {P : Nat → Prop} {B a g8 : Nat} {v v' : Value} {f : Nat → V3} {m : Me} {z : V3} {nw : En} (hP : ∀ k, P k → k < w.heap.size) (hm1 : RI wR P B a v f m) (hw1 : Nw w wR) (HB : EnB w wR g8 87 z nw) (ho : w2.ownsRow B 87 5 v' (m.l.length + 1) (enc f m.l ++ ent z nw)) (hg : wR.grownBy w2 v.ownBlock)
    (hat : v'.ownBlock = v.ownBlock ∨ v'.ownBlock = some wR.heap.size) (ok : Ok ⟨m.room, m.l ++ [nw], m.hand⟩) : RO w P B a v ⟨m.room, m.l ++ [nw], m.hand⟩ (w2.setCell ⟨a, 2, none⟩ v') := by
  obtain ⟨hmd2, hb2⟩ := app_keeps (t' := 87) (by decide) hm1.blk hm1.row.own hg
  have hmc := mods_cell w2 a 2 v'
  have hs1 := hw1.size
  have hP2 : ∀ k, P k ∨ v'.ownBlock = some k → P k ∨ wR.heap.size ≤ k := fun k h => by
    rcases h with h | h
    · exact Or.inl h
    · rcases hat with q | q
      · exact Or.inl (hm1.row.mine k (q ▸ h))
      · rw [q] at h; cases h; exact Or.inr (Nat.le_refl _)
  refine ⟨fun k => P k ∨ v'.ownBlock = some k, v', _, fun _ q => Or.inl q, fun k q => (hP2 k q).imp_right (fun h => by omega), fun k q => ?_, ⟨heap_set hb2 2 v', hm1.ge, Or.inl hm1.mine, (row_app (P' := fun k => P k ∨ v'.ownBlock = some k) hm1.row z nw (HB.setP hP) ho hg hP2 (fun k h => Or.inr h)).mods hmc (fun k hk e => ?_) (fun k e => Or.inl (e ▸ hm1.mine)) (fun _ q => q) (fun _ q => Or.inl q), ok⟩, ((hw1.mods _).trans (hmd2.mono fun k h => Or.inr h)).trans (hmc.mono fun k h => Or.inl h), fun k h => ?_⟩
  · have : k < w2.heap.size := by
      rcases q with q | q
      · have := hP k q; have := hg.size; omega
      · obtain ⟨_, cur, hc⟩ := row_block ho q
        exact lt_of_heap hc
    have := hmc.size
    omega
  · obtain ⟨_, cur, hc⟩ := row_block ho hk
    exact type_ne hb2 hc (by decide) e.symm
  · rcases hat with q | q
    · exact Or.inl (q ▸ h)
    · rw [q] at h; cases h; exact Or.inr hs1

/-- An entry that is another. -/
theorem put_mi {w wR : World} {P : Nat → Prop} {B a g n cap g8 : Nat} {f : Nat → V3} {m : Me} {z : V3} {nw : En} (hP : ∀ k, P k → k < w.heap.size) (hm1 : MI wR P B a (.slice (some ⟨g, 0, none⟩) n cap) f m) (hn : n = m.l.length) (HB : EnB w wR g8 82 z nw) (hnw : EnOk nw) {i : Nat} (hi : i < m.l.length) :
    MI (st5 wR g (i * 5) z.1 z.2.1 z.2.2 (.bool nw.e) (.bool nw.k)) P B a (.slice (some ⟨g, 0, none⟩) n cap) (upd f i z) ⟨m.room, m.l.set i nw, m.hand⟩ := by
  have hst := st5_mods wR g (i * 5) z.1 z.2.1 z.2.2 (.bool nw.e) (.bool nw.k)
  have hne := type_ne hm1.blk (row_block hm1.row.own (k := g) rfl).2.choose_spec (by decide)
  refine ⟨hst.heap hm1.blk hne, hm1.ge, hm1.mine, row_put hm1.row hn hi z nw (HB.setP hP), hm1.ok.r0, hm1.ok.r1, by rw [List.length_set]; exact hm1.ok.len, hm1.ok.hand, fun j hj => ?_⟩
  have hj2 : j < m.l.length := by simpa using hj
  show EnOk (at_ (m.l.set _ _) j)
  rw [at_set _ _ _ _ hi]
  split
  · exact hnw
  · exact hm1.ok.en j hj2

/-- An entry that is another. -/
theorem put_ri {w wR : World} {P : Nat → Prop} {B a g n cap g8 : Nat} {f : Nat → V3} {m : Me} {z : V3} {nw : En} (hP : ∀ k, P k → k < w.heap.size) (hm1 : RI wR P B a (.slice (some ⟨g, 0, none⟩) n cap) f m) (hn : n = m.l.length) (HB : EnB w wR g8 87 z nw) (hnw : EnOk nw) {i : Nat} (hi : i < m.l.length) :
    RI (st5 wR g (i * 5) z.1 z.2.1 z.2.2 (.bool nw.e) (.bool nw.k)) P B a (.slice (some ⟨g, 0, none⟩) n cap) (upd f i z) ⟨m.room, m.l.set i nw, m.hand⟩ := by
  have hst := st5_mods wR g (i * 5) z.1 z.2.1 z.2.2 (.bool nw.e) (.bool nw.k)
  have hne := type_ne hm1.blk (row_block hm1.row.own (k := g) rfl).2.choose_spec (by decide)
  refine ⟨hst.heap hm1.blk hne, hm1.ge, hm1.mine, row_put hm1.row hn hi z nw (HB.setP hP), hm1.ok.r0, hm1.ok.r1, by rw [List.length_set]; exact hm1.ok.len, hm1.ok.hand, fun j hj => ?_⟩
  have hj2 : j < m.l.length := by simpa using hj
  show EnOk (at_ (m.l.set _ _) j)
  rw [at_set _ _ _ _ hi]
  split
  · exact hnw
  · exact hm1.ok.en j hj2

theorem row_frozen {w : World} {P : Nat → Prop} {B : Nat} {t : TypeId} {g n cap : Nat} {f : Nat → V3} {l : List En} (h : Row w P B t (.slice (some ⟨g, 0, none⟩) n cap) f l) (j : Nat) : w.frozen? ⟨g, j, none⟩ = false := by
  obtain ⟨_, cur, hc⟩ := row_block h.own (k := g) rfl
  exact heap_frozen hc j
theorem MO.same' {w w' : World} {P : Nat → Prop} {B a : Nat} {v v' : Value} {f : Nat → V3} {m : Me} (hP : ∀ k, P k → k < w.heap.size) (h : MI w' P B a v' f m) (hv : v'.ownBlock = v.ownBlock) (hm : Mods (fun k => k = a ∨ v.ownBlock = some k) w w') : MO w P B a v m w' :=
  ⟨P, v', f, fun _ q => q, fun _ q => Or.inl q, fun k q => Nat.lt_of_lt_of_le (hP k q) hm.size, h, hm, fun _ q => Or.inl (hv ▸ q)⟩
theorem RO.same' {w w' : World} {P : Nat → Prop} {B a : Nat} {v v' : Value} {f : Nat → V3} {m : Me} (hP : ∀ k, P k → k < w.heap.size) (h : RI w' P B a v' f m) (hv : v'.ownBlock = v.ownBlock) (hm : Mods (fun k => k = a ∨ v.ownBlock = some k) w w') : RO w P B a v m w' :=
  ⟨P, v', f, fun _ q => q, fun _ q => Or.inl q, fun k q => Nat.lt_of_lt_of_le (hP k q) hm.size, h, hm, fun _ q => Or.inl (hv ▸ q)⟩
/-! ### The hand -/
theorem hand_mod {h r : Nat} (hr : 1 ≤ r) : ((h : Int) + 1).tmod (r : Int) = (((h + 1) % r : Nat) : Int) ∧ ((h : Int) + 1) % (r : Int) = (((h + 1) % r : Nat) : Int) := by
  have e : ((h : Int) + 1) % (r : Int) = (((h + 1) % r : Nat) : Int) := by rw [show (h : Int) + 1 = ((h + 1 : Nat) : Int) by omega, ← Int.natCast_emod]
  exact ⟨by rw [Int.tmod_eq_emod_of_nonneg (by omega)]; exact e, e⟩
set_option maxRecDepth 20000 in
theorem on_c (a room hand : Nat) (v : Value) (w : World) (hb : w.heap[a]? = some (.cells #[.int .i64 (room : Int), v, .int .i64 (hand : Int)] 76 (0, 0))) (h1 : 1 ≤ room) (h2 : room ≤ 4096) (h3 : hand < room) :
    Calls Try.prog 51 #[.pointer (some ⟨a, 0, none⟩)] w fun en w' => en = .returned (.tuple #[]) ∧ w'.heap[a]? = some (.cells #[.int .i64 (room : Int), v, .int .i64 (((hand + 1) % room : Nat) : Int)] 76 (0, 0)) ∧ Mods (fun k => k = a) w w' := by
  obtain ⟨k1, k2⟩ := hand_mod (h := hand) h1
  generalize (hand + 1) % room = nx at *
  have e0 := heap_cell hb 0
  have e2 := heap_cell hb 2
  have f2 := heap_frozen hb 2
  have ga := lt_of_heap hb
  simp only [List.getElem?_toArray, List.getElem?_cons_succ, List.getElem?_cons_zero] at e0 e2
  have hz1 : ((room : Int) == 0) = false := beq_eq_false_iff_ne.2 (by omega)
  have hz3 : (room : Int) ≠ 0 := by omega
  go_enter Try.func51, Try.ntmps51
  go_region
  ((try simp only [Exit.inBlock, Exit.then]); refine bodyPost_end (results_none rfl _ _ _) rfl ?_)
  exact ⟨rfl, heap_set hb 2 _, (mods_cell w a 2 _).drew⟩
theorem MI.hand {w w' : World} {P : Nat → Prop} {B a : Nat} {v : Value} {f : Nat → V3} {m : Me} {h' : Nat} (h : MI w P B a v f m) (hm : Mods (fun k => k = a) w w') (hb : w'.heap[a]? = some (.cells #[.int .i64 (m.room : Int), v, .int .i64 (h' : Int)] 76 (0, 0))) (hh : h' < m.room) : MI w' P B a v f ⟨m.room, m.l, h'⟩ :=
  ⟨hb, h.ge, h.mine, h.row.mods hm (fun k hk e => by
    obtain ⟨_, cur, hc⟩ := row_block h.row.own hk
    exact type_ne h.blk hc (by decide) e.symm) (fun k e => e ▸ h.mine) (fun _ q => q) (fun _ q => Or.inl q), h.ok.r0, h.ok.r1, h.ok.len, hh, h.ok.en⟩
/-- How many marks stand in a row. -/
def mkAt (w : World) (g i : Nat) : Bool := match w.cell? ⟨g, i * 5 + 4, none⟩ with
  | some (.bool b) => b
  | _ => false
def MW (w : World) (g n : Nat) : Nat := ((List.range n).filter fun i => mkAt w g i).length
theorem marks_range (l : List En) : ((List.range l.length).filter fun i => (at_ l i).k).length = marks l := by
  have e : l = (List.range l.length).map (at_ l) := List.ext_getElem (by simp) fun i h1 h2 => by simp [at_get l i h1]
  unfold marks
  conv => rhs; rw [e, List.filter_map, List.length_map]
  rfl
theorem mw_marks {w : World} {P : Nat → Prop} {B : Nat} {t : TypeId} {g n cap : Nat} {f : Nat → V3} {l : List En} (h : Row w P B t (.slice (some ⟨g, 0, none⟩) n cap) f l) (hn : n = l.length) : MW w g n = marks l := by
  subst hn
  rw [← marks_range]
  unfold MW
  congr 1
  refine List.filter_congr fun i hi => ?_
  have hi' := List.mem_range.1 hi
  unfold mkAt
  rw [World.ownsRow.cellAt h.own (i * 5 + 4) (by omega), enc_get f l hi' (by omega)]
  rfl
set_option maxRecDepth 20000 in
set_option maxHeartbeats 3200000 in
theorem put_c (P : Nat → Prop) (B a : Nat) (u : Value) (f : Nat → V3) (m : Me) (us uv ux : Value) (s v x_ : List Wd) (e : Bool) (w : World) (hm : MI w P B a u f m) (hP : ∀ k, P k → k < w.heap.size) (k1 : Set w us s) (k2 : Set w uv v) (k3 : Set w ux x_) (ls : s.length ≤ 1000) (lv : v.length ≤ 1000) (lx : x_.length ≤ 1000) :
    Calls Try.prog 24 #[.pointer (some ⟨a, 0, none⟩), us, uv, .agg #[ux, .bool e]] w fun en w' => en = .returned (.tuple #[]) ∧ MO w P B a u (putM m s v x_ e) w' := by
  have HFI := hid (fun w' (h : Nw w w') => find_c P B a u f m us uv s v w' (hm.nw h) (k1.nw h) (k2.nw h))
  have HP1 := hid (fun w' (h : Nw w w') => plain_c us s w' (k1.nw h) ls)
  have HP2 := hid (fun w' (h : Nw w w') => plain_c uv v w' (k2.nw h) lv)
  have HP3 := hid (fun w' (h : Nw w w') => plain_c ux x_ w' (k3.nw h) lx)
  obtain ⟨p1, c1v, rfl, _⟩ := k1.open
  obtain ⟨p2, c2v, rfl, _⟩ := k2.open
  obtain ⟨p3, c3v, rfl, _⟩ := k3.open
  obtain ⟨p, cap, rfl, hcap, hmx, _, hc⟩ := row_open hm.row
  unfold maxLen at hmx
  have hal := hm.lt
  clear k1 k2 k3
  go_enter Try.func24, Try.ntmps24
  go_upto_region 2 with fail
  have y7 := heap_new w (.cells #[.slice p3 x_.length c3v, .bool e] 47)
  have hnA := (Nw.refl w).alloc (.cells #[.slice p3 x_.length c3v, .bool e] 47)
  have lA := lt_alloc w (.cells #[.slice p3 x_.length c3v, .bool e] 47)
  generalize w.alloc (.cells #[.slice p3 x_.length c3v, .bool e] 47) = w0 at *
  have b0 := heap_cell y7 0
  have b1 := heap_cell y7 1
  simp only [List.getElem?_toArray, List.getElem?_cons_succ, List.getElem?_cons_zero] at b0 b1
  refine wp_region_tail 12 (by kernel_rfl) (by kernel_rfl) (by kernel_rfl) (by kernel_rfl) (by kernel_rfl) ?_
  dsimp only [List.take, List.drop]
  iterate 1
    refine Stairs.is ?_ ?_ ?_
    rotate_left 1
    · intro x wR hR hd K hK
      simp only [Act.put, List.setIfInBounds_toArray, List.set_cons_zero, List.set_cons_succ, Say.ok] at hK ⊢
      clear hd
      change Hid _ at hK
      obtain ⟨hcR, hfR, hzR⟩ := nwc hR
      first | (refine wanted_yes ?_ ?_; rfl) | (refine wanted_no ?_ ?_; rfl)
      go_wp2_with (first | (go_at_call_of 49 (Value.slice p1 s.length c1v); refine (HP1.out _ (hnA.trans (by repeat (first | assumption | exact Nw.refl _ | refine Nw.alloc ?_ _ | refine Nw.drew ?_ | refine Nw.drewN2 ?_ _ | (refine Nw.trans ?_ (by assumption)))))).mono ?_; rintro e w5 ⟨v5, rfl, hs5, hf5, hn5⟩) | (go_at_call_of 49 (Value.slice p2 v.length c2v); refine (HP2.out _ (hnA.trans (by repeat (first | assumption | exact Nw.refl _ | refine Nw.alloc ?_ _ | refine Nw.drew ?_ | refine Nw.drewN2 ?_ _ | (refine Nw.trans ?_ (by assumption)))))).mono ?_; rintro e w5 ⟨v5, rfl, hs5, hf5, hn5⟩) | (go_at_call 49; refine (HP3.out _ (hnA.trans (by repeat (first | assumption | exact Nw.refl _ | refine Nw.alloc ?_ _ | refine Nw.drew ?_ | refine Nw.drewN2 ?_ _ | (refine Nw.trans ?_ (by assumption)))))).mono ?_; rintro e w5 ⟨v5, rfl, hs5, hf5, hn5⟩))
      all_goals (refine hK.out _ _ ?_ ?_ <;> first | (solve | (repeat (first | assumption | exact Nw.refl _ | refine Nw.alloc ?_ _ | refine Nw.drew ?_ | refine Nw.drewN2 ?_ _ | (refine Nw.trans ?_ (by assumption))))) | exact rfl)
    try simp only [Act.put, List.setIfInBounds_toArray, List.set_cons_zero, List.set_cons_succ]
  iterate 1
    refine Stairs.that (WdS w0.heap.size (trim s)) (by first | assumption | simp) ?_ ?_
    · intro x wR hR hd K hK
      simp only [Act.put, List.setIfInBounds_toArray, List.set_cons_zero, List.set_cons_succ, Say.ok] at hK ⊢
      clear hd
      change Hid _ at hK
      obtain ⟨hcR, hfR, hzR⟩ := nwc hR
      first | (refine wanted_yes ?_ ?_; rfl) | (refine wanted_no ?_ ?_; rfl)
      go_wp2_with (first | (go_at_call_of 49 (Value.slice p1 s.length c1v); refine (HP1.out _ (hnA.trans (by repeat (first | assumption | exact Nw.refl _ | refine Nw.alloc ?_ _ | refine Nw.drew ?_ | refine Nw.drewN2 ?_ _ | (refine Nw.trans ?_ (by assumption)))))).mono ?_; rintro e w5 ⟨v5, rfl, hs5, hf5, hn5⟩) | (go_at_call_of 49 (Value.slice p2 v.length c2v); refine (HP2.out _ (hnA.trans (by repeat (first | assumption | exact Nw.refl _ | refine Nw.alloc ?_ _ | refine Nw.drew ?_ | refine Nw.drewN2 ?_ _ | (refine Nw.trans ?_ (by assumption)))))).mono ?_; rintro e w5 ⟨v5, rfl, hs5, hf5, hn5⟩) | (go_at_call 49; refine (HP3.out _ (hnA.trans (by repeat (first | assumption | exact Nw.refl _ | refine Nw.alloc ?_ _ | refine Nw.drew ?_ | refine Nw.drewN2 ?_ _ | (refine Nw.trans ?_ (by assumption)))))).mono ?_; rintro e w5 ⟨v5, rfl, hs5, hf5, hn5⟩))
      all_goals (refine hK.out _ _ ?_ ?_ <;> first | (solve | (repeat (first | assumption | exact Nw.refl _ | refine Nw.alloc ?_ _ | refine Nw.drew ?_ | refine Nw.drewN2 ?_ _ | (refine Nw.trans ?_ (by assumption))))) | exact rfl | exact WdS.of hs5 hf5 (Nw.size (by assumption)))
    try simp only [Act.put, List.setIfInBounds_toArray, List.set_cons_zero, List.set_cons_succ, List.length_nil, List.length_cons, List.nil_append, List.cons_append, Nat.reduceAdd]
  iterate 1
    refine Stairs.is ?_ ?_ ?_
    rotate_left 1
    · intro x wR hR hd K hK
      simp only [Act.put, List.setIfInBounds_toArray, List.set_cons_zero, List.set_cons_succ, Say.ok] at hK ⊢
      try simp [Region.binds, sayAt, Say.ok] at hd
      change Hid _ at hK
      obtain ⟨hcR, hfR, hzR⟩ := nwc hR
      first | (refine wanted_yes ?_ ?_; rfl) | (refine wanted_no ?_ ?_; rfl)
      go_wp2_with (first | (go_at_call_of 49 (Value.slice p1 s.length c1v); refine (HP1.out _ (hnA.trans (by repeat (first | assumption | exact Nw.refl _ | refine Nw.alloc ?_ _ | refine Nw.drew ?_ | refine Nw.drewN2 ?_ _ | (refine Nw.trans ?_ (by assumption)))))).mono ?_; rintro e w5 ⟨v5, rfl, hs5, hf5, hn5⟩) | (go_at_call_of 49 (Value.slice p2 v.length c2v); refine (HP2.out _ (hnA.trans (by repeat (first | assumption | exact Nw.refl _ | refine Nw.alloc ?_ _ | refine Nw.drew ?_ | refine Nw.drewN2 ?_ _ | (refine Nw.trans ?_ (by assumption)))))).mono ?_; rintro e w5 ⟨v5, rfl, hs5, hf5, hn5⟩) | (go_at_call 49; refine (HP3.out _ (hnA.trans (by repeat (first | assumption | exact Nw.refl _ | refine Nw.alloc ?_ _ | refine Nw.drew ?_ | refine Nw.drewN2 ?_ _ | (refine Nw.trans ?_ (by assumption)))))).mono ?_; rintro e w5 ⟨v5, rfl, hs5, hf5, hn5⟩))
      all_goals (refine hK.out _ _ ?_ ?_ <;> first | (solve | (repeat (first | assumption | exact Nw.refl _ | refine Nw.alloc ?_ _ | refine Nw.drew ?_ | refine Nw.drewN2 ?_ _ | (refine Nw.trans ?_ (by assumption))))) | exact rfl)
    try simp only [Act.put, List.setIfInBounds_toArray, List.set_cons_zero, List.set_cons_succ]
  iterate 1
    refine Stairs.that (WdS w0.heap.size (trim v)) (by first | assumption | simp) ?_ ?_
    · intro x wR hR hd K hK
      simp only [Act.put, List.setIfInBounds_toArray, List.set_cons_zero, List.set_cons_succ, Say.ok] at hK ⊢
      try simp [Region.binds, sayAt, Say.ok] at hd
      change Hid _ at hK
      obtain ⟨hcR, hfR, hzR⟩ := nwc hR
      first | (refine wanted_yes ?_ ?_; rfl) | (refine wanted_no ?_ ?_; rfl)
      go_wp2_with (first | (go_at_call_of 49 (Value.slice p1 s.length c1v); refine (HP1.out _ (hnA.trans (by repeat (first | assumption | exact Nw.refl _ | refine Nw.alloc ?_ _ | refine Nw.drew ?_ | refine Nw.drewN2 ?_ _ | (refine Nw.trans ?_ (by assumption)))))).mono ?_; rintro e w5 ⟨v5, rfl, hs5, hf5, hn5⟩) | (go_at_call_of 49 (Value.slice p2 v.length c2v); refine (HP2.out _ (hnA.trans (by repeat (first | assumption | exact Nw.refl _ | refine Nw.alloc ?_ _ | refine Nw.drew ?_ | refine Nw.drewN2 ?_ _ | (refine Nw.trans ?_ (by assumption)))))).mono ?_; rintro e w5 ⟨v5, rfl, hs5, hf5, hn5⟩) | (go_at_call 49; refine (HP3.out _ (hnA.trans (by repeat (first | assumption | exact Nw.refl _ | refine Nw.alloc ?_ _ | refine Nw.drew ?_ | refine Nw.drewN2 ?_ _ | (refine Nw.trans ?_ (by assumption)))))).mono ?_; rintro e w5 ⟨v5, rfl, hs5, hf5, hn5⟩))
      all_goals (refine hK.out _ _ ?_ ?_ <;> first | (solve | (repeat (first | assumption | exact Nw.refl _ | refine Nw.alloc ?_ _ | refine Nw.drew ?_ | refine Nw.drewN2 ?_ _ | (refine Nw.trans ?_ (by assumption))))) | exact rfl | exact WdS.of hs5 hf5 (Nw.size (by assumption)))
    try simp only [Act.put, List.setIfInBounds_toArray, List.set_cons_zero, List.set_cons_succ, List.length_nil, List.length_cons, List.nil_append, List.cons_append, Nat.reduceAdd]
  iterate 2
    refine Stairs.is ?_ ?_ ?_
    rotate_left 1
    · intro x wR hR hd K hK
      simp only [Act.put, List.setIfInBounds_toArray, List.set_cons_zero, List.set_cons_succ, Say.ok] at hK ⊢
      try simp [Region.binds, sayAt, Say.ok] at hd
      change Hid _ at hK
      obtain ⟨hcR, hfR, hzR⟩ := nwc hR
      first | (refine wanted_yes ?_ ?_; rfl) | (refine wanted_no ?_ ?_; rfl)
      go_wp2_with (first | (go_at_call_of 49 (Value.slice p1 s.length c1v); refine (HP1.out _ (hnA.trans (by repeat (first | assumption | exact Nw.refl _ | refine Nw.alloc ?_ _ | refine Nw.drew ?_ | refine Nw.drewN2 ?_ _ | (refine Nw.trans ?_ (by assumption)))))).mono ?_; rintro e w5 ⟨v5, rfl, hs5, hf5, hn5⟩) | (go_at_call_of 49 (Value.slice p2 v.length c2v); refine (HP2.out _ (hnA.trans (by repeat (first | assumption | exact Nw.refl _ | refine Nw.alloc ?_ _ | refine Nw.drew ?_ | refine Nw.drewN2 ?_ _ | (refine Nw.trans ?_ (by assumption)))))).mono ?_; rintro e w5 ⟨v5, rfl, hs5, hf5, hn5⟩) | (go_at_call 49; refine (HP3.out _ (hnA.trans (by repeat (first | assumption | exact Nw.refl _ | refine Nw.alloc ?_ _ | refine Nw.drew ?_ | refine Nw.drewN2 ?_ _ | (refine Nw.trans ?_ (by assumption)))))).mono ?_; rintro e w5 ⟨v5, rfl, hs5, hf5, hn5⟩))
      all_goals (refine hK.out _ _ ?_ ?_ <;> first | (solve | (repeat (first | assumption | exact Nw.refl _ | refine Nw.alloc ?_ _ | refine Nw.drew ?_ | refine Nw.drewN2 ?_ _ | (refine Nw.trans ?_ (by assumption))))) | exact rfl)
    try simp only [Act.put, List.setIfInBounds_toArray, List.set_cons_zero, List.set_cons_succ]
  iterate 1
    refine Stairs.that (WdS w0.heap.size (trim x_)) (by first | assumption | simp) ?_ ?_
    · intro x wR hR hd K hK
      simp only [Act.put, List.setIfInBounds_toArray, List.set_cons_zero, List.set_cons_succ, Say.ok] at hK ⊢
      try simp [Region.binds, sayAt, Say.ok] at hd
      change Hid _ at hK
      obtain ⟨hcR, hfR, hzR⟩ := nwc hR
      first | (refine wanted_yes ?_ ?_; rfl) | (refine wanted_no ?_ ?_; rfl)
      go_wp2_with (first | (go_at_call_of 49 (Value.slice p1 s.length c1v); refine (HP1.out _ (hnA.trans (by repeat (first | assumption | exact Nw.refl _ | refine Nw.alloc ?_ _ | refine Nw.drew ?_ | refine Nw.drewN2 ?_ _ | (refine Nw.trans ?_ (by assumption)))))).mono ?_; rintro e w5 ⟨v5, rfl, hs5, hf5, hn5⟩) | (go_at_call_of 49 (Value.slice p2 v.length c2v); refine (HP2.out _ (hnA.trans (by repeat (first | assumption | exact Nw.refl _ | refine Nw.alloc ?_ _ | refine Nw.drew ?_ | refine Nw.drewN2 ?_ _ | (refine Nw.trans ?_ (by assumption)))))).mono ?_; rintro e w5 ⟨v5, rfl, hs5, hf5, hn5⟩) | (go_at_call 49; refine (HP3.out _ (hnA.trans (by repeat (first | assumption | exact Nw.refl _ | refine Nw.alloc ?_ _ | refine Nw.drew ?_ | refine Nw.drewN2 ?_ _ | (refine Nw.trans ?_ (by assumption)))))).mono ?_; rintro e w5 ⟨v5, rfl, hs5, hf5, hn5⟩))
      all_goals (refine hK.out _ _ ?_ ?_ <;> first | (solve | (repeat (first | assumption | exact Nw.refl _ | refine Nw.alloc ?_ _ | refine Nw.drew ?_ | refine Nw.drewN2 ?_ _ | (refine Nw.trans ?_ (by assumption))))) | exact rfl | exact WdS.of hs5 hf5 (Nw.size (by assumption)))
    try simp only [Act.put, List.setIfInBounds_toArray, List.set_cons_zero, List.set_cons_succ, List.length_nil, List.length_cons, List.nil_append, List.cons_append, Nat.reduceAdd]
  iterate 2
    refine Stairs.is ?_ ?_ ?_
    rotate_left 1
    · intro x wR hR hd K hK
      simp only [Act.put, List.setIfInBounds_toArray, List.set_cons_zero, List.set_cons_succ, Say.ok] at hK ⊢
      try simp [Region.binds, sayAt, Say.ok] at hd
      change Hid _ at hK
      obtain ⟨hcR, hfR, hzR⟩ := nwc hR
      first | (refine wanted_yes ?_ ?_; rfl) | (refine wanted_no ?_ ?_; rfl)
      go_wp2_with (first | (go_at_call_of 49 (Value.slice p1 s.length c1v); refine (HP1.out _ (hnA.trans (by repeat (first | assumption | exact Nw.refl _ | refine Nw.alloc ?_ _ | refine Nw.drew ?_ | refine Nw.drewN2 ?_ _ | (refine Nw.trans ?_ (by assumption)))))).mono ?_; rintro e w5 ⟨v5, rfl, hs5, hf5, hn5⟩) | (go_at_call_of 49 (Value.slice p2 v.length c2v); refine (HP2.out _ (hnA.trans (by repeat (first | assumption | exact Nw.refl _ | refine Nw.alloc ?_ _ | refine Nw.drew ?_ | refine Nw.drewN2 ?_ _ | (refine Nw.trans ?_ (by assumption)))))).mono ?_; rintro e w5 ⟨v5, rfl, hs5, hf5, hn5⟩) | (go_at_call 49; refine (HP3.out _ (hnA.trans (by repeat (first | assumption | exact Nw.refl _ | refine Nw.alloc ?_ _ | refine Nw.drew ?_ | refine Nw.drewN2 ?_ _ | (refine Nw.trans ?_ (by assumption)))))).mono ?_; rintro e w5 ⟨v5, rfl, hs5, hf5, hn5⟩))
      all_goals (refine hK.out _ _ ?_ ?_ <;> first | (solve | (repeat (first | assumption | exact Nw.refl _ | refine Nw.alloc ?_ _ | refine Nw.drew ?_ | refine Nw.drewN2 ?_ _ | (refine Nw.trans ?_ (by assumption))))) | exact rfl)
    try simp only [Act.put, List.setIfInBounds_toArray, List.set_cons_zero, List.set_cons_succ]
  iterate 1
    refine Stairs.that (MvS w0.heap.size (trim x_) e) (by first | assumption | simp) ?_ ?_
    · intro x wR hR hd K hK
      simp only [Act.put, List.setIfInBounds_toArray, List.set_cons_zero, List.set_cons_succ, Say.ok] at hK ⊢
      try simp [Region.binds, sayAt, Say.ok] at hd
      change Hid _ at hK
      obtain ⟨hcR, hfR, hzR⟩ := nwc hR
      have hu5 : WdS w0.heap.size (trim x_) wR (x 6) := (by first | exact hd | exact hd.2 | exact hd.1); obtain ⟨q5, n5, c5, e5, hu5'⟩ := hu5; rw [e5] at hK ⊢
      first | (refine wanted_yes ?_ ?_; rfl) | (refine wanted_no ?_ ?_; rfl)
      go_wp2_with (first | (go_at_call_of 49 (Value.slice p1 s.length c1v); refine (HP1.out _ (hnA.trans (by repeat (first | assumption | exact Nw.refl _ | refine Nw.alloc ?_ _ | refine Nw.drew ?_ | refine Nw.drewN2 ?_ _ | (refine Nw.trans ?_ (by assumption)))))).mono ?_; rintro e w5 ⟨v5, rfl, hs5, hf5, hn5⟩) | (go_at_call_of 49 (Value.slice p2 v.length c2v); refine (HP2.out _ (hnA.trans (by repeat (first | assumption | exact Nw.refl _ | refine Nw.alloc ?_ _ | refine Nw.drew ?_ | refine Nw.drewN2 ?_ _ | (refine Nw.trans ?_ (by assumption)))))).mono ?_; rintro e w5 ⟨v5, rfl, hs5, hf5, hn5⟩) | (go_at_call 49; refine (HP3.out _ (hnA.trans (by repeat (first | assumption | exact Nw.refl _ | refine Nw.alloc ?_ _ | refine Nw.drew ?_ | refine Nw.drewN2 ?_ _ | (refine Nw.trans ?_ (by assumption)))))).mono ?_; rintro e w5 ⟨v5, rfl, hs5, hf5, hn5⟩))
      all_goals (refine hK.out _ _ ?_ ?_ <;> first | (solve | (repeat (first | assumption | exact Nw.refl _ | refine Nw.alloc ?_ _ | refine Nw.drew ?_ | refine Nw.drewN2 ?_ _ | (refine Nw.trans ?_ (by assumption))))) | exact rfl | exact ⟨_, _, _, rfl, hu5'⟩)
    try simp only [Act.put, List.setIfInBounds_toArray, List.set_cons_zero, List.set_cons_succ, List.length_nil, List.length_cons, List.nil_append, List.cons_append, Nat.reduceAdd]
  iterate 1
    refine Stairs.that (EnS w0.heap.size (trim s) (trim v) (trim x_) e) (by first | assumption | simp) ?_ ?_
    · intro x wR hR hd K hK
      simp only [Act.put, List.setIfInBounds_toArray, List.set_cons_zero, List.set_cons_succ, Say.ok] at hK ⊢
      try simp [Region.binds, sayAt, Say.ok] at hd
      change Hid _ at hK
      obtain ⟨hcR, hfR, hzR⟩ := nwc hR
      have hu1 : WdS w0.heap.size (trim s) wR (x 1) := (by first | exact hd.1 | exact hd.2.1 | exact hd.2.2); have hu3 : WdS w0.heap.size (trim v) wR (x 3) := (by first | exact hd.1 | exact hd.2.1 | exact hd.2.2); have hu9 : MvS w0.heap.size (trim x_) e wR (x 9) := (by first | exact hd.1 | exact hd.2.1 | exact hd.2.2); obtain ⟨q5, n5, c5, e5, hu1'⟩ := hu1; obtain ⟨q6, n6, c6, e6, hu3'⟩ := hu3; obtain ⟨q7, n7, c7, e7, hu9'⟩ := hu9; rw [e5, e6, e7] at hK ⊢
      first | (refine wanted_yes ?_ ?_; rfl) | (refine wanted_no ?_ ?_; rfl)
      go_wp2_with (first | (go_at_call_of 49 (Value.slice p1 s.length c1v); refine (HP1.out _ (hnA.trans (by repeat (first | assumption | exact Nw.refl _ | refine Nw.alloc ?_ _ | refine Nw.drew ?_ | refine Nw.drewN2 ?_ _ | (refine Nw.trans ?_ (by assumption)))))).mono ?_; rintro e w5 ⟨v5, rfl, hs5, hf5, hn5⟩) | (go_at_call_of 49 (Value.slice p2 v.length c2v); refine (HP2.out _ (hnA.trans (by repeat (first | assumption | exact Nw.refl _ | refine Nw.alloc ?_ _ | refine Nw.drew ?_ | refine Nw.drewN2 ?_ _ | (refine Nw.trans ?_ (by assumption)))))).mono ?_; rintro e w5 ⟨v5, rfl, hs5, hf5, hn5⟩) | (go_at_call 49; refine (HP3.out _ (hnA.trans (by repeat (first | assumption | exact Nw.refl _ | refine Nw.alloc ?_ _ | refine Nw.drew ?_ | refine Nw.drewN2 ?_ _ | (refine Nw.trans ?_ (by assumption)))))).mono ?_; rintro e w5 ⟨v5, rfl, hs5, hf5, hn5⟩))
      all_goals (refine hK.out _ _ ?_ ?_ <;> first | (solve | (repeat (first | assumption | exact Nw.refl _ | refine Nw.alloc ?_ _ | refine Nw.drew ?_ | refine Nw.drewN2 ?_ _ | (refine Nw.trans ?_ (by assumption))))) | exact rfl | exact ⟨_, _, _, _, _, _, _, _, _, rfl, hu1', hu3', hu9'⟩)
    try simp only [Act.put, List.setIfInBounds_toArray, List.set_cons_zero, List.set_cons_succ, List.length_nil, List.length_cons, List.nil_append, List.cons_append, Nat.reduceAdd]
  iterate 1
    refine Stairs.that (BoxS w0.heap.size (82)) (by first | assumption | simp) ?_ ?_
    · intro x wR hR hd K hK
      simp only [Act.put, List.setIfInBounds_toArray, List.set_cons_zero, List.set_cons_succ, Say.ok] at hK ⊢
      try simp [Region.binds, sayAt, Say.ok] at hd
      change Hid _ at hK
      obtain ⟨hcR, hfR, hzR⟩ := nwc hR
      first | (refine wanted_yes ?_ ?_; rfl) | (refine wanted_no ?_ ?_; rfl)
      go_wp2_with (first | (go_at_call_of 49 (Value.slice p1 s.length c1v); refine (HP1.out _ (hnA.trans (by repeat (first | assumption | exact Nw.refl _ | refine Nw.alloc ?_ _ | refine Nw.drew ?_ | refine Nw.drewN2 ?_ _ | (refine Nw.trans ?_ (by assumption)))))).mono ?_; rintro e w5 ⟨v5, rfl, hs5, hf5, hn5⟩) | (go_at_call_of 49 (Value.slice p2 v.length c2v); refine (HP2.out _ (hnA.trans (by repeat (first | assumption | exact Nw.refl _ | refine Nw.alloc ?_ _ | refine Nw.drew ?_ | refine Nw.drewN2 ?_ _ | (refine Nw.trans ?_ (by assumption)))))).mono ?_; rintro e w5 ⟨v5, rfl, hs5, hf5, hn5⟩) | (go_at_call 49; refine (HP3.out _ (hnA.trans (by repeat (first | assumption | exact Nw.refl _ | refine Nw.alloc ?_ _ | refine Nw.drew ?_ | refine Nw.drewN2 ?_ _ | (refine Nw.trans ?_ (by assumption)))))).mono ?_; rintro e w5 ⟨v5, rfl, hs5, hf5, hn5⟩))
      all_goals (refine hK.out _ _ ?_ ?_ <;> first | (solve | (repeat (first | assumption | exact Nw.refl _ | refine Nw.alloc ?_ _ | refine Nw.drew ?_ | refine Nw.drewN2 ?_ _ | (refine Nw.trans ?_ (by assumption))))) | exact rfl | exact ⟨_, rfl, Nw.size (by assumption), heap_new _ _⟩)
    try simp only [Act.put, List.setIfInBounds_toArray, List.set_cons_zero, List.set_cons_succ, List.length_nil, List.length_cons, List.nil_append, List.cons_append, Nat.reduceAdd]
  refine Stairs.nil ?_
  intro x wR hR hx yR
  have h1 := hx 1 (by decide)
  simp only [sayAt, Say.ok] at h1
  have h3 := hx 3 (by decide)
  simp only [sayAt, Say.ok] at h3
  have h6 := hx 6 (by decide)
  simp only [sayAt, Say.ok] at h6
  have h9 := hx 9 (by decide)
  simp only [sayAt, Say.ok] at h9
  have h10 := hx 10 (by decide)
  simp only [sayAt, Say.ok] at h10
  have h11 := hx 11 (by decide)
  simp only [sayAt, Say.ok] at h11
  clear hx
  simp only [fill, Act.put, List.setIfInBounds_toArray, List.set_cons_zero, List.set_cons_succ]
  obtain ⟨hcR, hfR, hzR⟩ := nwc hR
  clear h1 h3 h6 h9
  obtain ⟨q1, n1, d1, q2, n2, d2, q3, n3, d3, e10, hz1, hz2, hz3⟩ := h10
  obtain ⟨g8, e11, hg8, hb8⟩ := h11
  rw [e10, e11]
  have HB := hid (enb_make (W := w) (e := e) hnA.size hg8 hb8 hz1 hz2 hz3)
  have hnS : Nw w (st5 wR g8 0 (.slice q1 n1 d1) (.slice q2 n2 d2) (.slice q3 n3 d3) (.bool e) (.bool true)) := (hnA.trans hR).ofMods (st5_mods wR g8 0 _ _ _ _ _) (fun k hk => by have := hnA.size; omega)
  have i0 := heap_cell hb8 0
  have i1 := heap_cell hb8 1
  have i2 := heap_cell hb8 2
  have i3 := heap_cell hb8 3
  have i4 := heap_cell hb8 4
  have j0 := heap_frozen hb8 0
  have j1 := heap_frozen hb8 1
  have j2 := heap_frozen hb8 2
  have j3 := heap_frozen hb8 3
  have j4 := heap_frozen hb8 4
  have jg := lt_of_heap hb8
  simp only [List.getElem?_toArray, List.getElem?_cons_succ, List.getElem?_cons_zero] at i0 i1 i2 i3 i4
  clear hcR hfR hzR hz1 hz2 hz3 hb8 b0 b1 y7 e10 e11 hR
  go_upto_region 3 with fail
  change Code.wp _ _ _ _ (st5 wR g8 0 (.slice q1 n1 d1) (.slice q2 n2 d2) (.slice q3 n3 d3) (.bool e) (.bool true))
  clear i0 i1 i2 i3 i4 j0 j1 j2 j3 j4 jg
  generalize st5 wR g8 0 (.slice q1 n1 d1) (.slice q2 n2 d2) (.slice q3 n3 d3) (.bool e) (.bool true) = wS at *
  clear HP1 HP2 HP3
  by_cases hf : fnd m.l s v < m.l.length
  · have HG := hid (show putM m s v x_ e = ⟨m.room, m.l.set (fnd m.l s v) (new_ s v x_ e), m.hand⟩ from if_pos hf)
    have HOK := hid (putM_ok hm.ok e ls lv lx)
    have hpl : plc m.l.length (fnd m.l s v) = (fnd m.l s v : Int) := if_pos hf
    rw [hpl] at HFI
    clear hpl
    generalize fnd m.l s v = i at *
    obtain ⟨g, rfl, _⟩ := hc i hf
    clear hc
    have hd0 : decide ((0 : Int) ≤ (i : Int)) = true := decide_eq_true (by omega)
    have hdl : decide ((m.l.length : Int) ≤ (i : Int)) = false := decide_eq_false (by omega)
    go_upto_region 5 with (first
      | (go_at_call 50; refine (HFI.out _ hnS).mono ?_; rintro en w1 ⟨rfl, hn1⟩)
      | fail)
    have hw1 := hnS.trans hn1
    have hm1 := hm.nw hw1
    have HB1 := hid (HB.out.nw hn1)
    have hgw : g < w.heap.size := hP g (hm.row.mine g rfl)
    have ga1 : a < w1.heap.size := hm1.lt
    have e1 := heap_cell hm1.blk 1
    have x0 := heap_cell HB1.out.blk 0
    have x1 := heap_cell HB1.out.blk 1
    have x2 := heap_cell HB1.out.blk 2
    have x3 := heap_cell HB1.out.blk 3
    have x4 := heap_cell HB1.out.blk 4
    have xg := lt_of_heap HB1.out.blk
    simp only [List.getElem?_toArray, List.getElem?_cons_succ, List.getElem?_cons_zero, new_] at e1 x0 x1 x2 x3 x4
    clear HFI
    refine wp_region_end rfl (by kernel_rfl) (by kernel_rfl) (by kernel_rfl) (by kernel_rfl) (by kernel_rfl) ?_
    dsimp only [List.dropLast]
    iterate 7
      refine Stairs.is ?_ ?_ ?_
      rotate_left 1
      · intro x wR hR hd K hK
        simp only [Act.put, List.setIfInBounds_toArray, List.set_cons_zero, List.set_cons_succ, Nat.reduceAdd, List.length_nil, List.length_cons, List.nil_append, List.cons_append, Say.ok] at hK ⊢
        clear hd
        change Hid _ at hK
        obtain ⟨hcR, hfR, hzR⟩ := nwc hR
        first | (refine wanted_yes ?_ ?_; rfl) | (refine wanted_no ?_ ?_; rfl)
        go_wp2_with (first | fail)
        all_goals (refine hK.out _ _ ?_ ?_ <;> first | (solve | (repeat (first | assumption | exact Nw.refl _ | refine Nw.alloc ?_ _ | refine Nw.drew ?_ | refine Nw.drewN2 ?_ _ | (refine Nw.trans ?_ (by assumption))))) | exact rfl)
      try simp only [Act.put, List.setIfInBounds_toArray, List.set_cons_zero, List.set_cons_succ, Nat.reduceAdd, List.length_nil, List.length_cons, List.nil_append, List.cons_append]
    refine Stairs.nil ?_
    intro x wR hR hx
    clear hx
    obtain ⟨hcR, hfR, hzR⟩ := nwc hR
    try dsimp only
    clear hcR hfR hzR x0 x1 x2 x3 x4 xg e1 ga1
    replace hm1 := hm1.nw hR
    replace HB1 := hid (HB1.out.nw hR)
    replace hw1 := hw1.trans hR
    obtain ⟨_, _, h9, _, _, _, hc2⟩ := row_open hm1.row
    simp only [Value.slice.injEq] at h9
    obtain ⟨rfl, _, rfl⟩ := h9
    obtain ⟨_, e9, c0, c1, c2, c3, c4⟩ := hc2 i hf
    cases e9
    clear hc2
    obtain ⟨⟨y1, y2, y3, _⟩, ⟨y4, y5, y6, _⟩, y7, y8, y9, _⟩ := And.intro (hm1.row.sets i hf).1.open (And.intro (hm1.row.sets i hf).2.1.open (hm1.row.sets i hf).2.2.open)
    rw [y3] at c0
    rw [y6] at c1
    rw [y9] at c2
    have z0 := row_frozen hm1.row (i * 5)
    have z1 := row_frozen hm1.row (i * 5 + 1)
    have z2 := row_frozen hm1.row (i * 5 + 2)
    have z3 := row_frozen hm1.row (i * 5 + 3)
    have z4 := row_frozen hm1.row (i * 5 + 4)
    have gg := World.block_lt_of_cell? wR _ c0
    simp only at gg
    clear y3 y6 y9
    go_wp2
    ((try simp only [Exit.inBlock, Exit.then]); refine bodyPost_ret (results_none rfl _ _ _) rfl ?_)
    have HR := row_put hm1.row rfl hf (.slice q1 n1 d1, .slice q2 n2 d2, .slice q3 n3 d3) (new_ s v x_ e) (HB1.out.setP hP)
    have hst := st5_mods wR g (i * 5) (.slice q1 n1 d1) (.slice q2 n2 d2) (.slice q3 n3 d3) (.bool e) (.bool true)
    have hne := type_ne hm1.blk (row_block hm1.row.own (k := g) rfl).2.choose_spec (by decide)
    rw [HG.out]
    rw [HG.out] at HOK
    exact ⟨rfl, P, _, _, fun _ q => q, fun _ q => Or.inl q, fun k q => Nat.lt_of_lt_of_le (hP k q) (Nat.le_trans hw1.size hst.size), ⟨hst.heap hm1.blk hne, hm1.ge, hm1.mine, HR, HOK.out⟩, (hw1.mods _).trans (hst.mono (fun k hk => Or.inr (by rw [hk]; rfl))), fun _ q => Or.inl q⟩
  · have hpl : plc m.l.length (fnd m.l s v) = -1 := if_neg hf
    rw [hpl] at HFI
    clear hpl hc
    by_cases hr : m.l.length < m.room
    · have HG := hid (show putM m s v x_ e = ⟨m.room, m.l ++ [new_ s v x_ e], m.hand⟩ from (if_neg hf).trans (if_pos hr))
      have HOK := hid (putM_ok hm.ok e ls lv lx)
      have hdr : decide ((m.l.length : Int) < (m.room : Int)) = true := decide_eq_true (by omega)
      have hdrn : decide (m.l.length < m.room) = true := decide_eq_true hr
      have hl40 := hm.ok.r1
      clear hf
      go_upto_region 6 with (first
        | (go_at_call 50; refine (HFI.out _ hnS).mono ?_; rintro en w1 ⟨rfl, hn1⟩)
        | fail)
      have hw1 := hnS.trans hn1
      have hm1 := hm.nw hw1
      have HB1 := hid (HB.out.nw hn1)
      have ga1 : a < w1.heap.size := hm1.lt
      have e0 := heap_cell hm1.blk 0
      have e1 := heap_cell hm1.blk 1
      have x0 := heap_cell HB1.out.blk 0
      have x1 := heap_cell HB1.out.blk 1
      have x2 := heap_cell HB1.out.blk 2
      have x3 := heap_cell HB1.out.blk 3
      have x4 := heap_cell HB1.out.blk 4
      have xg := lt_of_heap HB1.out.blk
      simp only [List.getElem?_toArray, List.getElem?_cons_succ, List.getElem?_cons_zero, new_] at e0 e1 x0 x1 x2 x3 x4
      clear HFI HB hm hnS hn1
      refine wp_region_stairs (by kernel_rfl) (by kernel_rfl) (by kernel_rfl) ?_
      iterate 11
        refine Stairs.is ?_ ?_ ?_
        rotate_left 1
        · intro x wR hR hd K hK
          simp only [Act.put, List.setIfInBounds_toArray, List.set_cons_zero, List.set_cons_succ, Nat.reduceAdd, List.length_nil, List.length_cons, List.nil_append, List.cons_append, Say.ok] at hK ⊢
          clear hd
          change Hid _ at hK
          obtain ⟨hcR, hfR, hzR⟩ := nwc hR
          first | (refine wanted_yes ?_ ?_; rfl) | (refine wanted_no ?_ ?_; rfl)
          go_wp2_with (first | fail)
          all_goals (refine hK.out _ _ ?_ ?_ <;> first | (solve | (repeat (first | assumption | exact Nw.refl _ | refine Nw.alloc ?_ _ | refine Nw.drew ?_ | refine Nw.drewN2 ?_ _ | (refine Nw.trans ?_ (by assumption))))) | exact rfl)
        try simp only [Act.put, List.setIfInBounds_toArray, List.set_cons_zero, List.set_cons_succ, Nat.reduceAdd, List.length_nil, List.length_cons, List.nil_append, List.cons_append]
      refine Stairs.nil ?_
      intro x wR hR hx
      clear hx
      obtain ⟨hcR, hfR, hzR⟩ := nwc hR
      replace hm1 := hm1.nw hR
      replace hw1 := hw1.trans hR
      replace HB1 := hid (HB1.out.nw hR)
      replace ga1 := Nat.lt_of_lt_of_le ga1 hR.size
      replace xg := Nat.lt_of_lt_of_le xg hR.size
      replace e1 := hR.cell e1
      replace x0 := hR.cell x0
      replace x1 := hR.cell x1
      replace x2 := hR.cell x2
      replace x3 := hR.cell x3
      replace x4 := hR.cell x4
      clear hcR hfR hzR e0 hR
      generalize wR = w2 at *
      go_upto_region 7 with fail
      refine wp_region_free 7 [.pointer (some ⟨a, 0, none⟩)] (by kernel_rfl) (by kernel_rfl) (by kernel_rfl) (by kernel_rfl) (by kernel_rfl) ?_
      dsimp only [List.take, List.drop, List.length_cons, List.length_nil, Nat.reduceAdd]
      iterate 1
        refine StairsC.step ?_ ?_
        · intro x wR hR hd K hK
          simp only [Act.put, List.setIfInBounds_toArray, List.set_cons_zero, List.set_cons_succ, Say.ok] at hK ⊢
          clear hd
          change Hid _ at hK
          obtain ⟨hcR, hfR, hzR⟩ := nwc hR
          first | (refine wanted_yes ?_ ?_; rfl) | (refine wanted_no ?_ ?_; rfl)
          go_wp2_with (first | fail)
          all_goals (refine hK.out _ _ ?_ ?_ <;> first | (solve | (repeat (first | assumption | exact Nw.refl _ | refine Nw.alloc ?_ _ | refine Nw.drew ?_ | refine Nw.drewN2 ?_ _ | (refine Nw.trans ?_ (by assumption))))) | exact rfl)
        try simp only [Act.put, List.setIfInBounds_toArray, List.set_cons_zero, List.set_cons_succ]
      refine StairsC.start ?_
      try simp only [List.nil_append, List.cons_append]
      iterate 5
        refine Stairs.is ?_ ?_ ?_
        rotate_left 1
        · intro x wR hR hd K hK
          simp only [Act.put, List.setIfInBounds_toArray, List.set_cons_zero, List.set_cons_succ, Say.ok] at hK ⊢
          clear hd
          change Hid _ at hK
          obtain ⟨hcR, hfR, hzR⟩ := nwc hR
          first | (refine wanted_yes ?_ ?_; rfl) | (refine wanted_no ?_ ?_; rfl)
          go_wp2_with (first | fail)
          all_goals (refine hK.out _ _ ?_ ?_ <;> first | (solve | (repeat (first | assumption | exact Nw.refl _ | refine Nw.alloc ?_ _ | refine Nw.drew ?_ | refine Nw.drewN2 ?_ _ | (refine Nw.trans ?_ (by assumption))))) | exact rfl)
        try simp only [Act.put, List.setIfInBounds_toArray, List.set_cons_zero, List.set_cons_succ]
      iterate 1
        refine Stairs.that (OneE (.slice q1 n1 d1, .slice q2 n2 d2, .slice q3 n3 d3) (new_ s v x_ e)) (by first | assumption | simp) ?_ ?_
        · intro x wR hR hd K hK
          simp only [Act.put, List.setIfInBounds_toArray, List.set_cons_zero, List.set_cons_succ, Say.ok] at hK ⊢
          clear hd
          change Hid _ at hK
          obtain ⟨hcR, hfR, hzR⟩ := nwc hR
          first | (refine wanted_yes ?_ ?_; rfl) | (refine wanted_no ?_ ?_; rfl)
          go_wp2_with (first | fail)
          all_goals (refine hK.out _ _ ?_ ?_ <;> first | (solve | (repeat (first | assumption | exact Nw.refl _ | refine Nw.alloc ?_ _ | refine Nw.drew ?_ | refine Nw.drewN2 ?_ _ | (refine Nw.trans ?_ (by assumption))))) | exact rfl | exact one_new _ (.slice q1 n1 d1, .slice q2 n2 d2, .slice q3 n3 d3) (new_ s v x_ e) _)
        try simp only [Act.put, List.setIfInBounds_toArray, List.set_cons_zero, List.set_cons_succ, List.length_nil, List.length_cons, List.nil_append, List.cons_append, Nat.reduceAdd]
      refine Stairs.nil ?_
      intro x wR hR hx cR hcR2 yR
      have h6 := hx 6 (by decide)
      simp only [sayAt, Say.ok] at h6
      clear hx
      obtain ⟨hcR, hfR, hzR⟩ := nwc hR
      obtain ⟨g9, e9, hcs9⟩ := h6
      rw [e9]
      replace hm1 := hm1.nw hR
      replace hw1 := hw1.trans hR
      replace HB1 := hid (HB1.out.nw hR)
      have hBw : B ≤ wR.heap.size := Nat.le_trans hm1.ge (Nat.le_of_lt hm1.lt)
      have hown1 := hm1.row.own
      have hc3 : cR = 0 ∨ cR = 1 := by omega
      clear hcR2 e1 x0 x1 x2 x3 x4 ga1 xg
      rcases hc3 with rfl | rfl
      all_goals
        simp only [opsAt, rest, refill, List.range', Nat.reduceSub, Nat.reduceAdd, List.length_cons, List.length_nil, List.cons_append, List.nil_append, List.filterMap_cons, List.filterMap_nil, List.getElem?_cons_zero, List.getElem?_cons_succ, List.foldl_cons, List.foldl_nil, fill, Act.put, List.setIfInBounds_toArray, List.set_cons_zero, List.set_cons_succ]
        show wpList _ _ _ (_ :: _) _ _
        clear hcR hfR hzR
        go_wp2_with (first
          | (at_builtin; refine appat rfl _ _ _ rfl _ _ _ _ Try.underlying74 info_entry rfl (by decide) (by decide) hBw hown1 rfl rfl (ent_len _ _) hcs9 (by simp [Value.oneCell', ent]) ?_ ?_; rotate_left; omega; intro v2 w2 hown2 hg2 hat2; obtain ⟨g2, cap2, rfl⟩ := row_slice hown2 (Nat.succ_pos _); obtain ⟨hmd2, hb2⟩ := app_keeps (by decide) hm1.blk hown1 hg2; have f1 := heap_frozen hb2 1; have k1 := heap_cell hb2 1; have ga2 := lt_of_heap hb2; simp only [List.getElem?_toArray, List.getElem?_cons_succ, List.getElem?_cons_zero] at k1)
          | fail)
        ((try simp only [Exit.inBlock, Exit.then]); refine bodyPost_ret (results_none rfl _ _ _) rfl ?_)
        rw [HG.out]
        rw [HG.out] at HOK
        exact ⟨rfl, app_mo hP hm1 hw1 HB1.out hown2 hg2 hat2 HOK.out⟩
    · have hlen : m.l.length = m.room := by have := hm.ok.len; omega
      have HG := hid (show putM m s v x_ e = ⟨m.room, (clk m.room m.l.length m.l m.hand).1.set (clk m.room m.l.length m.l m.hand).2 (new_ s v x_ e), ((clk m.room m.l.length m.l m.hand).2 + 1) % m.room⟩ from (if_neg hf).trans (if_neg hr))
      have hdr : decide ((m.l.length : Int) < (m.room : Int)) = false := decide_eq_false (by omega)
      have hdrn : decide (m.l.length < m.room) = false := decide_eq_false hr
      have hr1 := hm.ok.r1
      have hr0 := hm.ok.r0
      have HL := hid hlen
      clear hf hr hlen
      go_upto_region 6 with (first
        | (go_at_call 50; refine (HFI.out _ hnS).mono ?_; rintro en w1 ⟨rfl, hn1⟩)
        | fail)
      have hw1 := hnS.trans hn1
      have hm1 := hm.nw hw1
      have HB1 := hid (HB.out.nw hn1)
      have ga1 : a < w1.heap.size := hm1.lt
      have e0 := heap_cell hm1.blk 0
      have e1 := heap_cell hm1.blk 1
      simp only [List.getElem?_toArray, List.getElem?_cons_succ, List.getElem?_cons_zero] at e0 e1
      clear HFI HB hnS hn1
      refine wp_region_stairs (by kernel_rfl) (by kernel_rfl) (by kernel_rfl) ?_
      iterate 11
        refine Stairs.is ?_ ?_ ?_
        rotate_left 1
        · intro x wR hR hd K hK
          simp only [Act.put, List.setIfInBounds_toArray, List.set_cons_zero, List.set_cons_succ, Nat.reduceAdd, List.length_nil, List.length_cons, List.nil_append, List.cons_append, Say.ok] at hK ⊢
          clear hd
          change Hid _ at hK
          obtain ⟨hcR, hfR, hzR⟩ := nwc hR
          first | (refine wanted_yes ?_ ?_; rfl) | (refine wanted_no ?_ ?_; rfl)
          go_wp2_with (first | fail)
          all_goals (refine hK.out _ _ ?_ ?_ <;> first | (solve | (repeat (first | assumption | exact Nw.refl _ | refine Nw.alloc ?_ _ | refine Nw.drew ?_ | refine Nw.drewN2 ?_ _ | (refine Nw.trans ?_ (by assumption))))) | exact rfl)
        try simp only [Act.put, List.setIfInBounds_toArray, List.set_cons_zero, List.set_cons_succ, Nat.reduceAdd, List.length_nil, List.length_cons, List.nil_append, List.cons_append]
      refine Stairs.nil ?_
      intro x wR hR hx
      clear hx
      obtain ⟨hcR, hfR, hzR⟩ := nwc hR
      replace hm1 := hm1.nw hR
      replace hw1 := hw1.trans hR
      replace HB1 := hid (HB1.out.nw hR)
      clear hcR hfR hzR e0 e1 ga1 hR
      generalize wR = w2 at *
      obtain ⟨g, cap', hp⟩ := row_slice hm1.row.own (by have := HL.out; omega)
      simp only [Value.slice.injEq] at hp
      obtain ⟨rfl, _, rfl⟩ := hp
      have hgw : g < w.heap.size := hP g (hm1.row.mine g rfl)
      go_upto_region 8 with fail
      go_loopw [] (fun wr => ∃ l' h' f', clk m.room m.l.length m.l m.hand = clk m.room f' l' h' ∧ marks l' ≤ f' ∧ l'.length = m.l.length ∧ MI wr P B a (.slice (some ⟨g, 0, none⟩) m.l.length cap) f ⟨m.room, l', h'⟩ ∧ Mods (fun k => k = a ∨ k = g) w2 wr) (fun wr => MW wr g m.l.length)
      case atStart => exact ⟨m.l, m.hand, m.l.length, rfl, marks_le _, rfl, hm1, Mods.refl _ _⟩
      case round =>
        obtain ⟨l', h', f', hck, hmk, hl', hmi, hmd⟩ := hrel
        have hh' : h' < m.room := hmi.ok.hand
        have hh2 : h' < l'.length := by have := HL.out; omega
        have hmw := mw_marks hmi.row hl'.symm
        have hh3 : h' < m.l.length := by omega
        have hdl : decide ((m.l.length : Int) ≤ (h' : Int)) = false := decide_eq_false (by omega)
        obtain ⟨_, _, h9, _, _, _, hc2⟩ := row_open hmi.row
        simp only [Value.slice.injEq] at h9
        obtain ⟨rfl, h9b, rfl⟩ := h9
        clear h9b
        obtain ⟨_, e9, c0, c1, c2, c3, c4⟩ := hc2 h' hh2
        cases e9
        change wr.cell? ⟨g, h' * 5 + 4, none⟩ = some (.bool (at_ l' h').k) at c4
        clear hc2
        have gg := World.block_lt_of_cell? wr _ c4
        simp only at gg
        have ga1 : a < wr.heap.size := hmi.lt
        have e1 := heap_cell hmi.blk 1
        have e2 := heap_cell hmi.blk 2
        simp only [List.getElem?_toArray, List.getElem?_cons_succ, List.getElem?_cons_zero] at e1 e2
        have HCK := hid hck
        have HL' := hid hl'
        clear hck hl'
        go_upto_region 8 with fail
        cases hk : (at_ l' h').k with
        | true =>
          rw [hk] at c4
          refine wp_region_stairs (by kernel_rfl) (by kernel_rfl) (by kernel_rfl) ?_
          iterate 11
            refine Stairs.is ?_ ?_ ?_
            rotate_left 1
            · intro x wR hR hd K hK
              simp only [Act.put, List.setIfInBounds_toArray, List.set_cons_zero, List.set_cons_succ, Nat.reduceAdd, List.length_nil, List.length_cons, List.nil_append, List.cons_append, Say.ok] at hK ⊢
              clear hd
              change Hid _ at hK
              obtain ⟨hcR, hfR, hzR⟩ := nwc hR
              first | (refine wanted_yes ?_ ?_; rfl) | (refine wanted_no ?_ ?_; rfl)
              go_wp2_with (first | fail)
              all_goals (refine hK.out _ _ ?_ ?_ <;> first | (solve | (repeat (first | assumption | exact Nw.refl _ | refine Nw.alloc ?_ _ | refine Nw.drew ?_ | refine Nw.drewN2 ?_ _ | (refine Nw.trans ?_ (by assumption))))) | exact rfl)
            try simp only [Act.put, List.setIfInBounds_toArray, List.set_cons_zero, List.set_cons_succ, Nat.reduceAdd, List.length_nil, List.length_cons, List.nil_append, List.cons_append]
          refine Stairs.nil ?_
          intro x wR hR hx
          clear hx
          obtain ⟨hcR, hfR, hzR⟩ := nwc hR
          clear c0 c1 c2 c3
          replace c4 := hR.cell c4
          replace e1 := hR.cell e1
          replace e2 := hR.cell e2
          replace gg := Nat.lt_of_lt_of_le gg hR.size
          replace ga1 := Nat.lt_of_lt_of_le ga1 hR.size
          replace hmi := hmi.nw hR
          replace hmd := hmd.nw hR
          have z4 := row_frozen hmi.row (h' * 5 + 4)
          clear hcR hfR hzR
          go_upto_region 9 with fail
          go_region
          have hm3 := (hmi.mark HL'.out.symm hh2 false).nw (show Nw _ (wR.setCell ⟨g, h' * 5 + 4, none⟩ (.bool false)).drew from (Nw.refl _).drew)
          have hd3 := (hmd.trans ((mods_cell wR g (h' * 5 + 4) (.bool false)).mono (fun k e => Or.inr e))).drew
          clear hmi hmd c4 e1 e2 gg ga1 z4 hR
          generalize (wR.setCell ⟨g, h' * 5 + 4, none⟩ (.bool false)).drew = w3 at *
          have HON := hid (on_c a m.room h' _ w3 hm3.blk hr0 hr1 hh')
          go_wp2_with (first
            | (go_at_call 51; refine HON.out.mono ?_; rintro en w4 ⟨rfl, hb4, hd4⟩)
            | fail)
          have hm4 := hm3.hand hd4 hb4 (Nat.mod_lt _ hr0)
          have hms := marks_set l' h' hh2 hk
          have hmw4 := mw_marks hm4.row (by show _ = (l'.set _ _).length; rw [List.length_set]; exact HL'.out.symm)
          have hf1 : 1 ≤ f' := Nat.le_trans (by rw [← hms]; exact Nat.le_add_left 1 _) hmk
          obtain ⟨f1, rfl⟩ : ∃ f1, f' = f1 + 1 := ⟨f' - 1, by clear hmk hms hmw hmw4; omega⟩
          have hmk2 : marks (l'.set h' (mk1 (at_ l' h') false)) ≤ f1 := Nat.le_of_succ_le_succ (by rw [← hms] at hmk; exact hmk)
          go_roundw
          case rel => exact ⟨_, _, f1, HCK.out.trans (clk_step hk), hmk2, List.length_set.trans HL'.out, hm4, hd3.trans (hd4.mono fun k e => Or.inl e)⟩
          case measure => rw [hmw, hmw4, ← hms]; exact Nat.lt_succ_self _
        | false =>
          rw [hk] at c4
          have HG2 := hid (show putM m s v x_ e = ⟨m.room, l'.set h' (new_ s v x_ e), (h' + 1) % m.room⟩ by rw [HG.out, HCK.out, clk_stop hk])
          refine wp_region_stairs (by kernel_rfl) (by kernel_rfl) (by kernel_rfl) ?_
          iterate 11
            refine Stairs.is ?_ ?_ ?_
            rotate_left 1
            · intro x wR hR hd K hK
              simp only [Act.put, List.setIfInBounds_toArray, List.set_cons_zero, List.set_cons_succ, Nat.reduceAdd, List.length_nil, List.length_cons, List.nil_append, List.cons_append, Say.ok] at hK ⊢
              clear hd
              change Hid _ at hK
              obtain ⟨hcR, hfR, hzR⟩ := nwc hR
              first | (refine wanted_yes ?_ ?_; rfl) | (refine wanted_no ?_ ?_; rfl)
              go_wp2_with (first | fail)
              all_goals (refine hK.out _ _ ?_ ?_ <;> first | (solve | (repeat (first | assumption | exact Nw.refl _ | refine Nw.alloc ?_ _ | refine Nw.drew ?_ | refine Nw.drewN2 ?_ _ | (refine Nw.trans ?_ (by assumption))))) | exact rfl)
            try simp only [Act.put, List.setIfInBounds_toArray, List.set_cons_zero, List.set_cons_succ, Nat.reduceAdd, List.length_nil, List.length_cons, List.nil_append, List.cons_append]
          refine Stairs.nil ?_
          intro x wR hR hx
          clear hx
          obtain ⟨hcR, hfR, hzR⟩ := nwc hR
          clear c0 c1 c2 c3 c4
          replace hmi := hmi.nw hR
          replace hmd := hmd.nw hR
          replace HB1 := hid ((HB1.out.mods hmd (fun k q => by rcases q with q | q <;> omega)))
          obtain ⟨_, _, h9, _, _, _, hc2⟩ := row_open hmi.row
          simp only [Value.slice.injEq] at h9
          obtain ⟨rfl, h9b, rfl⟩ := h9
          clear h9b
          obtain ⟨_, e9, c0, c1, c2, c3, c4⟩ := hc2 h' hh2
          cases e9
          clear hc2
          obtain ⟨⟨y1, y2, y3, _⟩, ⟨y4, y5, y6, _⟩, y7, y8, y9, _⟩ := And.intro (hmi.row.sets h' hh2).1.open (And.intro (hmi.row.sets h' hh2).2.1.open (hmi.row.sets h' hh2).2.2.open)
          rw [y3] at c0
          rw [y6] at c1
          rw [y9] at c2
          have z0 := row_frozen hmi.row (h' * 5)
          have z1 := row_frozen hmi.row (h' * 5 + 1)
          have z2 := row_frozen hmi.row (h' * 5 + 2)
          have z3 := row_frozen hmi.row (h' * 5 + 3)
          have z4 := row_frozen hmi.row (h' * 5 + 4)
          have x0 := heap_cell HB1.out.blk 0
          have x1 := heap_cell HB1.out.blk 1
          have x2 := heap_cell HB1.out.blk 2
          have x3 := heap_cell HB1.out.blk 3
          have x4 := heap_cell HB1.out.blk 4
          have xg := lt_of_heap HB1.out.blk
          simp only [List.getElem?_toArray, List.getElem?_cons_succ, List.getElem?_cons_zero, new_] at x0 x1 x2 x3 x4
          replace e1 := hR.cell e1
          replace e2 := hR.cell e2
          replace gg := Nat.lt_of_lt_of_le gg hR.size
          replace ga1 := Nat.lt_of_lt_of_le ga1 hR.size
          clear y3 y6 y9 hcR hfR hzR hR
          generalize wR = w3 at *
          go_upto_region 11 with fail
          go_region
          change Exit.then _ _ _ _ (st5 w3 g (h' * 5) (.slice q1 n1 d1) (.slice q2 n2 d2) (.slice q3 n3 d3) (.bool e) (.bool true)).drew
          have hm5 := (put_mi hP hmi HL'.out.symm HB1.out (new_ok (e := e) ls lv lx) hh2).nw (show Nw _ (st5 w3 g (h' * 5) (.slice q1 n1 d1) (.slice q2 n2 d2) (.slice q3 n3 d3) (.bool e) (.bool true)).drew from (Nw.refl _).drew)
          have hd5 := (hmd.trans ((st5_mods w3 g (h' * 5) (.slice q1 n1 d1) (.slice q2 n2 d2) (.slice q3 n3 d3) (.bool e) (.bool true)).mono (fun k e => Or.inr e))).drew
          clear z0 z1 z2 z3 z4 x0 x1 x2 x3 x4 xg c0 c1 c2 c3 c4 gg ga1 e1 e2 hmi hmd
          generalize (st5 w3 g (h' * 5) (.slice q1 n1 d1) (.slice q2 n2 d2) (.slice q3 n3 d3) (.bool e) (.bool true)).drew = w5 at *
          have HON := hid (on_c a m.room h' _ w5 hm5.blk hr0 hr1 hh')
          go_wp2_with (first
            | (go_at_call 51; refine HON.out.mono ?_; rintro en w6 ⟨rfl, hb6, hd6⟩)
            | fail)
          ((try simp only [Exit.inBlock, Exit.then]); refine bodyPost_end (results_none rfl _ _ _) rfl ?_)
          rw [HG2.out]
          have hm6 := hm5.hand hd6 hb6 (Nat.mod_lt _ hr0)
          exact ⟨rfl, MO.same' hP hm6 rfl ((hw1.mods _).trans ((hd5.trans (hd6.mono fun k e => Or.inl e)).mono (fun k q => q.imp_right fun e => by rw [e]; rfl)))⟩
end Mm
end Go.Proofs.Ythellicimicieaa
