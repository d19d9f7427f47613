/- The contracts of copied and Cut. No condition but lengths. -/
import Derived.Test.YtjelbfodkacipaaTrF
import Derived.Test.YtjelbfodkacipaaSeqT
set_option linter.unusedSimpArgs false
set_option linter.unusedVariables false
namespace Go.Proofs.Ytjelbfodkacipaa
open Go.ChangeShapes Go.WideShapes Go.ChangeAt Go.RowKit
namespace Tr
open Go.Proofs.Ytjelbfodkacipaa.Lx (isIn nameB strs_open strs_cell contains_c)
open Go.Proofs.Ytjelbfodkacipaa.Rec (rises i64s_open i64_cell)
/-! ### An event's way into a row -/
def CloneS (B : Nat) (l : List Int) : Says := fun w u => Own w B 3 u (i64s l)
def EvS (B : Nat) (t : Int) (l : List Int) : Says := fun w a => ∃ u, a = .agg #[.int .u64 t, u] ∧ CloneS B l w u
def OneS (B : Nat) (t : Int) (l : List Int) : Says := fun w s => ∃ g u, s = .slice (some ⟨g, 0, none⟩) 1 1 ∧ Cells w (some ⟨g, 0, none⟩) [.int .u64 t, u] ∧ CloneS B l w u
theorem CloneS.stab (B : Nat) (l : List Int) : Stab (CloneS B l) := fun _ _ _ h hn => Own.nw h hn
theorem EvS.stab (B : Nat) (t : Int) (l : List Int) : Stab (EvS B t l) := fun _ _ _ ⟨u, e, h⟩ hn => ⟨u, e, Own.nw h hn⟩
theorem OneS.stab (B : Nat) (t : Int) (l : List Int) : Stab (OneS B t l) := fun _ _ _ ⟨g, u, e, h1, h2⟩ hn => ⟨g, u, e, h1.nw hn, Own.nw h2 hn⟩
theorem CloneS.one {B : Nat} {l : List Int} {w : World} {u : Value} (h : CloneS B l w u) : u.oneCell' = true := by
  rcases h.2 with ⟨rfl, _⟩ | ⟨g, cap, cur, rfl, _⟩ <;> rfl
theorem take_snoc (es : Es) (k : Nat) (h : k < es.length) : es.take (k + 1) = es.take k ++ [(tm es k, ids es k)] := by
  rw [List.take_add_one, List.getElem?_eq_getElem h]
  congr 1
  simp [tm, ids, List.getD_eq_getElem?_getD, h]
theorem ints_shape {w : World} {B : Nat} {v : Value} {l : List Int} (h : CloneS B l w v) : ∃ q c, v = .slice q l.length c := by
  obtain ⟨q, c, e, _⟩ := i64s_open (Own.sl h)
  exact ⟨q, c, e⟩
/-! ### Blocks apart -/
theorem Sl.apart {w : World} {v : Value} {vs : List Value} {g : Nat} {a b : Value} {e : TypeId} {fr : Nat × Nat} (h : Sl w v vs) (hg : w.heap[g]? = some (.cells #[a, b] e fr)) (hne : ∀ x ∈ vs, x ≠ a ∧ x ≠ b) :
    vs ≠ [] → ∀ k, v.ownBlock = some k → k ≠ g := by
  intro h0 k hk e1
  subst e1
  obtain ⟨p, cap, rfl, h1, h2, h3, h4⟩ := h
  have hl : 0 < vs.length := by cases vs with | nil => exact absurd rfl h0 | cons x r => simp
  obtain ⟨b1, o1, e1, hc⟩ := h4 0 hl
  subst e1
  simp only [Value.ownBlock, Option.some.injEq] at hk
  subst hk
  have hx := hne vs[0] (List.getElem_mem hl)
  rw [heap_cell hg] at hc
  match o1, hc with
  | 0, hc => simp at hc; exact hx.1 hc.symm
  | 1, hc => simp at hc; exact hx.2 hc.symm
  | n + 2, hc => simp at hc
theorem i64s_not {l : List Int} {a b : Value} (ha : ∀ z, Value.int .i64 z ≠ a) (hb : ∀ z, Value.int .i64 z ≠ b) : ∀ x ∈ i64s l, x ≠ a ∧ x ≠ b := by
  intro x hx
  obtain ⟨z, _, rfl⟩ := List.mem_map.1 hx
  exact ⟨ha z, hb z⟩
theorem EvOwn.mods {S : Nat → Prop} {w w' : World} {B : Nat} {v : Value} {es : Es} (h : EvOwn w B v es) (hm : Mods S w w') (hB : ∀ k, B ≤ k → ¬ S k) (hi : ∀ (u : Value) (m : List Int), Sl w u (i64s m) → m ≠ [] → ∀ k, u.ownBlock = some k → ¬ S k) : EvOwn w' B v es := by
  obtain ⟨vs, h1, h2, h3⟩ := h
  refine ⟨vs, h1, ?_, fun i hi2 => ⟨?_, (h3 i hi2).2⟩⟩
  · refine ⟨h2.1, ?_⟩
    rcases h2.2 with h4 | ⟨g, cap, cur, hv, hg, hh, r⟩
    · exact Or.inl h4
    · exact Or.inr ⟨g, cap, cur, hv, hg, hm.heap hh (hB g hg), r⟩
  · exact Sl.mods (h3 i hi2).1 hm fun h0 => hi _ _ (h3 i hi2).1 (i64s_ne h0)
/-- A cell of another block is written. -/
theorem EvOwn.set {w : World} {B g j : Nat} {v x : Value} {es : Es} {a b : Value} {e : TypeId} {fr : Nat × Nat} (h : EvOwn w B v es) (hgB : g < B) (hg : w.heap[g]? = some (.cells #[a, b] e fr)) (ha : ∀ z, Value.int .i64 z ≠ a) (hb : ∀ z, Value.int .i64 z ≠ b) :
    EvOwn (w.setCell ⟨g, j, none⟩ x) B v es :=
  h.mods (S := fun k => k = g) (Mods.setCell (Mods.refl (fun k => k = g) w) (p := ⟨g, j, none⟩) rfl x) (fun k hk e => by omega) fun u m hu h0 k hk => Sl.apart hu hg (i64s_not ha hb) (by intro e; apply h0; cases m with | nil => rfl | cons y r => simp [i64s] at e) k hk
theorem Sl.set2 {w : World} {g j : Nat} {v x : Value} {vs : List Value} {a b : Value} {e : TypeId} {fr : Nat × Nat} (h : Sl w v vs) (hg : w.heap[g]? = some (.cells #[a, b] e fr)) (hne : ∀ x ∈ vs, x ≠ a ∧ x ≠ b) : Sl (w.setCell ⟨g, j, none⟩ x) v vs :=
  Sl.mods h (S := fun k => k = g) (Mods.setCell (Mods.refl (fun k => k = g) w) (p := ⟨g, j, none⟩) rfl x) fun h0 k hk => Sl.apart h hg hne h0 k hk
theorem strs_not {l : List ByteArray} {p q : Option Addr} {n m c d : Nat} : ∀ x ∈ Lx.strs l, x ≠ .slice p n c ∧ x ≠ .slice q m d := by
  intro x hx
  obtain ⟨z, _, rfl⟩ := List.mem_map.1 hx
  exact ⟨nofun, nofun⟩
theorem Mods.grown {S : Nat → Prop} {a b c : World} {row : Option Nat} (h : Mods S a b) (hg : b.grownBy c row) (hr : ∀ k, row = some k → a.heap.size ≤ k) : Mods S a c :=
  ⟨hg.os.trans h.os, hg.tape.trans h.tape, hg.output.trans h.output, Nat.le_trans h.size hg.size, fun k hk hs => (hg.block k (Nat.lt_of_lt_of_le hk h.size) (fun e => by have := hr k e.symm; omega)).trans (h.block k hk hs)⟩
/-- A trace that is being filled (block g): its names, the row of its events, which is of the call's own. -/
def CpSt (wL : World) (g : Nat) (vn v : Value) (es : Es) (wr : World) : Prop := wr.heap[g]? = some (.cells #[vn, v] 26 (0, 0)) ∧ EvOwn wr wL.heap.size v es ∧ Mods (· = g) wL wr
theorem CpSt.nw {wL w w' : World} {g : Nat} {vn v : Value} {es : Es} (h : CpSt wL g vn v es w) (hn : Nw w w') : CpSt wL g vn v es w' := ⟨hn.heap h.1, h.2.1.nw hn, h.2.2.nw hn⟩
theorem EvOwn.shape {w : World} {B n : Nat} {v : Value} {es : Es} (h : EvOwn w B v es) (hn : es.length = n) : ∃ q c, v = .slice q n c := by
  subst hn
  obtain ⟨p, cap, e, _⟩ := h.evs
  exact ⟨p, cap, e⟩
theorem CpSt.step {wL wz wR w2 : World} {g n : Nat} {p : Option Addr} {m c : Nat} {v v2 u : Value} {es : Es} {vs : List Value} {t : Int} {l : List Int} (hz : CpSt wL g (.slice p m c) v es wz) (hR : Nw wz wR) (hg : g < wL.heap.size) (hl : es.length = n)
    (h1 : vs.length = es.length) (hrow : wz.ownsRow wL.heap.size 39 2 v es.length (evc es vs)) (h3 : ∀ i, i < es.length → Sl wz (vs.getD i undef) (i64s (ids es i)) ∧ (ids es i ≠ [] → ∀ k, (vs.getD i undef).ownBlock = some k → v.ownBlock ≠ some k))
    (hu : CloneS wz.heap.size l wR u) (ho : w2.ownsRow wL.heap.size 39 2 v2 (es.length + 1) (evc es vs ++ [.int .u64 t, u])) (hgr : wR.grownBy w2 v.ownBlock) (hat : v2.ownBlock = v.ownBlock ∨ v2.ownBlock = some wR.heap.size) :
    (∃ q d, v2 = .slice q (n + 1) d) ∧ w2.heap[g]? = some (.cells #[.slice p m c, v] 26 (0, 0)) ∧ CpSt wL g (.slice p m c) v2 (es ++ [(t, l)]) (w2.setCell ⟨g, 1, none⟩ v2) := by
  have hev := EvOwn.add h1 (fun i hi => ⟨(h3 i hi).1.nw hR, (h3 i hi).2⟩) (Own.sl hu) (fun _ => own_apart hrow hu) ho hgr hat
  obtain ⟨q0, c0, rfl⟩ := hz.2.1.shape hl
  have hrow2 : ∀ k, (Value.slice q0 n c0).ownBlock = some k → wL.heap.size ≤ k := fun k hk => (World.ownsRow.lt hrow k hk).1
  have hy : w2.heap[g]? = some (.cells #[.slice p m c, .slice q0 n c0] 26 (0, 0)) := by
    have h5 := hR.heap hz.1
    rw [hgr.block g (lt_of_heap h5) (fun e => by have := hrow2 g e.symm; omega)]
    exact h5
  refine ⟨hev.shape (by simp [hl]), hy, heap_set hy 1 v2, hev.set hg hy nofun nofun, ?_⟩
  exact Mods.setCell (Mods.grown (hz.2.2.nw hR) hgr hrow2) (p := ⟨g, 1, none⟩) rfl v2
structure Small (t : T) : Prop where
  n : t.names.length ≤ 1000000000
  e : t.evs.length ≤ 1000000000
  i : ∀ i, i < t.evs.length → (ids t.evs i).length ≤ 1000000000
  s : ∀ s ∈ t.names, s.size ≤ 1000000000
theorem strs_shape {w : World} {B : Nat} {v : Value} {l : List ByteArray} (h : Own w B 9 v (Lx.strs l)) : ∃ p c, v = .slice p l.length c := by
  obtain ⟨p, c, e, _⟩ := strs_open h.sl
  exact ⟨p, c, e⟩
theorem lt_alloc (w : World) (o : Obj) : w.heap.size < (w.alloc o).heap.size := by
  show w.heap.size < (w.heap.push _).size
  rw [Array.size_push]; omega
/-- Two new blocks of two cells each. -/
theorem boxes (w : World) (a b c d : Value) (e f : TypeId) : ((w.alloc (.cells #[a, b] e)).alloc (.cells #[c, d] f)).cell? ⟨w.heap.size, 0, none⟩ = some a ∧ ((w.alloc (.cells #[a, b] e)).alloc (.cells #[c, d] f)).cell? ⟨w.heap.size, 1, none⟩ = some b ∧
    ((w.alloc (.cells #[a, b] e)).alloc (.cells #[c, d] f)).heap[w.heap.size + 1]? = some (.cells #[c, d] f (0, 0)) ∧ Nw w ((w.alloc (.cells #[a, b] e)).alloc (.cells #[c, d] f)) ∧ ((w.alloc (.cells #[a, b] e)).alloc (.cells #[c, d] f)).heap.size = w.heap.size + 2 := by
  have hs : (w.alloc (.cells #[a, b] e)).heap.size = w.heap.size + 1 := by
    show (w.heap.push _).size = _
    rw [Array.size_push]
  have hn := (Nw.refl (w.alloc (.cells #[a, b] e))).alloc (.cells #[c, d] f)
  refine ⟨hn.cell (box2 w a b e).1, hn.cell (box2 w a b e).2, ?_, ((Nw.refl w).alloc _).alloc _, by show ((w.heap.push _).push _).size = _; rw [Array.size_push, Array.size_push]⟩
  rw [← hs]
  exact heap_new _ _
set_option maxRecDepth 20000 in
set_option maxHeartbeats 1600000 in
theorem copied_c (vn ve : Value) (t : T) (n : Nat) (w : World) (hvn : Sl w vn (Lx.strs t.names)) (hve : Evs w ve t.evs) (hnl : n ≤ t.evs.length) (hsm : Small t) :
    Calls Try.prog 49 #[.agg #[vn, ve], .int .i64 (n : Int)] w (HandsT w ⟨t.names, t.evs.take n⟩) := by
  obtain ⟨names, es⟩ := t
  obtain ⟨sm1, sm2, sm3, sm4⟩ := hsm
  dsimp only at hvn hve hnl sm1 sm2 sm3 sm4 ⊢
  obtain ⟨pn, capn, rfl, hcapn, hmxn, _, hcn⟩ := strs_open hvn
  obtain ⟨p, cap, rfl, hcap, hmx, hp0, hec⟩ := hve
  unfold maxLen at hmx hmxn
  have HE := hid hec
  have HI := hid sm3
  clear hec hcn sm3 sm4
  go_enter Try.func49, Try.ntmps49
  go_upto_region 1 with fail
  obtain ⟨x0, x1, y4, hn, hz4⟩ := boxes w (.slice pn names.length capn) (.slice p es.length cap) (.slice none 0 0) (.slice none 0 0) 26 26
  generalize ((w.alloc (.cells #[.slice pn names.length capn, .slice p es.length cap] 26)).alloc (.cells #[.slice none 0 0, .slice none 0 0] 26)) = w0 at *
  have hz0 : w.heap.size < w0.heap.size := by omega
  go_wp2_with (first
    | (go_at_call 73; refine (clones_c _ _ _ (hvn.nw (by repeat (first | assumption | exact Nw.refl _ | refine Nw.alloc ?_ _ | refine Nw.drew ?_ | refine Nw.drewN2 ?_ _ | (refine Nw.trans ?_ (by assumption))))) (strs_one _) (by rw [Lx.strs_length]; omega)).mono ?_; rintro e w1 ⟨v1, rfl, hown1, hn1⟩; obtain ⟨q1, c1, rfl⟩ := strs_shape hown1; have x1 := hn1.cell x1; have hz1 : w.heap.size < w1.heap.size := Nat.lt_of_lt_of_le hz0 hn1.size)
    | fail)
  have x1w := x1
  have y5 := heap_new w1 (.cells #[.slice q1 names.length c1, .slice none 0 0] 26)
  have hnL : Nw w0 (w1.alloc (.cells #[.slice q1 names.length c1, .slice none 0 0] 26)) := hn1.alloc _
  have s1 := hown1.sl.nw ((Nw.refl w1).alloc (.cells #[.slice q1 names.length c1, .slice none 0 0] 26))
  have hg5 := lt_alloc w1 (.cells #[.slice q1 names.length c1, .slice none 0 0] 26)
  have hg50 := hn1.size
  clear x1 x1w hown1 hn1
  generalize w1.alloc (.cells #[.slice q1 names.length c1, .slice none 0 0] 26) = wL at *
  generalize w1.heap.size = g5 at *
  go_loopw [7, 17] (fun _ i wr => ∃ (k : Nat) (v : Value), k ≤ n ∧ i = .int .i64 k ∧ CpSt wL g5 (.slice q1 names.length c1) v (es.take k) wr) (fun _ i _ => n - (intOf i).toNat)
  case atStart => exact ⟨0, _, Nat.zero_le _, rfl, y5, EvOwn.nil _ _, Mods.refl _ _⟩
  case round =>
    obtain ⟨k, v, hk, rfl, hst⟩ := hrel
    have hnr : Nw w0 wr := hnL.ofMods hst.2.2 (fun j e => by omega)
    have hnw := hn.trans hnr
    by_cases hlt : k < n
    · have hdk : decide (k < n) = true := decide_eq_true hlt
      have hke : k < es.length := by omega
      obtain ⟨b1, o1, vi, rfl, c0, c1', hsl⟩ := (HE.out.nw hnw) k hke
      obtain ⟨q, c, rfl, hcq, hmq, _, _⟩ := i64s_open hsl
      unfold maxLen at hmq
      have hlen := HI.out k hke
      have HT := hid (take_snoc es k hke)
      have HL := hid (show (es.take k).length = k by rw [List.length_take]; omega)
      generalize ids es k = l at *
      generalize tm es k = tk at *
      generalize es.take k = et at *
      obtain ⟨qv, cv, rfl⟩ := hst.2.1.shape HL.out
      go_upto_region 5 with fail
      have hnz := (Nw.refl wr).alloc (.cells #[.int .u64 tk, .slice q l.length c] 39)
      obtain ⟨z0, z1⟩ := box2 wr (.int .u64 tk) (.slice q l.length c) 39
      have hstz := hst.nw hnz
      clear c0 c1'
      generalize wr.alloc (.cells #[.int .u64 tk, .slice q l.length c] 39) = wz at *
      have e1 := heap_cell hstz.1 1
      simp only [List.getElem?_toArray, List.getElem?_cons_succ, List.getElem?_cons_zero] at e1
      have g1 := World.block_lt_of_cell? wz _ z0
      have g2 := lt_of_heap hstz.1
      simp only at g1
      have st6 := CloneS.stab wz.heap.size l
      have st7 := EvS.stab wz.heap.size tk l
      have st8 := OneS.stab wz.heap.size tk l
      refine wp_region_tail 9 (by kernel_rfl) (by kernel_rfl) (by kernel_rfl) (by kernel_rfl) (by kernel_rfl) ?_
      dsimp only [List.take, List.drop]
      iterate 6
        refine Stairs.is ?_ ?_ ?_
        rotate_left 1
        · intro x wR hR hd K hK
          simp only [Act.put, List.setIfInBounds_toArray, List.set_cons_zero, List.set_cons_succ, Say.ok] at hK ⊢
          clear hd
          change Hid _ at hK
          obtain ⟨hcR, hfR, hzR⟩ := nwc hR
          first | (refine wanted_yes ?_ ?_; rfl) | (refine wanted_no ?_ ?_; rfl)
          go_wp2_with (first | (go_at_call 52; refine (clonei_c _ _ _ (hsl.nw (hnz.trans (by repeat (first | assumption | exact Nw.refl _ | refine Nw.alloc ?_ _ | refine Nw.drew ?_ | refine Nw.drewN2 ?_ _ | (refine Nw.trans ?_ (by assumption)))))) (i64s_one _) (by rw [i64s_length]; omega)).mono ?_; rintro e w5 ⟨u5, rfl, hown5, hn5⟩))
          all_goals (refine hK.out _ _ ?_ ?_ <;> first | (solve | (repeat (first | assumption | exact Nw.refl _ | refine Nw.alloc ?_ _ | refine Nw.drew ?_ | refine Nw.drewN2 ?_ _ | (refine Nw.trans ?_ (by assumption))))) | exact rfl)
        try simp only [Act.put, List.setIfInBounds_toArray, List.set_cons_zero, List.set_cons_succ]
      iterate 1
        refine Stairs.that (CloneS wz.heap.size l) (by first | assumption | simp) ?_ ?_
        · intro x wR hR hd K hK
          simp only [Act.put, List.setIfInBounds_toArray, List.set_cons_zero, List.set_cons_succ, Say.ok] at hK ⊢
          clear hd
          change Hid _ at hK
          obtain ⟨hcR, hfR, hzR⟩ := nwc hR
          first | (refine wanted_yes ?_ ?_; rfl) | (refine wanted_no ?_ ?_; rfl)
          go_wp2_with (first | (go_at_call 52; refine (clonei_c _ _ _ (hsl.nw (hnz.trans (by repeat (first | assumption | exact Nw.refl _ | refine Nw.alloc ?_ _ | refine Nw.drew ?_ | refine Nw.drewN2 ?_ _ | (refine Nw.trans ?_ (by assumption)))))) (i64s_one _) (by rw [i64s_length]; omega)).mono ?_; rintro e w5 ⟨u5, rfl, hown5, hn5⟩))
          all_goals (refine hK.out _ _ ?_ ?_ <;> first | (solve | (repeat (first | assumption | exact Nw.refl _ | refine Nw.alloc ?_ _ | refine Nw.drew ?_ | refine Nw.drewN2 ?_ _ | (refine Nw.trans ?_ (by assumption))))) | exact rfl | exact hown5.mono hR.size)
        try simp only [Act.put, List.setIfInBounds_toArray, List.set_cons_zero, List.set_cons_succ, List.length_nil, List.length_cons, List.nil_append, List.cons_append, Nat.reduceAdd]
      iterate 1
        refine Stairs.that (EvS wz.heap.size tk l) (by first | assumption | simp) ?_ ?_
        · intro x wR hR hd K hK
          simp only [Act.put, List.setIfInBounds_toArray, List.set_cons_zero, List.set_cons_succ, Say.ok] at hK ⊢
          try simp [Region.binds, sayAt, Say.ok] at hd
          change Hid _ at hK
          obtain ⟨hcR, hfR, hzR⟩ := nwc hR
          have hu6 : CloneS wz.heap.size l wR (x 6) := (by first | exact hd | exact hd.2 | exact hd.1); obtain ⟨q6, c6, e6⟩ := ints_shape hu6; rw [e6] at hK hu6 ⊢
          first | (refine wanted_yes ?_ ?_; rfl) | (refine wanted_no ?_ ?_; rfl)
          go_wp2_with (first | (go_at_call 52; refine (clonei_c _ _ _ (hsl.nw (hnz.trans (by repeat (first | assumption | exact Nw.refl _ | refine Nw.alloc ?_ _ | refine Nw.drew ?_ | refine Nw.drewN2 ?_ _ | (refine Nw.trans ?_ (by assumption)))))) (i64s_one _) (by rw [i64s_length]; omega)).mono ?_; rintro e w5 ⟨u5, rfl, hown5, hn5⟩))
          all_goals (refine hK.out _ _ ?_ ?_ <;> first | (solve | (repeat (first | assumption | exact Nw.refl _ | refine Nw.alloc ?_ _ | refine Nw.drew ?_ | refine Nw.drewN2 ?_ _ | (refine Nw.trans ?_ (by assumption))))) | exact rfl | exact ⟨_, rfl, hu6⟩)
        try simp only [Act.put, List.setIfInBounds_toArray, List.set_cons_zero, List.set_cons_succ, List.length_nil, List.length_cons, List.nil_append, List.cons_append, Nat.reduceAdd]
      iterate 1
        refine Stairs.that (OneS wz.heap.size tk l) (by first | assumption | simp) ?_ ?_
        · intro x wR hR hd K hK
          simp only [Act.put, List.setIfInBounds_toArray, List.set_cons_zero, List.set_cons_succ, Say.ok] at hK ⊢
          try simp [Region.binds, sayAt, Say.ok] at hd
          change Hid _ at hK
          obtain ⟨hcR, hfR, hzR⟩ := nwc hR
          obtain ⟨u7, e7, hu7⟩ := hd; obtain ⟨q7, c7, rfl⟩ := ints_shape hu7; rw [e7] at hK ⊢
          first | (refine wanted_yes ?_ ?_; rfl) | (refine wanted_no ?_ ?_; rfl)
          go_wp2_with (first | (go_at_call 52; refine (clonei_c _ _ _ (hsl.nw (hnz.trans (by repeat (first | assumption | exact Nw.refl _ | refine Nw.alloc ?_ _ | refine Nw.drew ?_ | refine Nw.drewN2 ?_ _ | (refine Nw.trans ?_ (by assumption)))))) (i64s_one _) (by rw [i64s_length]; omega)).mono ?_; rintro e w5 ⟨u5, rfl, hown5, hn5⟩))
          all_goals (refine hK.out _ _ ?_ ?_ <;> first | (solve | (repeat (first | assumption | exact Nw.refl _ | refine Nw.alloc ?_ _ | refine Nw.drew ?_ | refine Nw.drewN2 ?_ _ | (refine Nw.trans ?_ (by assumption))))) | exact rfl | exact ⟨_, _, rfl, cells_newAt _ [_, _] _ _ _ rfl, Own.nw hu7 ((Nw.refl _).alloc _)⟩)
        try simp only [Act.put, List.setIfInBounds_toArray, List.set_cons_zero, List.set_cons_succ, List.length_nil, List.length_cons, List.nil_append, List.cons_append, Nat.reduceAdd]
      refine Stairs.nil ?_
      intro x wR hR hx yR
      have h6 := hx 6 (by decide)
      simp only [sayAt, Say.ok] at h6
      have h7 := hx 7 (by decide)
      simp only [sayAt, Say.ok] at h7
      have h8 := hx 8 (by decide)
      simp only [sayAt, Say.ok] at h8
      clear hx
      simp only [fill, Act.put, List.setIfInBounds_toArray, List.set_cons_zero, List.set_cons_succ]
      obtain ⟨hcR, hfR, hzR⟩ := nwc hR
      obtain ⟨g8, u8, e8, hcs8, hu8⟩ := h8
      obtain ⟨q8, c8, rfl⟩ := ints_shape hu8
      rw [e8]
      obtain ⟨vs, hvl, hrow, hall⟩ := hstz.2.1
      have hB : wL.heap.size ≤ wR.heap.size := Nat.le_trans hst.2.2.size (Nat.le_trans hnz.size hR.size)
      go_wp2_with (first
        | (at_builtin; refine appat rfl _ _ _ rfl _ _ _ _ Try.underlying24 info_event rfl (by decide) (by decide) hB (hR.ownsRow hrow) rfl rfl (show [Value.int .u64 tk, Value.slice q8 l.length c8].length = 2 from rfl) hcs8 (by simp [Value.oneCell']) ?_ ?_; rotate_left; (have := HL.out; omega); intro v2 w2 hown2 hg2 hat2; obtain ⟨⟨q9, c9, rfl⟩, y2, hst2⟩ := CpSt.step hstz hR hg5 HL.out hvl hrow hall hu8 hown2 hg2 hat2; have y21 := heap_cell y2 1; have y2f := heap_frozen y2 1; simp only [List.getElem?_toArray, List.getElem?_cons_succ, List.getElem?_cons_zero] at y21)
        | fail)
      go_roundw
      case rel => exact ⟨k + 1, _, by omega, by go_num, by rw [HT.out]; exact hst2⟩
      case measure => simp [intOf]; omega
    · obtain rfl : k = n := by omega
      have hdk : decide (k < k) = false := decide_eq_false (by omega)
      have y4r := hnr.heap y4
      have e0 := heap_cell hst.1 0
      have e1 := heap_cell hst.1 1
      have d0 := heap_cell y4r 0
      have d1 := heap_cell y4r 1
      simp only [List.getElem?_toArray, List.getElem?_cons_succ, List.getElem?_cons_zero] at e0 e1 d0 d1
      have HL := hid (show (es.take k).length = k by rw [List.length_take]; omega)
      generalize es.take k = et at *
      obtain ⟨qv, cv, rfl⟩ := hst.2.1.shape HL.out
      have f0 := heap_frozen y4r 0
      have f1 := heap_frozen y4r 1
      have s1r := Sl.mods s1 hst.2.2 (fun h0 j hj e => by subst e; exact absurd rfl (Sl.apart (s1.nw (Nw.refl _)) y5 strs_not h0 _ hj))
      have hev := hst.2.1
      have hz49 : w.heap.size + 1 < wL.heap.size := by have := hnL.size; omega
      go_wp2
      ((try simp only [Exit.inBlock, Exit.then]); refine bodyPost_ret (results_cell_row rfl _ _ _ _ _ _ _ rfl (heap_set (heap_set y4r 0 (.slice q1 names.length c1)) 1 (.slice qv k cv)) Try.underlying26 rfl (by kernel_rfl)) rfl ?_)
      refine ⟨_, rfl, ⟨_, _, rfl, ?_, ?_⟩, ?_⟩
      · exact Sl.set2 (a := .slice q1 names.length c1) (b := .slice none 0 0) (Sl.set2 s1r y4r strs_not) (heap_set y4r 0 _) strs_not
      · exact (EvOwn.set (a := .slice q1 names.length c1) (b := .slice none 0 0) (EvOwn.set hev hz49 y4r (fun _ => nofun) (fun _ => nofun)) hz49 (heap_set y4r 0 _) (fun _ => nofun) (fun _ => nofun)).evs
      · exact (hnw.setCell (p := ⟨w.heap.size + 1, 0, none⟩) (by simp) _).setCell (p := ⟨w.heap.size + 1, 1, none⟩) (by simp) _
end Tr
end Go.Proofs.Ytjelbfodkacipaa
