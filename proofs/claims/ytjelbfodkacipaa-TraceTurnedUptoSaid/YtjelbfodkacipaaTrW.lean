/- The contract of the law's Copy: a trace of its own, each row of ids in a block of its own. No condition but lengths. -/
import Derived.Test.YtjelbfodkacipaaTrS
import Derived.Test.YtjelbfodkacipaaEvI
set_option linter.unusedSimpArgs false
set_option linter.unusedVariables false
namespace Go.Proofs.Ytjelbfodkacipaa
open Go.ChangeShapes Go.WideShapes Go.ChangeAt Go.RowKit
namespace Tr
open Go.Proofs.Ytjelbfodkacipaa.Lx (isIn nameB strs_open strs_cell contains_c)
open Go.Proofs.Ytjelbfodkacipaa.Rec (rises i64s_open i64_cell)
open Go.Proofs.Ytjelbfodkacipaa.Lg (EvIn_apart row_mods row_lt row_mono)
/-- A row of events, all of it in blocks from B on, each row of ids in a block of its own. -/
def EvAp (w : World) (B : Nat) (v : Value) (es : Es) : Prop :=
  ∃ vs : List Value, vs.length = es.length ∧ w.ownsRow B 39 2 v es.length (evc es vs) ∧ (∀ i, i < es.length → Own w B 3 (vs.getD i undef) (i64s (ids es i))) ∧ ∀ i j, i < j → j < es.length → ∀ k, (vs.getD i undef).ownBlock = some k → (vs.getD j undef).ownBlock ≠ some k
theorem EvAp.own {w : World} {B : Nat} {v : Value} {es : Es} (h : EvAp w B v es) : EvOwn w B v es := by
  obtain ⟨vs, h1, h2, h3, _⟩ := h
  exact ⟨vs, h1, h2, fun i hi => ⟨(h3 i hi).sl, fun _ => EvIn_apart h2 (h3 i hi)⟩⟩
theorem EvAp.evs {w : World} {B : Nat} {v : Value} {es : Es} (h : EvAp w B v es) : Evs w v es := h.own.evs
theorem EvAp.nil (w : World) (B : Nat) : EvAp w B (.slice none 0 0) [] := ⟨[], rfl, World.ownsRow_nil w B _ 2, (fun i h => by cases h), (fun i j _ h => by cases h)⟩
theorem EvAp.nw {w w' : World} {B : Nat} {v : Value} {es : Es} (h : EvAp w B v es) (hn : Nw w w') : EvAp w' B v es := by
  obtain ⟨vs, h1, h2, h3, h4⟩ := h
  exact ⟨vs, h1, hn.ownsRow h2, fun i hi => (h3 i hi).nw hn, h4⟩
theorem EvAp.mono {w : World} {B B' : Nat} {v : Value} {es : Es} (h : EvAp w B v es) (hb : B' ≤ B) : EvAp w B' v es := by
  obtain ⟨vs, h1, h2, h3, h4⟩ := h
  exact ⟨vs, h1, row_mono h2 hb, fun i hi => (h3 i hi).mono hb, h4⟩
theorem EvAp.mods {S : Nat → Prop} {w w' : World} {B : Nat} {v : Value} {es : Es} (h : EvAp w B v es) (hm : Mods S w w') (hS : ∀ k, B ≤ k → k < w.heap.size → ¬ S k) : EvAp w' B v es := by
  obtain ⟨vs, h1, h2, h3, h4⟩ := h
  exact ⟨vs, h1, row_mods h2 hm (fun k hk => hS k (row_lt h2 k hk).1 (row_lt h2 k hk).2), fun i hi => (h3 i hi).modsR hm (fun k hk => hS k (row_lt (h3 i hi) k hk).1 (row_lt (h3 i hi) k hk).2), h4⟩
theorem EvAp.set {w : World} {B g j : Nat} {v x : Value} {es : Es} (h : EvAp w B v es) (hgB : g < B) : EvAp (w.setCell ⟨g, j, none⟩ x) B v es :=
  h.mods (S := fun k => k = g) (Mods.setCell (Mods.refl (fun k => k = g) w) (p := ⟨g, j, none⟩) rfl x) (fun k hk _ e => by omega)
theorem EvAp.shape {w : World} {B n : Nat} {v : Value} {es : Es} (h : EvAp w B v es) (hn : es.length = n) : ∃ q c, v = .slice q n c := h.own.shape hn
def CpAp (wL : World) (g : Nat) (vn v : Value) (es : Es) (wr : World) : Prop := wr.heap[g]? = some (.cells #[vn, v] 26 (0, 0)) ∧ EvAp wr wL.heap.size v es ∧ Mods (· = g) wL wr
theorem CpAp.nw {wL w w' : World} {g : Nat} {vn v : Value} {es : Es} (h : CpAp wL g vn v es w) (hn : Nw w w') : CpAp wL g vn v es w' := ⟨hn.heap h.1, h.2.1.nw hn, h.2.2.nw hn⟩
theorem CpAp.step {wL wz wR w2 : World} {g n : Nat} {p : Option Addr} {m c : Nat} {v v2 u : Value} {es : Es} {vs : List Value} {t : Int} {l : List Int} (hz : CpAp wL g (.slice p m c) v es wz) (hR : Nw wz wR) (hg : g < wL.heap.size) (hl : es.length = n)
    (h1 : vs.length = es.length) (hrow : wz.ownsRow wL.heap.size 39 2 v es.length (evc es vs)) (h3 : ∀ i, i < es.length → Own wz wL.heap.size 3 (vs.getD i undef) (i64s (ids es i)))
    (h4 : ∀ i j, i < j → j < es.length → ∀ k, (vs.getD i undef).ownBlock = some k → (vs.getD j undef).ownBlock ≠ some k)
    (hu : CloneS wz.heap.size l wR u) (ho : w2.ownsRow wL.heap.size 39 2 v2 (es.length + 1) (evc es vs ++ [.int .u64 t, u])) (hgr : wR.grownBy w2 v.ownBlock) (hat : v2.ownBlock = v.ownBlock ∨ v2.ownBlock = some wR.heap.size) :
    (∃ q d, v2 = .slice q (n + 1) d) ∧ w2.heap[g]? = some (.cells #[.slice p m c, v] 26 (0, 0)) ∧ CpAp wL g (.slice p m c) v2 (es ++ [(t, l)]) (w2.setCell ⟨g, 1, none⟩ v2) := by
  have hz0 : CpSt wL g (.slice p m c) v es wz := ⟨hz.1, hz.2.1.own, hz.2.2⟩
  have hst := CpSt.step hz0 hR hg hl h1 hrow (fun i hi => ⟨(h3 i hi).sl, fun _ => EvIn_apart hrow (h3 i hi)⟩) hu ho hgr hat
  refine ⟨hst.1, hst.2.1, hst.2.2.1, ?_, hst.2.2.2.2⟩
  have hmg : Mods (fun k => v.ownBlock = some k) wR w2 := Mods.grownIn (Mods.refl _ wR) hgr (fun k q => Or.inl q)
  have hold : ∀ i, i < es.length → (vs ++ [u]).getD i undef = vs.getD i undef := fun i hi => by
    rw [List.getD_eq_getElem?_getD, List.getElem?_append_left (by omega), ← List.getD_eq_getElem?_getD]
  have hnew : (vs ++ [u]).getD es.length undef = u := by
    rw [List.getD_eq_getElem?_getD, List.getElem?_append_right (by omega), show es.length - vs.length = 0 by omega]; rfl
  have hev : EvAp w2 wL.heap.size v2 (es ++ [(t, l)]) := by
    refine ⟨vs ++ [u], by simp [h1], ?_, fun i hi => ?_, fun i j hij hj k hk => ?_⟩
    · rw [List.length_append, List.length_singleton]
      have e : evc (es ++ [(t, l)]) (vs ++ [u]) = evc es vs ++ [.int .u64 t, u] := by
        unfold evc
        rw [List.zip_append (by omega), List.flatMap_append]
        rfl
      rw [e]; exact ho
    · rw [List.length_append, List.length_singleton] at hi
      by_cases hlt : i < es.length
      · rw [ids_snoc_lt _ _ _ hlt, hold i hlt]
        have hoi := (h3 i hlt).nw hR
        exact hoi.modsR hmg (fun k hk q => EvIn_apart (hR.ownsRow hrow) hoi k hk q)
      · obtain rfl : i = es.length := by omega
        rw [ids_snoc, hnew]
        have hu2 : Own wR wL.heap.size 3 u (i64s l) := Own.mono hu hz.2.2.size
        exact hu2.modsR hmg (fun k hk q => EvIn_apart (hR.ownsRow hrow) hu2 k hk q)
    · rw [List.length_append, List.length_singleton] at hj
      rw [hold i (by omega)] at hk
      by_cases hlt : j < es.length
      · rw [hold j hlt]
        exact h4 i j hij hlt k hk
      · obtain rfl : j = es.length := by omega
        rw [hnew]
        intro e
        have := Own.lt hu k e
        have := (row_lt (h3 i hij) k hk).2
        omega
  exact hev.mods (S := fun k => k = g) (Mods.setCell (Mods.refl (fun k => k = g) w2) (p := ⟨g, 1, none⟩) rfl v2) (fun k hk _ e => by omega)
def Row0I (B : Nat) : Says := fun w v => ∃ g, v = .slice (some ⟨g, 0, none⟩) 0 0 ∧ w.ownsRow B 3 1 (.slice (some ⟨g, 0, none⟩) 0 0) 0 []
theorem Row0I.stab (B : Nat) : Stab (Row0I B) := fun _ _ _ ⟨g, e, h⟩ hn => ⟨g, e, hn.ownsRow h⟩
theorem row0i_new (w : World) (B : Nat) (hB : B ≤ w.heap.size) : Row0I B (w.alloc (.cells #[] 3)) (.slice (some ⟨w.heap.size, 0, none⟩) 0 0) :=
  ⟨_, rfl, rfl, .inr ⟨w.heap.size, 0, #[], rfl, hB, heap_new w _, Nat.le_refl _, Nat.zero_le _, rfl, rfl⟩⟩
/-- What Copy hands back. -/
def HandsCp (w : World) (t : T) (e : Ending) (w' : World) : Prop := ∃ vn ve, e = .returned (.agg #[vn, ve]) ∧ Own w' w.heap.size 9 vn (Lx.strs t.names) ∧ EvAp w' w.heap.size ve t.evs ∧ Nw w w'
set_option maxRecDepth 20000 in
set_option maxHeartbeats 1600000 in
theorem copy_c (vn ve : Value) (t : T) (w : World) (hvn : Sl w vn (Lx.strs t.names)) (hve : Evs w ve t.evs) (hsm : Small t) :
    Calls Try.prog 28 #[.agg #[vn, ve]] w (HandsCp w t) := by
  obtain ⟨names, es⟩ := t
  obtain ⟨sm1, sm2, sm3, sm4⟩ := hsm
  dsimp only at hvn hve sm1 sm2 sm3 sm4 ⊢
  obtain ⟨pn, capn, rfl, hcapn, hmxn, _, hcn⟩ := strs_open hvn
  obtain ⟨p, cap, rfl, hcap, hmx, hp0, hec⟩ := hve
  unfold maxLen at hmx hmxn
  have HE := hid hec
  have HI := hid sm3
  have HVN := hid hvn
  clear hec hcn sm3 sm4 hvn
  go_enter Try.func28, Try.ntmps28
  go_upto_region 1 with fail
  obtain ⟨x0, x1, y4, hn, hz4⟩ := boxes w (.slice pn names.length capn) (.slice p es.length cap) (.slice none 0 0) (.slice none 0 0) 26 26
  generalize ((w.alloc (.cells #[.slice pn names.length capn, .slice p es.length cap] 26)).alloc (.cells #[.slice none 0 0, .slice none 0 0] 26)) = w0 at *
  have hz0 : w.heap.size < w0.heap.size := by omega
  have hr0 : Own (w0.alloc (.cells #[] 9)) w0.heap.size 9 (.slice (some ⟨w.heap.size + 2, 0, none⟩) 0 0) [] := Own.newAt w0 w0.heap.size 9 [] (w.heap.size + 2) 0 hz4.symm rfl (Nat.le_refl _) (by unfold maxLen; simp)
  have hs1a := lt_alloc w0 (.cells #[] 9)
  have hnA : Nw w0 (w0.alloc (.cells #[] 9)) := (Nw.refl w0).alloc _
  go_wp2_with (first
    | (at_builtin; (refine app1g rfl _ _ _ rfl _ _ _ Try.underlying22 info_str rfl (by decide) (Nat.le_of_lt hs1a) hr0 rfl (HVN.out.nw (hn.trans hnA)) rfl (strs_one _) ?_ ?_); rotate_left; (rw [Lx.strs_length]; simp; omega); (intro v1 w1 hown1 hg1 hat1; rw [List.nil_append] at hown1); (have hn1 : Nw w0 w1 := hnA.grown hg1 (fun k hk => (row_lt hr0 k hk).1)); (obtain ⟨q1, c1, rfl⟩ := strs_shape hown1); have x1 := hn1.cell x1; have hz1 : w.heap.size < w1.heap.size := Nat.lt_of_lt_of_le hz0 hn1.size)
    | fail)
  have x1w := x1
  have y5 := heap_new w1 (.cells #[.slice q1 names.length c1, .slice none 0 0] 26)
  have hnL : Nw w0 (w1.alloc (.cells #[.slice q1 names.length c1, .slice none 0 0] 26)) := hn1.alloc _
  have s1 := hown1.nw ((Nw.refl w1).alloc (.cells #[.slice q1 names.length c1, .slice none 0 0] 26))
  have hg5 := lt_alloc w1 (.cells #[.slice q1 names.length c1, .slice none 0 0] 26)
  have hg50 := hn1.size
  have hq1 := fun k hk => (row_lt hown1 k hk).2
  clear x1 x1w hown1 hn1 hg1 hat1 hr0
  generalize w1.alloc (.cells #[.slice q1 names.length c1, .slice none 0 0] 26) = wL at *
  generalize w1.heap.size = g5 at *
  go_loopw [5, 14] (fun _ i wr => ∃ (k : Nat) (v : Value), k ≤ es.length ∧ i = .int .i64 k ∧ CpAp wL g5 (.slice q1 names.length c1) v (es.take k) wr) (fun _ i _ => es.length - (intOf i).toNat)
  case atStart => exact ⟨0, _, Nat.zero_le _, rfl, y5, EvAp.nil _ _, Mods.refl _ _⟩
  case round =>
    obtain ⟨k, v, hk, rfl, hst⟩ := hrel
    have hnr : Nw w0 wr := hnL.ofMods hst.2.2 (fun j e => by omega)
    have hnw := hn.trans hnr
    by_cases hlt : k < es.length
    · have hdk : decide (k < es.length) = true := decide_eq_true hlt
      have hke : k < es.length := by omega
      obtain ⟨b1, o1, vi, rfl, c0, c1', hsl⟩ := (HE.out.nw hnw) k hke
      obtain ⟨q, c, rfl, hcq, hmq, _, hci⟩ := i64s_open hsl
      unfold maxLen at hmq
      have hlen := HI.out k hke
      have HT := hid (take_snoc es k hke)
      have HL := hid (show (es.take k).length = k by rw [List.length_take]; omega)
      generalize ids es k = l at *
      generalize tm es k = tk at *
      generalize es.take k = et at *
      obtain ⟨qv, cv, rfl⟩ := hst.2.1.shape HL.out
      go_upto_region 5 with fail
      have hnz := (Nw.refl wr).alloc (.cells #[.int .u64 tk, .slice q l.length c] 39)
      obtain ⟨z0, z1⟩ := box2 wr (.int .u64 tk) (.slice q l.length c) 39
      have hstz := hst.nw hnz
      clear c0 c1'
      generalize wr.alloc (.cells #[.int .u64 tk, .slice q l.length c] 39) = wz at *
      have e1 := heap_cell hstz.1 1
      simp only [List.getElem?_toArray, List.getElem?_cons_succ, List.getElem?_cons_zero] at e1
      have g1 := World.block_lt_of_cell? wz _ z0
      have g2 := lt_of_heap hstz.1
      simp only at g1
      have HCI := hid (hci.nw hnz)
      clear hci
      have st4 := Row0I.stab wz.heap.size
      have st6 := CloneS.stab wz.heap.size l
      have st7 := EvS.stab wz.heap.size tk l
      have st8 := OneS.stab wz.heap.size tk l
      refine wp_region_tail 10 (by kernel_rfl) (by kernel_rfl) (by kernel_rfl) (by kernel_rfl) (by kernel_rfl) ?_
      dsimp only [List.take, List.drop]
      iterate 4
        refine Stairs.is ?_ ?_ ?_
        rotate_left 1
        · intro x wR hR hd K hK
          simp only [Act.put, List.setIfInBounds_toArray, List.set_cons_zero, List.set_cons_succ, Say.ok] at hK ⊢
          clear hd
          change Hid _ at hK
          obtain ⟨hcR, hfR, hzR⟩ := nwc hR
          first | (refine wanted_yes ?_ ?_; rfl) | (refine wanted_no ?_ ?_; rfl)
          go_wp2_with (first | fail)
          all_goals (refine hK.out _ _ ?_ ?_ <;> first | (solve | (repeat (first | assumption | exact Nw.refl _ | refine Nw.alloc ?_ _ | refine Nw.drew ?_ | refine Nw.drewN2 ?_ _ | (refine Nw.trans ?_ (by assumption))))) | exact rfl)
        try simp only [Act.put, List.setIfInBounds_toArray, List.set_cons_zero, List.set_cons_succ]
      iterate 1
        refine Stairs.that (Row0I wz.heap.size) (by first | assumption | simp) ?_ ?_
        · intro x wR hR hd K hK
          simp only [Act.put, List.setIfInBounds_toArray, List.set_cons_zero, List.set_cons_succ, Say.ok] at hK ⊢
          clear hd
          change Hid _ at hK
          obtain ⟨hcR, hfR, hzR⟩ := nwc hR
          first | (refine wanted_yes ?_ ?_; rfl) | (refine wanted_no ?_ ?_; rfl)
          go_wp2_with (first | fail)
          all_goals (refine hK.out _ _ ?_ ?_ <;> first | (solve | (repeat (first | assumption | exact Nw.refl _ | refine Nw.alloc ?_ _ | refine Nw.drew ?_ | refine Nw.drewN2 ?_ _ | (refine Nw.trans ?_ (by assumption))))) | exact rfl | exact row0i_new _ _ hR.size)
        try simp only [Act.put, List.setIfInBounds_toArray, List.set_cons_zero, List.set_cons_succ, List.length_nil, List.length_cons, List.nil_append, List.cons_append, Nat.reduceAdd]
      iterate 2
        refine Stairs.is ?_ ?_ ?_
        rotate_left 1
        · intro x wR hR hd K hK
          simp only [Act.put, List.setIfInBounds_toArray, List.set_cons_zero, List.set_cons_succ, Say.ok] at hK ⊢
          try simp [Region.binds, sayAt, Say.ok] at hd
          change Hid _ at hK
          obtain ⟨hcR, hfR, hzR⟩ := nwc hR
          first | (refine wanted_yes ?_ ?_; rfl) | (refine wanted_no ?_ ?_; rfl)
          go_wp2_with (first | fail)
          all_goals (refine hK.out _ _ ?_ ?_ <;> first | (solve | (repeat (first | assumption | exact Nw.refl _ | refine Nw.alloc ?_ _ | refine Nw.drew ?_ | refine Nw.drewN2 ?_ _ | (refine Nw.trans ?_ (by assumption))))) | exact rfl)
        try simp only [Act.put, List.setIfInBounds_toArray, List.set_cons_zero, List.set_cons_succ]
      iterate 1
        refine Stairs.that (CloneS wz.heap.size l) (by first | assumption | simp) ?_ ?_
        · intro x wR hR hd K hK
          simp only [Act.put, List.setIfInBounds_toArray, List.set_cons_zero, List.set_cons_succ, Say.ok] at hK ⊢
          try simp [Region.binds, sayAt, Say.ok] at hd
          change Hid _ at hK
          obtain ⟨hcR, hfR, hzR⟩ := nwc hR
          first | (refine wanted_yes ?_ ?_; rfl) | (refine wanted_no ?_ ?_; rfl)
          obtain ⟨g2', e2, ho2⟩ := (show Row0I wz.heap.size wR (x 4) by first | exact hd | exact hd.1 | exact hd.2); rw [e2] at hK ⊢; refine appf0 _ _ _ rfl _ _ _ _ Try.underlying23 Tr.info_i64 rfl (by decide) (by decide) hR.size ho2 rfl rfl (by rw [i64s_length, Nat.mul_one]) (HCI.out.nw hR) ?_ (by omega); intro v5 w5 hown5 hn5 hat5; exact hK.out _ _ hn5 (by show World.ownsRow _ _ _ _ _ (i64s l).length _; rw [i64s_length]; exact hown5)
        try simp only [Act.put, List.setIfInBounds_toArray, List.set_cons_zero, List.set_cons_succ, List.length_nil, List.length_cons, List.nil_append, List.cons_append, Nat.reduceAdd]
      iterate 1
        refine Stairs.that (EvS wz.heap.size tk l) (by first | assumption | simp) ?_ ?_
        · intro x wR hR hd K hK
          simp only [Act.put, List.setIfInBounds_toArray, List.set_cons_zero, List.set_cons_succ, Say.ok] at hK ⊢
          try simp [Region.binds, sayAt, Say.ok] at hd
          change Hid _ at hK
          obtain ⟨hcR, hfR, hzR⟩ := nwc hR
          have hu6 : CloneS wz.heap.size l wR (x 7) := (by first | exact hd | exact hd.2 | exact hd.1); obtain ⟨q6, c6, e6⟩ := ints_shape hu6; rw [e6] at hK hu6 ⊢
          first | (refine wanted_yes ?_ ?_; rfl) | (refine wanted_no ?_ ?_; rfl)
          go_wp2_with (first | fail)
          all_goals (refine hK.out _ _ ?_ ?_ <;> first | (solve | (repeat (first | assumption | exact Nw.refl _ | refine Nw.alloc ?_ _ | refine Nw.drew ?_ | refine Nw.drewN2 ?_ _ | (refine Nw.trans ?_ (by assumption))))) | exact rfl | exact ⟨_, rfl, hu6⟩)
        try simp only [Act.put, List.setIfInBounds_toArray, List.set_cons_zero, List.set_cons_succ, List.length_nil, List.length_cons, List.nil_append, List.cons_append, Nat.reduceAdd]
      iterate 1
        refine Stairs.that (OneS wz.heap.size tk l) (by first | assumption | simp) ?_ ?_
        · intro x wR hR hd K hK
          simp only [Act.put, List.setIfInBounds_toArray, List.set_cons_zero, List.set_cons_succ, Say.ok] at hK ⊢
          try simp [Region.binds, sayAt, Say.ok] at hd
          change Hid _ at hK
          obtain ⟨hcR, hfR, hzR⟩ := nwc hR
          obtain ⟨u7, e7, hu7⟩ := hd; obtain ⟨q7, c7, rfl⟩ := ints_shape hu7; rw [e7] at hK ⊢
          first | (refine wanted_yes ?_ ?_; rfl) | (refine wanted_no ?_ ?_; rfl)
          go_wp2_with (first | fail)
          all_goals (refine hK.out _ _ ?_ ?_ <;> first | (solve | (repeat (first | assumption | exact Nw.refl _ | refine Nw.alloc ?_ _ | refine Nw.drew ?_ | refine Nw.drewN2 ?_ _ | (refine Nw.trans ?_ (by assumption))))) | exact rfl | exact ⟨_, _, rfl, cells_newAt _ [_, _] _ _ _ rfl, Own.nw hu7 ((Nw.refl _).alloc _)⟩)
        try simp only [Act.put, List.setIfInBounds_toArray, List.set_cons_zero, List.set_cons_succ, List.length_nil, List.length_cons, List.nil_append, List.cons_append, Nat.reduceAdd]
      refine Stairs.nil ?_
      intro x wR hR hx yR
      have h4 := hx 4 (by decide)
      simp only [sayAt, Say.ok] at h4
      have h7 := hx 7 (by decide)
      simp only [sayAt, Say.ok] at h7
      have h8 := hx 8 (by decide)
      simp only [sayAt, Say.ok] at h8
      have h9 := hx 9 (by decide)
      simp only [sayAt, Say.ok] at h9
      clear hx
      simp only [fill, Act.put, List.setIfInBounds_toArray, List.set_cons_zero, List.set_cons_succ]
      obtain ⟨hcR, hfR, hzR⟩ := nwc hR
      obtain ⟨g8, u8, e8, hcs8, hu8⟩ := h9
      obtain ⟨q8, c8, rfl⟩ := ints_shape hu8
      rw [e8]
      obtain ⟨vs, hvl, hrow, hall, hapart⟩ := hstz.2.1
      have hB : wL.heap.size ≤ wR.heap.size := Nat.le_trans hst.2.2.size (Nat.le_trans hnz.size hR.size)
      go_wp2_with (first
        | (at_builtin; refine appat rfl _ _ _ rfl _ _ _ _ Try.underlying24 info_event rfl (by decide) (by decide) hB (hR.ownsRow hrow) rfl rfl (show [Value.int .u64 tk, Value.slice q8 l.length c8].length = 2 from rfl) hcs8 (by simp [Value.oneCell']) ?_ ?_; rotate_left; (have := HL.out; omega); intro v2 w2 hown2 hg2 hat2; obtain ⟨⟨q9, c9, rfl⟩, y2, hst2⟩ := CpAp.step hstz hR hg5 HL.out hvl hrow hall hapart hu8 hown2 hg2 hat2; have y21 := heap_cell y2 1; have y2f := heap_frozen y2 1; simp only [List.getElem?_toArray, List.getElem?_cons_succ, List.getElem?_cons_zero] at y21)
        | fail)
      go_roundw
      case rel => exact ⟨k + 1, _, by omega, by go_num, by rw [HT.out]; exact hst2⟩
      case measure => simp [intOf]; omega
    · obtain rfl : k = es.length := by omega
      have hdk : decide (es.length < es.length) = false := decide_eq_false (by omega)
      have y4r := hnr.heap y4
      have e0 := heap_cell hst.1 0
      have e1 := heap_cell hst.1 1
      have d0 := heap_cell y4r 0
      have d1 := heap_cell y4r 1
      simp only [List.getElem?_toArray, List.getElem?_cons_succ, List.getElem?_cons_zero] at e0 e1 d0 d1
      have hst' := hst
      rw [List.take_length] at hst'
      clear hst
      obtain ⟨qv, cv, rfl⟩ := hst'.2.1.shape rfl
      have f0 := heap_frozen y4r 0
      have f1 := heap_frozen y4r 1
      have s1r : Own wr w0.heap.size 9 (.slice q1 names.length c1) (Lx.strs names) := Own.modsR s1 hst'.2.2 (fun j hj e => by subst e; exact absurd (hq1 _ hj) (Nat.lt_irrefl _))
      have hev := hst'.2.1
      have hz49 : w.heap.size + 1 < wL.heap.size := by have := hnL.size; omega
      go_wp2
      ((try simp only [Exit.inBlock, Exit.then]); refine bodyPost_ret (results_cell_row rfl _ _ _ _ _ _ _ rfl (heap_set (heap_set y4r 0 (.slice q1 names.length c1)) 1 (.slice qv es.length cv)) Try.underlying26 rfl (by kernel_rfl)) rfl ?_)
      refine ⟨_, _, rfl, ?_, ?_, ?_⟩
      · have hm : Mods (fun k => k = w.heap.size + 1) wr ((wr.setCell ⟨w.heap.size + 1, 0, none⟩ (.slice q1 names.length c1)).setCell ⟨w.heap.size + 1, 1, none⟩ (.slice qv es.length cv)) := Mods.setCell (S := fun k => k = w.heap.size + 1) (Mods.setCell (S := fun k => k = w.heap.size + 1) (Mods.refl _ wr) (p := ⟨w.heap.size + 1, 0, none⟩) rfl _) (p := ⟨w.heap.size + 1, 1, none⟩) rfl _
        exact Own.mono (s1r.modsR hm (fun k hk e => by have := (row_lt s1r k hk).1; omega)) (by omega)
      · exact EvAp.mono (EvAp.set (EvAp.set hev hz49) hz49) (by omega)
      · exact (hnw.setCell (p := ⟨w.heap.size + 1, 0, none⟩) (by simp) _).setCell (p := ⟨w.heap.size + 1, 1, none⟩) (by simp) _
end Tr
end Go.Proofs.Ytjelbfodkacipaa
