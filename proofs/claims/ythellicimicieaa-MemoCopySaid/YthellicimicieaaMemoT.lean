/- A memory's copy. No condition but lengths. -/
import Derived.Test.YthellicimicieaaMemoR
set_option linter.unusedSimpArgs false
set_option linter.unusedVariables false
namespace Go.Proofs.Ythellicimicieaa
open Go.ChangeShapes Go.WideShapes Go.ChangeAt Go.RowKit
/-- 's = append(s, x...)', elements of several cells, s owned from B on; x of m elements. -/
theorem appm {P : Program} {w : World} {ops : Array Oper} {rest : List Oper} {o : Oper} {a : Act} {Q : Exit → Act → World → Prop} (hgd : o.guard = none) (s x : Operand) (t : TypeId) (ho : o.op = .call { callee := .builtin .append, args := #[s, x], argTypes := #[t, t] })
    (e : TypeId) (z : Value) (size bytes : Nat) (ht : P.underlying t = some (.slice e)) (hinfo : (P.info? e).map (fun i => (i.zero, i.size, i.bytes)) = some (some z, size, bytes)) (hz : z.cells.size = size) (hs0 : 0 < size) (hby : bytes ≤ 128)
    {B : Nat} (hB : B ≤ w.heap.size) {v : Value} {n : Nat} {xs : List Value} (hown : w.ownsRow B e size v n xs) (hs : a.eval s = v) {ad : Addr} {m c : Nat} {news : List Value} (hx : a.eval x = .slice (some ad) m c) (hl : news.length = m * size)
    (hu : Cells w (some ad) news) (h1 : ∀ u ∈ news, u.oneCell' = true)
    (h : ∀ v' w', w'.ownsRow B e size v' (n + m) (xs ++ news) → w.grownBy w' v.ownBlock → (v'.ownBlock = v.ownBlock ∨ v'.ownBlock = some w.heap.size) → wpList P ops Q rest (a.put o.dst v') w')
    (h63 : n + m ≤ 1099511627776) : wpList P ops Q (o :: rest) a w := by
  obtain ⟨i, hi, hz0, hz1, hz2⟩ := info_parts hinfo
  refine wpList_append_own_at (w := w) hgd s x t ho B e i z size bytes ht hi hz0 hz1 hz2 hz hs0 v n xs hs hown ad m c news hx (by omega) (fun j y hj => ?_) h1 (by unfold maxLen; omega) ?_ hB (fun v' w' h2 h3 _ h5 => h v' w' h2 h3 h5)
  · obtain ⟨hjl, rfl⟩ := List.getElem?_eq_some_iff.1 hj
    obtain ⟨b, off, e1, hcell⟩ := hu j hjl
    cases e1
    rw [addr_add]; exact hcell
  · have := Nat.mul_le_mul h63 hby; omega
namespace Mm
open Go.Proofs.Ythellicimicieaa.Words (Wd wd trim Set ws ws_one ws_length same same_c samewords_c rtrim_c HandsW)
theorem nil_entry (w : World) (a : Option Addr) (n c : Nat) : (binOp .eql 74 (.slice a n c) (.slice none 0 0)).run Try.prog w = .ok (.bool a.isNone) w := Lib.run_eql_slice_nil w 74 82 a n c 0 0 Try.underlying74
def HandsE (w : World) (f : Nat → V3) (l : List En) (e : Ending) (w' : World) : Prop := ∃ p c, e = .returned (.slice p l.length c) ∧ w'.ownsRow w.heap.size 82 5 (.slice p l.length c) l.length (enc f l) ∧ Nw w w'
theorem enc_one (f : Nat → V3) (l : List En) (h : ∀ i, i < l.length → (f i).1.oneCell' = true ∧ (f i).2.1.oneCell' = true ∧ (f i).2.2.oneCell' = true) : ∀ u ∈ enc f l, u.oneCell' = true := by
  intro u hu
  unfold enc chunks at hu
  rw [List.mem_flatMap] at hu
  obtain ⟨i, hi, hu⟩ := hu
  obtain ⟨h1, h2, h3⟩ := h i (List.mem_range.1 hi)
  unfold ent at hu
  simp only [List.mem_cons, List.not_mem_nil, or_false] at hu
  rcases hu with rfl | rfl | rfl | rfl | rfl
  · exact h1
  · exact h2
  · exact h3
  · rfl
  · rfl
set_option maxRecDepth 20000 in
theorem clonee_c (P : Nat → Prop) (B : Nat) (v : Value) (f : Nat → V3) (l : List En) (w : World) (h : Row w P B 82 v f l) (hl : l.length ≤ 4096) : Calls Try.prog 53 #[v] w (HandsE w f l) := by
  have hone := enc_one f l (fun i hi => by
    obtain ⟨h1, h2, h3⟩ := h.sets i hi
    obtain ⟨p1, c1, e1, _⟩ := h1.open
    obtain ⟨p2, c2, e2, _⟩ := h2.open
    obtain ⟨p3, c3, e3, _⟩ := h3.open
    rw [e1, e2, e3]
    exact ⟨rfl, rfl, rfl⟩)
  have ho := h.own
  obtain ⟨p, cap, rfl, hcap, hmx, hnil, _⟩ := row_open h
  have q := nil_entry
  clear h
  cases p with
  | none =>
    obtain rfl := hnil rfl
    obtain rfl : l = [] := by cases l with | nil => rfl | cons y r => simp at hcap
    go_enter Try.func53, Try.ntmps53
    go_wp2
    go_ret
    exact ⟨none, 0, rfl, World.ownsRow_nil _ _ _ _, Nw.refl _⟩
  | some a =>
    obtain ⟨g, hg⟩ : ∃ g, a = ⟨g, 0, none⟩ := by
      rcases ho.2 with ⟨e, _⟩ | ⟨g, cap', cur, e, _⟩
      · cases e
      · simp only [Value.slice.injEq, Option.some.injEq] at e
        exact ⟨g, e.1⟩
    subst hg
    have hcs : Cells w (some ⟨g, 0, none⟩) (enc f l) := fun i hi => ⟨g, 0, rfl, by
      rw [enc_len] at hi
      rw [Nat.zero_add, World.ownsRow.cellAt ho i (by omega), List.getElem?_eq_getElem]⟩
    have n0 := (Nw.refl w).alloc (.cells #[] 82)
    have ho0 := World.ownsRow_lit (e := 82) (size := 5) w #[] 0 (Nat.le_refl _) (Nat.zero_le _) rfl
    have hB0 := n0.size
    replace hcs := hcs.nw n0
    go_enter Try.func53, Try.ntmps53
    go_wp2_with (first
      | (at_builtin; refine appm rfl _ _ _ rfl _ _ _ _ Try.underlying74 info_entry rfl (by decide) (by decide) hB0 ho0 rfl rfl (enc_len f l) hcs hone ?_ ?_; rotate_left; omega; intro v2 w2 hown2 hg2 hat2)
      | fail)
    go_ret
    have hn2 : Nw w w2 := n0.ofMods (S := fun k => k = w.heap.size) ⟨hg2.os, hg2.tape, hg2.output, hg2.size, fun k hk hs => hg2.block k hk (fun e => hs (by cases e; rfl))⟩ (fun k e => by omega)
    rw [Nat.zero_add] at hown2
    have hown3 : w2.ownsRow w.heap.size 82 5 v2 l.length (enc f l) := hown2
    rcases hown3.2 with ⟨rfl, h0⟩ | ⟨g2, cap2, cur, rfl, _⟩
    · obtain rfl : l = [] := List.length_eq_zero_iff.1 h0
      exact ⟨none, 0, rfl, hown3, hn2⟩
    · exact ⟨_, _, rfl, hown3, hn2⟩
/-- A row of a copy. -/
def RowE (N : Nat) (f : Nat → V3) (l : List En) : Says := fun w u => ∃ p n c, u = .slice p n c ∧ n = l.length ∧ w.ownsRow N 82 5 (.slice p n c) l.length (enc f l)
theorem RowE.stab (N : Nat) (f : Nat → V3) (l : List En) : Stab (RowE N f l) := fun _ _ _ ⟨p, n, c, e, hn', h⟩ hn => ⟨p, n, c, e, hn', hn.ownsRow h⟩
def BldE (N : Nat) (f : Nat → V3) (l : List En) (r h : Int) : Says := fun w u => ∃ p n c, u = .agg #[.int .i64 r, .slice p n c, .int .i64 h] ∧ w.ownsRow N 82 5 (.slice p n c) l.length (enc f l)
theorem BldE.stab (N : Nat) (f : Nat → V3) (l : List En) (r h : Int) : Stab (BldE N f l r h) := fun _ _ _ ⟨p, n, c, e, h⟩ hn => ⟨p, n, c, e, hn.ownsRow h⟩
def MemE (N : Nat) (f : Nat → V3) (l : List En) (r h : Int) : Says := fun w u => ∃ g p n c, u = .pointer (some ⟨g, 0, none⟩) ∧ N ≤ g ∧ w.heap[g]? = some (.cells #[.int .i64 r, .slice p n c, .int .i64 h] 76 (0, 0)) ∧ w.ownsRow N 82 5 (.slice p n c) l.length (enc f l)
theorem MemE.stab (N : Nat) (f : Nat → V3) (l : List En) (r h : Int) : Stab (MemE N f l r h) := fun _ _ _ ⟨g, p, n, c, e, h0, h1, h2⟩ hn => ⟨g, p, n, c, e, h0, hn.heap h1, hn.ownsRow h2⟩
attribute [simp] RowE.stab BldE.stab MemE.stab
theorem ownsRow_mono {w : World} {B B' : Nat} {e : TypeId} {size : Nat} {v : Value} {n : Nat} {xs : List Value} (h : w.ownsRow B e size v n xs) (hb : B' ≤ B) : w.ownsRow B' e size v n xs := by
  obtain ⟨h1, h2⟩ := h
  rcases h2 with h2 | ⟨g, cap, cur, hv, hg, hh, r⟩
  · exact ⟨h1, Or.inl h2⟩
  · exact ⟨h1, Or.inr ⟨g, cap, cur, hv, by omega, hh, r⟩⟩
/-- What Copy hands back. -/
def CopyO (w : World) (P : Nat → Prop) (f : Nat → V3) (m : Me) (en : Ending) (w' : World) : Prop :=
  ∃ a' v' P', en = .returned (.pointer (some ⟨a', 0, none⟩)) ∧ w.heap.size ≤ a' ∧ (∀ k, v'.ownBlock = some k → w.heap.size ≤ k) ∧ Nw w w' ∧ Ext w P w' P' ∧ MI w' P' w.heap.size a' v' f m
set_option maxRecDepth 20000 in
set_option maxHeartbeats 1600000 in
theorem copy_c (P : Nat → Prop) (B a : Nat) (v : Value) (f : Nat → V3) (m : Me) (w : World) (hm : MI w P B a v f m) (hP : ∀ k, P k → k < w.heap.size) :
    Calls Try.prog 29 #[.pointer (some ⟨a, 0, none⟩)] w (CopyO w P f m) := by
  have HCL := hid (fun w' (h : Nw w w') => clonee_c P B v f m.l w' (hm.row.nw h) (Nat.le_trans hm.ok.len hm.ok.r1))
  have HM := hid hm
  obtain ⟨p, cap, rfl, hcap, hmx, _, _⟩ := row_open hm.row
  have hal := hm.lt
  have y := hm.blk
  have e0 := heap_cell y 0
  have e1 := heap_cell y 1
  have e2 := heap_cell y 2
  simp only [List.getElem?_toArray, List.getElem?_cons_succ, List.getElem?_cons_zero] at e0 e1 e2
  generalize hmr : (m.room : Int) = mr at *
  generalize hmh : (m.hand : Int) = mh at *
  generalize hml : m.l = l at *
  have HML := hid hml
  have HMR := hid hmr
  have HMH := hid hmh
  clear hml hm y hmr hmh
  go_enter Try.func29, Try.ntmps29
  go_upto_region 3 with fail
  refine wp_region_tail 15 (by kernel_rfl) (by kernel_rfl) (by kernel_rfl) (by kernel_rfl) (by kernel_rfl) ?_
  dsimp only [List.take, List.drop]
  iterate 8
    refine Stairs.is ?_ ?_ ?_
    rotate_left 1
    · intro x wR hR hd K hK
      simp only [Act.put, List.setIfInBounds_toArray, List.set_cons_zero, List.set_cons_succ, Say.ok] at hK ⊢
      clear hd
      change Hid _ at hK
      obtain ⟨hcR, hfR, hzR⟩ := nwc hR
      first | (refine wanted_yes ?_ ?_; rfl) | (refine wanted_no ?_ ?_; rfl)
      go_wp2_with (first | (go_at_call 53; refine (HCL.out _ (by repeat (first | assumption | exact Nw.refl _ | refine Nw.alloc ?_ _ | refine Nw.drew ?_ | refine Nw.drewN2 ?_ _ | (refine Nw.trans ?_ (by assumption))))).mono ?_; rintro en w5 ⟨p5, c5, rfl, ho5, hn5⟩))
      all_goals (refine hK.out _ _ ?_ ?_ <;> first | (solve | (repeat (first | assumption | exact Nw.refl _ | refine Nw.alloc ?_ _ | refine Nw.drew ?_ | refine Nw.drewN2 ?_ _ | (refine Nw.trans ?_ (by assumption))))) | exact rfl)
    try simp only [Act.put, List.setIfInBounds_toArray, List.set_cons_zero, List.set_cons_succ]
  iterate 1
    refine Stairs.that (RowE w.heap.size f l) (by first | assumption | simp) ?_ ?_
    · intro x wR hR hd K hK
      simp only [Act.put, List.setIfInBounds_toArray, List.set_cons_zero, List.set_cons_succ, Say.ok] at hK ⊢
      clear hd
      change Hid _ at hK
      obtain ⟨hcR, hfR, hzR⟩ := nwc hR
      first | (refine wanted_yes ?_ ?_; rfl) | (refine wanted_no ?_ ?_; rfl)
      go_wp2_with (first | (go_at_call 53; refine (HCL.out _ (by repeat (first | assumption | exact Nw.refl _ | refine Nw.alloc ?_ _ | refine Nw.drew ?_ | refine Nw.drewN2 ?_ _ | (refine Nw.trans ?_ (by assumption))))).mono ?_; rintro en w5 ⟨p5, c5, rfl, ho5, hn5⟩))
      all_goals (refine hK.out _ _ ?_ ?_ <;> first | (solve | (repeat (first | assumption | exact Nw.refl _ | refine Nw.alloc ?_ _ | refine Nw.drew ?_ | refine Nw.drewN2 ?_ _ | (refine Nw.trans ?_ (by assumption))))) | exact rfl | exact ⟨_, _, _, rfl, rfl, ownsRow_mono ho5 (Nw.size (by assumption))⟩)
    try simp only [Act.put, List.setIfInBounds_toArray, List.set_cons_zero, List.set_cons_succ, List.length_nil, List.length_cons, List.nil_append, List.cons_append, Nat.reduceAdd]
  iterate 4
    refine Stairs.is ?_ ?_ ?_
    rotate_left 1
    · intro x wR hR hd K hK
      simp only [Act.put, List.setIfInBounds_toArray, List.set_cons_zero, List.set_cons_succ, Say.ok] at hK ⊢
      try simp [Region.binds, sayAt, Say.ok] at hd
      change Hid _ at hK
      obtain ⟨hcR, hfR, hzR⟩ := nwc hR
      first | (refine wanted_yes ?_ ?_; rfl) | (refine wanted_no ?_ ?_; rfl)
      go_wp2_with (first | (go_at_call 53; refine (HCL.out _ (by repeat (first | assumption | exact Nw.refl _ | refine Nw.alloc ?_ _ | refine Nw.drew ?_ | refine Nw.drewN2 ?_ _ | (refine Nw.trans ?_ (by assumption))))).mono ?_; rintro en w5 ⟨p5, c5, rfl, ho5, hn5⟩))
      all_goals (refine hK.out _ _ ?_ ?_ <;> first | (solve | (repeat (first | assumption | exact Nw.refl _ | refine Nw.alloc ?_ _ | refine Nw.drew ?_ | refine Nw.drewN2 ?_ _ | (refine Nw.trans ?_ (by assumption))))) | exact rfl)
    try simp only [Act.put, List.setIfInBounds_toArray, List.set_cons_zero, List.set_cons_succ]
  iterate 1
    refine Stairs.that (BldE w.heap.size f l mr mh) (by first | assumption | simp) ?_ ?_
    · intro x wR hR hd K hK
      simp only [Act.put, List.setIfInBounds_toArray, List.set_cons_zero, List.set_cons_succ, Say.ok] at hK ⊢
      try simp [Region.binds, sayAt, Say.ok] at hd
      change Hid _ at hK
      obtain ⟨hcR, hfR, hzR⟩ := nwc hR
      have hu8 : RowE w.heap.size f l wR (x 8) := (by first | exact hd | exact hd.1 | exact hd.2 | exact hd.2.1 | exact hd.2.2); obtain ⟨q8, _, c8, e8, rfl, hu8'⟩ := hu8; rw [e8] at hK ⊢
      first | (refine wanted_yes ?_ ?_; rfl) | (refine wanted_no ?_ ?_; rfl)
      go_wp2_with (first | (go_at_call 53; refine (HCL.out _ (by repeat (first | assumption | exact Nw.refl _ | refine Nw.alloc ?_ _ | refine Nw.drew ?_ | refine Nw.drewN2 ?_ _ | (refine Nw.trans ?_ (by assumption))))).mono ?_; rintro en w5 ⟨p5, c5, rfl, ho5, hn5⟩))
      all_goals (refine hK.out _ _ ?_ ?_ <;> first | (solve | (repeat (first | assumption | exact Nw.refl _ | refine Nw.alloc ?_ _ | refine Nw.drew ?_ | refine Nw.drewN2 ?_ _ | (refine Nw.trans ?_ (by assumption))))) | exact rfl | exact ⟨_, _, _, rfl, hu8'⟩)
    try simp only [Act.put, List.setIfInBounds_toArray, List.set_cons_zero, List.set_cons_succ, List.length_nil, List.length_cons, List.nil_append, List.cons_append, Nat.reduceAdd]
  iterate 1
    refine Stairs.that (MemE w.heap.size f l mr mh) (by first | assumption | simp) ?_ ?_
    · intro x wR hR hd K hK
      simp only [Act.put, List.setIfInBounds_toArray, List.set_cons_zero, List.set_cons_succ, Say.ok] at hK ⊢
      try simp [Region.binds, sayAt, Say.ok] at hd
      change Hid _ at hK
      obtain ⟨hcR, hfR, hzR⟩ := nwc hR
      have hu13 : BldE w.heap.size f l mr mh wR (x 13) := (by first | exact hd | exact hd.1 | exact hd.2 | exact hd.2.1 | exact hd.2.2); obtain ⟨q8, n8, c8, e8, hu8'⟩ := hu13; rw [e8] at hK ⊢
      first | (refine wanted_yes ?_ ?_; rfl) | (refine wanted_no ?_ ?_; rfl)
      go_wp2_with (first | (go_at_call 53; refine (HCL.out _ (by repeat (first | assumption | exact Nw.refl _ | refine Nw.alloc ?_ _ | refine Nw.drew ?_ | refine Nw.drewN2 ?_ _ | (refine Nw.trans ?_ (by assumption))))).mono ?_; rintro en w5 ⟨p5, c5, rfl, ho5, hn5⟩))
      all_goals (refine hK.out _ _ ?_ ?_ <;> first | (solve | (repeat (first | assumption | exact Nw.refl _ | refine Nw.alloc ?_ _ | refine Nw.drew ?_ | refine Nw.drewN2 ?_ _ | (refine Nw.trans ?_ (by assumption))))) | exact rfl | exact ⟨_, _, _, _, rfl, Nw.size (by assumption), heap_new _ _, Nw.ownsRow ((Nw.refl _).alloc _) hu8'⟩)
    try simp only [Act.put, List.setIfInBounds_toArray, List.set_cons_zero, List.set_cons_succ, List.length_nil, List.length_cons, List.nil_append, List.cons_append, Nat.reduceAdd]
  refine Stairs.nil ?_
  intro x wR hR hx yR
  have h8 := hx 8 (by decide)
  simp only [sayAt, Say.ok] at h8
  have h13 := hx 13 (by decide)
  simp only [sayAt, Say.ok] at h13
  have h14 := hx 14 (by decide)
  simp only [sayAt, Say.ok] at h14
  clear hx
  simp only [fill, Act.put, List.setIfInBounds_toArray, List.set_cons_zero, List.set_cons_succ]
  obtain ⟨hcR, hfR, hzR⟩ := nwc hR
  obtain ⟨g, q9, n9, c9, e14, hg, hb, ho⟩ := h14
  rw [e14]
  clear h8 h13 hcR hfR hzR
  go_wp2
  go_ret
  have hm := HM.out
  obtain rfl := HML.out
  obtain rfl := HMR.out
  obtain rfl := HMH.out
  have hnew : ∀ k, (P k ∨ k = g ∨ (Value.slice q9 n9 c9).ownBlock = some k) → P k ∨ w.heap.size ≤ k := fun k q => by
    rcases q with q | q | q
    · exact Or.inl q
    · exact Or.inr (by omega)
    · exact Or.inr (row_block ho q).1
  refine ⟨g, _, fun k => P k ∨ k = g ∨ (Value.slice q9 n9 c9).ownBlock = some k, rfl, hg, fun k hk => (row_block ho hk).1, hR, ⟨fun k q => Or.inl q, hnew, fun k q => ?_⟩, hb, hg, Or.inr (Or.inl rfl), Row.of ho (fun k hk => Or.inr (Or.inr hk)) (fun i hi => ?_), hm.ok⟩
  · rcases q with q | q | q
    · exact Nat.lt_of_lt_of_le (hP k q) hR.size
    · rw [q]; exact lt_of_heap hb
    · obtain ⟨_, cur, hc⟩ := row_block ho q
      exact lt_of_heap hc
  · obtain ⟨h1, h2, h3⟩ := hm.row.at hi
    exact ⟨h1.mods (hR.mods fun _ => False) (fun _ q => q.elim) hnew, h2.mods (hR.mods fun _ => False) (fun _ q => q.elim) hnew, h3.mods (hR.mods fun _ => False) (fun _ q => q.elim) hnew⟩
end Mm
end Go.Proofs.Ythellicimicieaa
