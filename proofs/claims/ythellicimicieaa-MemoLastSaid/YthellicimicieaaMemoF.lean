/- The contracts of Get, both, of Len, Cells, New, SameMove. No condition but lengths. -/
import Derived.Test.YthellicimicieaaMemoE
set_option linter.unusedSimpArgs false
set_option linter.unusedVariables false
namespace Go.Proofs.Ythellicimicieaa
open Go.ChangeShapes Go.WideShapes Go.ChangeAt Go.RowKit
namespace Mm
open Go.Proofs.Ythellicimicieaa.Words (Wd trim Set ws ws_one ws_length same same_c samewords_c rtrim_c HandsW info_u64)
theorem nil_u64 (w : World) (a : Option Addr) (n c : Nat) : (binOp .eql 42 (.slice a n c) (.slice none 0 0)).run Try.prog w = .ok (.bool a.isNone) w := Lib.run_eql_slice_nil w 42 24 a n c 0 0 Try.underlying42
theorem lt_alloc (w : World) (o : Obj) : w.heap.size < (w.alloc o).heap.size := by show _ < (w.heap.push _).size; rw [Array.size_push]; omega
set_option maxRecDepth 20000 in
theorem clonew_c (v : Value) (s : List Wd) (w : World) (hv : Set w v s) (hlen : s.length ≤ 1000000000) : Calls Try.prog 52 #[v] w (HandsW w s) := by
  have hv2 := hv
  obtain ⟨p, cap, rfl, hcap, hmx, hnil, hc⟩ := hv.open
  have q := nil_u64
  cases p with
  | none =>
    obtain rfl := hnil rfl
    obtain rfl : s = [] := by cases s with | nil => rfl | cons y r => simp at hcap
    go_enter Try.func52, Try.ntmps52
    go_wp2
    go_ret
    exact ⟨_, rfl, Set.nil _, fun k hk => (by cases hk), Nw.refl _⟩
  | some a =>
    go_enter Try.func52, Try.ntmps52
    go_wp2_with (first
      | (at_builtin; refine app1 rfl _ _ _ rfl _ _ _ Try.underlying42 info_u64 rfl (by decide) ((Nw.refl w).alloc _) (Own.new w _ _ [] (Nat.le_refl _) (Nat.zero_le _)) rfl (hv2.nw ((Nw.refl w).alloc _)) rfl (ws_one _) ?_ ?_; rotate_left; (simp only [ws_length, List.length_nil]; omega); intro v2 w2 hown2 hg2 hn2))
    go_ret
    rw [List.nil_append] at hown2
    exact ⟨_, rfl, hown2.sl, fun k hk => hown2.lt k hk, hn2⟩
/-! ### What turns in a row -/
theorem mods_cell (w : World) (g j : Nat) (v : Value) : Mods (fun k => k = g) w (w.setCell ⟨g, j, none⟩ v) := Mods.setCell (S := fun k => k = g) (Mods.refl _ w) (p := ⟨g, j, none⟩) rfl v
theorem row_mark {w : World} {P : Nat → Prop} {B : Nat} {t : TypeId} {g n cap : Nat} {f : Nat → V3} {l : List En} (h : Row w P B t (.slice (some ⟨g, 0, none⟩) n cap) f l) (hn : n = l.length) {i : Nat} (hi : i < l.length) (b : Bool) :
    Row (w.setCell ⟨g, i * 5 + 4, none⟩ (.bool b)) P B t (.slice (some ⟨g, 0, none⟩) n cap) f (l.set i (mk1 (at_ l i) b)) := by
  subst hn
  have hPg : P g := h.mine g rfl
  refine Row.of ?_ h.mine fun j hj => ?_
  · have := (World.ownsRow.stored h.own (i * 5 + 4) (.bool b)).1
    rw [enc_mark _ _ hi] at this
    rw [List.length_set]
    exact this
  · rw [List.length_set] at hj
    obtain ⟨h1, h2, h3⟩ := h.at hj
    have hm := mods_cell w g (i * 5 + 4) (.bool b)
    have hS : ∀ k, k = g → P k := fun k e => e ▸ hPg
    rw [at_set _ _ _ _ hi]
    split
    · rename_i e; subst e
      exact ⟨h1.mods hm hS (fun _ q => Or.inl q), h2.mods hm hS (fun _ q => Or.inl q), h3.mods hm hS (fun _ q => Or.inl q)⟩
    · exact ⟨h1.mods hm hS (fun _ q => Or.inl q), h2.mods hm hS (fun _ q => Or.inl q), h3.mods hm hS (fun _ q => Or.inl q)⟩
/-- What a call leaves of a memory: the blocks of memories may be more, its own row another. -/
def MO (w : World) (P : Nat → Prop) (B a : Nat) (v : Value) (m' : Me) (w' : World) : Prop :=
  ∃ P' v' f', (∀ k, P k → P' k) ∧ (∀ k, P' k → P k ∨ w.heap.size ≤ k) ∧ (∀ k, P' k → k < w'.heap.size) ∧ MI w' P' B a v' f' m' ∧ Mods (fun k => k = a ∨ v.ownBlock = some k) w w' ∧ (∀ k, v'.ownBlock = some k → v.ownBlock = some k ∨ w.heap.size ≤ k)
def RO (w : World) (P : Nat → Prop) (B a : Nat) (v : Value) (m' : Me) (w' : World) : Prop :=
  ∃ P' v' f', (∀ k, P k → P' k) ∧ (∀ k, P' k → P k ∨ w.heap.size ≤ k) ∧ (∀ k, P' k → k < w'.heap.size) ∧ RI w' P' B a v' f' m' ∧ Mods (fun k => k = a ∨ v.ownBlock = some k) w w' ∧ (∀ k, v'.ownBlock = some k → v.ownBlock = some k ∨ w.heap.size ≤ k)
/-- What Get hands back. -/
def HandsM (x : (List Wd × Bool) × Bool) (e : Ending) (w' : World) : Prop := ∃ u, e = .returned (.tuple #[.agg #[u, .bool x.1.2], .bool x.2]) ∧ Set w' u x.1.1
theorem results_cell2 {P : Program} {fn : Func} {p u : Tmp} {ty : TypeId} (h : fn.results = #[.cell p ty, .tmp u]) (tmps : Array Value) (w : World) (g : Nat) (t : TypeId) (cs : Array Value) (fr : Nat × Nat) (d : TypeDesc)
    (hp : tmps.getD p undef = .pointer (some ⟨g, 0, none⟩)) (hg : w.heap[g]? = some (.cells cs t fr))
    (hu : P.underlying ty = some d) (hd : (match d with | .struct _ | .array _ _ => true | _ => false) = true) (hi : (P.info? ty).map (·.size) = some cs.size) :
    (results fn tmps).run P w = .ok (.tuple #[.agg cs, tmps.getD u undef]) w := by
  have hp' : tmps[p]?.getD undef = .pointer (some ⟨g, 0, none⟩) := by simpa using hp
  simp [results, h, hp', asAddr, run_loadVar_row w g t ty cs fr d hg hu hd hi]
def MvS (N : Nat) (s : List Wd) (b : Bool) : Says := fun w v => ∃ p n c, v = .agg #[.slice p n c, .bool b] ∧ Set w (.slice p n c) s ∧ ∀ k, (Value.slice p n c).ownBlock = some k → N ≤ k
@[simp] theorem MvS.stab (N : Nat) (s : List Wd) (b : Bool) : Stab (MvS N s b) := fun _ _ _ ⟨p, n, c, e, h, hb⟩ hn => ⟨p, n, c, e, Set.nw h hn, hb⟩
def WdS (N : Nat) (s : List Wd) : Says := fun w v => ∃ p n c, v = .slice p n c ∧ Set w (.slice p n c) s ∧ ∀ k, (Value.slice p n c).ownBlock = some k → N ≤ k
@[simp] theorem WdS.stab (N : Nat) (s : List Wd) : Stab (WdS N s) := fun _ _ _ ⟨p, n, c, e, h, hb⟩ hn => ⟨p, n, c, e, Set.nw h hn, hb⟩
theorem WdS.of {N M : Nat} {w : World} {v : Value} {s : List Wd} (h : Set w v s) (hb : ∀ k, v.ownBlock = some k → M ≤ k) (hM : N ≤ M) : WdS N s w v := by
  obtain ⟨p, c, rfl, _⟩ := id h.open
  exact ⟨p, _, c, rfl, h, fun k hk => Nat.le_trans hM (hb k hk)⟩
/-- A set stays where only younger blocks turn. -/
theorem set_old {w0 w w' : World} {v : Value} {s : List Wd} (h0 : Set w0 v s) (h : Set w v s) (hm : Mods (fun k => w0.heap.size ≤ k) w w') : Set w' v s :=
  Sl.mods h hm fun hne k hk hs => by have := Sl.lt h0 hne k hk; omega
theorem MI.young {w w2 w' : World} {P : Nat → Prop} {B a : Nat} {u : Value} {f : Nat → V3} {m m2 : Me} (h0 : MI w P B a u f m) (h : MI w2 P B a u f m2) (hl : m2.l.length = m.l.length) (hs : ∀ i, i < m.l.length → (at_ m2.l i).s = (at_ m.l i).s ∧ (at_ m2.l i).v = (at_ m.l i).v ∧ (at_ m2.l i).x = (at_ m.l i).x)
    (hP : ∀ k, P k → k < w.heap.size) (hm : Mods (fun k => w.heap.size ≤ k) w2 w') : MI w' P B a u f m2 :=
  ⟨hm.heap h.blk (by have := h0.lt; omega), h.ge, h.mine, Row.of (ownsRow_mods h.row.own hm fun k hk q => by have := hP k (h.row.mine k hk); omega) h.row.mine (fun i hi => by
    have hi2 : i < m.l.length := by omega
    obtain ⟨g1, g2, g3⟩ := h.row.sets i hi
    obtain ⟨k1, k2, k3⟩ := h0.row.sets i hi2
    obtain ⟨e1, e2, e3⟩ := hs i hi2
    rw [← e1] at k1; rw [← e2] at k2; rw [← e3] at k3
    exact ⟨⟨set_old k1 g1 hm, (h.row.apart i hi).1⟩, ⟨set_old k2 g2 hm, (h.row.apart i hi).2.1⟩, ⟨set_old k3 g3 hm, (h.row.apart i hi).2.2⟩⟩), h.ok⟩
theorem RI.young {w w2 w' : World} {P : Nat → Prop} {B a : Nat} {u : Value} {f : Nat → V3} {m m2 : Me} (h0 : RI w P B a u f m) (h : RI w2 P B a u f m2) (hl : m2.l.length = m.l.length) (hs : ∀ i, i < m.l.length → (at_ m2.l i).s = (at_ m.l i).s ∧ (at_ m2.l i).v = (at_ m.l i).v ∧ (at_ m2.l i).x = (at_ m.l i).x)
    (hP : ∀ k, P k → k < w.heap.size) (hm : Mods (fun k => w.heap.size ≤ k) w2 w') : RI w' P B a u f m2 :=
  ⟨hm.heap h.blk (by have := h0.lt; omega), h.ge, h.mine, Row.of (ownsRow_mods h.row.own hm fun k hk q => by have := hP k (h.row.mine k hk); omega) h.row.mine (fun i hi => by
    have hi2 : i < m.l.length := by omega
    obtain ⟨g1, g2, g3⟩ := h.row.sets i hi
    obtain ⟨k1, k2, k3⟩ := h0.row.sets i hi2
    obtain ⟨e1, e2, e3⟩ := hs i hi2
    rw [← e1] at k1; rw [← e2] at k2; rw [← e3] at k3
    exact ⟨⟨set_old k1 g1 hm, (h.row.apart i hi).1⟩, ⟨set_old k2 g2 hm, (h.row.apart i hi).2.1⟩, ⟨set_old k3 g3 hm, (h.row.apart i hi).2.2⟩⟩), h.ok⟩
theorem mark_same (l : List En) {i : Nat} (hi : i < l.length) (b : Bool) (j : Nat) : (at_ (l.set i (mk1 (at_ l i) b)) j).s = (at_ l j).s ∧ (at_ (l.set i (mk1 (at_ l i) b)) j).v = (at_ l j).v ∧ (at_ (l.set i (mk1 (at_ l i) b)) j).x = (at_ l j).x := by
  rw [at_set _ _ _ _ hi]
  split
  · rename_i e; subst e; exact ⟨rfl, rfl, rfl⟩
  · exact ⟨rfl, rfl, rfl⟩
/-- A box of two cells that is stored to behind. -/
theorem mods_box2 (w : World) (g : Nat) (a b : Value) : Mods (fun k => k = g) w ((w.setCell ⟨g, 0, none⟩ a).setCell ⟨g, 1, none⟩ b) := (mods_cell w g 0 a).trans (mods_cell _ g 1 b)
theorem mods_new {S T : Nat → Prop} {w w1 w2 : World} (h : Mods S w w1) (h2 : Mods T w1 w2) (hT : ∀ k, T k → w.heap.size ≤ k) : Mods S w w2 :=
  ⟨h2.os.trans h.os, h2.tape.trans h.tape, h2.output.trans h.output, Nat.le_trans h.size h2.size, fun k hk hs => (h2.block k (Nat.lt_of_lt_of_le hk h.size) (fun q => by have := hT k q; omega)).trans (h.block k hk hs)⟩
/-- Behind a mark. -/
theorem MI.mark {w : World} {P : Nat → Prop} {B a g n cap : Nat} {f : Nat → V3} {m : Me} (h : MI w P B a (.slice (some ⟨g, 0, none⟩) n cap) f m) (hn : n = m.l.length) {i : Nat} (hi : i < m.l.length) (b : Bool) :
    MI (w.setCell ⟨g, i * 5 + 4, none⟩ (.bool b)) P B a (.slice (some ⟨g, 0, none⟩) n cap) f ⟨m.room, m.l.set i (mk1 (at_ m.l i) b), m.hand⟩ := by
  obtain ⟨_, cur, hh⟩ := row_block h.row.own (k := g) rfl
  have hne := type_ne h.blk hh (by decide)
  refine ⟨(mods_cell w g _ _).heap h.blk hne, h.ge, h.mine, row_mark h.row hn hi b, h.ok.r0, h.ok.r1, by rw [List.length_set]; exact h.ok.len, h.ok.hand, fun j hj => ?_⟩
  have hj2 : j < m.l.length := by simpa using hj
  show EnOk (at_ (m.l.set _ _) j)
  rw [at_set _ _ _ _ hi]
  split
  · exact mk1_ok (h.ok.en i hi) b
  · exact h.ok.en j hj2
theorem RI.mark {w : World} {P : Nat → Prop} {B a g n cap : Nat} {f : Nat → V3} {m : Me} (h : RI w P B a (.slice (some ⟨g, 0, none⟩) n cap) f m) (hn : n = m.l.length) {i : Nat} (hi : i < m.l.length) (b : Bool) :
    RI (w.setCell ⟨g, i * 5 + 4, none⟩ (.bool b)) P B a (.slice (some ⟨g, 0, none⟩) n cap) f ⟨m.room, m.l.set i (mk1 (at_ m.l i) b), m.hand⟩ := by
  obtain ⟨_, cur, hh⟩ := row_block h.row.own (k := g) rfl
  have hne := type_ne h.blk hh (by decide)
  refine ⟨(mods_cell w g _ _).heap h.blk hne, h.ge, h.mine, row_mark h.row hn hi b, h.ok.r0, h.ok.r1, by rw [List.length_set]; exact h.ok.len, h.ok.hand, fun j hj => ?_⟩
  have hj2 : j < m.l.length := by simpa using hj
  show EnOk (at_ (m.l.set _ _) j)
  rw [at_set _ _ _ _ hi]
  split
  · exact mk1_ok (h.ok.en i hi) b
  · exact h.ok.en j hj2
theorem MO.same {w w' : World} {P : Nat → Prop} {B a : Nat} {v : Value} {f : Nat → V3} {m : Me} (hP : ∀ k, P k → k < w.heap.size) (h : MI w' P B a v f m) (hm : Mods (fun k => k = a ∨ v.ownBlock = some k) w w') : MO w P B a v m w' :=
  ⟨P, v, f, fun _ q => q, fun _ q => Or.inl q, fun k q => Nat.lt_of_lt_of_le (hP k q) hm.size, h, hm, fun _ q => Or.inl q⟩
theorem RO.same {w w' : World} {P : Nat → Prop} {B a : Nat} {v : Value} {f : Nat → V3} {m : Me} (hP : ∀ k, P k → k < w.heap.size) (h : RI w' P B a v f m) (hm : Mods (fun k => k = a ∨ v.ownBlock = some k) w w') : RO w P B a v m w' :=
  ⟨P, v, f, fun _ q => q, fun _ q => Or.inl q, fun k q => Nat.lt_of_lt_of_le (hP k q) hm.size, h, hm, fun _ q => Or.inl q⟩
/-- The same, of blocks that no memory is made of. -/
def HandsMP (P : Nat → Prop) (x : (List Wd × Bool) × Bool) (e : Ending) (w' : World) : Prop := ∃ u, e = .returned (.tuple #[.agg #[u, .bool x.1.2], .bool x.2]) ∧ Set w' u x.1.1 ∧ ∀ k, u.ownBlock = some k → ¬ P k
theorem HandsMP.m {P : Nat → Prop} {x : (List Wd × Bool) × Bool} {e : Ending} {w' : World} (h : HandsMP P x e w') : HandsM x e w' := by
  obtain ⟨u, h1, h2, _⟩ := h
  exact ⟨u, h1, h2⟩
set_option maxRecDepth 20000 in
set_option maxHeartbeats 1600000 in
theorem get_cp (P : Nat → Prop) (B a : Nat) (u : Value) (f : Nat → V3) (m : Me) (us uv : Value) (s v : List Wd) (w : World) (hm : MI w P B a u f m) (hP : ∀ k, P k → k < w.heap.size) (k1 : Set w us s) (k2 : Set w uv v) :
    Calls Try.prog 25 #[.pointer (some ⟨a, 0, none⟩), us, uv] w fun e w' => HandsMP P (getP m s v) e w' ∧ MO w P B a u (getM m s v) w' := by
  have HFI := hid (fun w' (h : Nw w w') => find_c P B a u f m us uv s v w' (hm.nw h) (k1.nw h) (k2.nw h))
  have HCL := hid (fun x s w' (h : Set w' x s) (h2 : s.length ≤ 1000) => clonew_c x s w' h (by omega))
  obtain ⟨p1, c1v, rfl, _⟩ := k1.open
  obtain ⟨p2, c2v, rfl, _⟩ := k2.open
  obtain ⟨p, cap, rfl, hcap, hmx, _, hc⟩ := row_open hm.row
  unfold maxLen at hmx
  have hal := hm.lt
  clear k1 k2
  go_enter Try.func25, Try.ntmps25
  go_upto_region 1 with fail
  have y6 := heap_new w (.cells #[.slice none 0 0, .bool false] 47)
  have hnA := (Nw.refl w).alloc (.cells #[.slice none 0 0, .bool false] 47)
  have lA := lt_alloc w (.cells #[.slice none 0 0, .bool false] 47)
  generalize w.alloc (.cells #[.slice none 0 0, .bool false] 47) = w0 at *
  by_cases hf : fnd m.l s v < m.l.length
  · have hg1 : getP m s v = (((at_ m.l (fnd m.l s v)).x, (at_ m.l (fnd m.l s v)).e), true) := if_pos hf
    have hg2 : getM m s v = ⟨m.room, m.l.set (fnd m.l s v) (mk1 (at_ m.l (fnd m.l s v)) true), m.hand⟩ := if_pos hf
    have HG1 := hid hg1
    have HG2 := hid hg2
    have hpl : plc m.l.length (fnd m.l s v) = (fnd m.l s v : Int) := if_pos hf
    rw [hpl] at HFI
    clear hg1 hg2 hpl
    generalize fnd m.l s v = i at *
    obtain ⟨g, rfl, q0, q1, q2, q3, q4⟩ := hc i hf
    clear hc
    have hd0 : decide ((i : Int) < 0) = false := decide_eq_false (by omega)
    have hdl : decide ((m.l.length : Int) ≤ (i : Int)) = false := decide_eq_false (by omega)
    go_upto_region 4 with (first
      | (go_at_call 50; refine (HFI.out _ hnA).mono ?_; rintro e w1 ⟨rfl, hn1⟩)
      | fail)
    have hw1 := hnA.trans hn1
    have hm1 := hm.nw hw1
    replace y6 := hn1.heap y6
    have ga1 : a < w1.heap.size := hm1.lt
    have e1 := heap_cell hm1.blk 1
    simp only [List.getElem?_toArray, List.getElem?_cons_succ, List.getElem?_cons_zero] at e1
    have c4 := hw1.cell q4
    have gg := World.block_lt_of_cell? w1 _ c4
    simp only at gg
    have hfz : w1.frozen? ⟨g, i * 5 + 4, none⟩ = false := World.ownsRow.frozenAt hm1.row.own (i * 5 + 4)
    clear q0 q1 q2 q3 q4 HFI hnA hn1
    go_upto_region 8 with fail
    have hgw : g < w.heap.size := hP g (hm.row.mine g rfl)
    have hm2 := hm1.mark rfl hf true
    have hmd : Mods (fun k => k = a ∨ (Value.slice (some ⟨g, 0, none⟩) m.l.length cap).ownBlock = some k) w (w1.setCell ⟨g, i * 5 + 4, none⟩ (.bool true)) := (hw1.mods _).trans ((mods_cell w1 g (i * 5 + 4) (.bool true)).mono (fun k e => Or.inr (by rw [e]; rfl)))
    replace y6 := (mods_cell w1 g (i * 5 + 4) (.bool true)).heap y6 (by omega)
    have hsz : w.heap.size < (w1.setCell ⟨g, i * 5 + 4, none⟩ (.bool true)).heap.size := lt_of_heap y6
    clear hm1 e1 c4 gg hfz ga1 hw1
    generalize w1.setCell ⟨g, i * 5 + 4, none⟩ (.bool true) = w2 at *
    have hil : i < (m.l.set i (mk1 (at_ m.l i) true)).length := by rw [List.length_set]; exact hf
    obtain ⟨_, _, h9, _, _, _, hc2⟩ := row_open hm2.row
    simp only [Value.slice.injEq] at h9
    obtain ⟨rfl, h9b, rfl⟩ := h9
    clear h9b
    obtain ⟨_, e9, _, _, c2, c3, _⟩ := hc2 i hil
    cases e9
    have hset := (hm2.row.sets i hil).2.2
    have hlx := (hm.ok.en i hf).lx
    simp only [at_set _ _ _ _ hf, if_true] at c3 hset
    change w2.cell? _ = some (.bool (at_ m.l i).e) at c3
    change Set w2 _ (at_ m.l i).x at hset
    obtain ⟨p3, c3v, e3, _⟩ := id hset.open
    rw [e3] at c2 hset
    have gg := World.block_lt_of_cell? w2 _ c2
    simp only at gg
    have HC2 := hid (fun w' (h : Nw w2 w') => HCL.out _ _ w' (hset.nw h) hlx)
    generalize (at_ m.l i).x = nx at *
    generalize (at_ m.l i).e = ne at *
    clear HCL hc2 hset e3
    refine wp_region_tail 12 (by kernel_rfl) (by kernel_rfl) (by kernel_rfl) (by kernel_rfl) (by kernel_rfl) ?_
    dsimp only [List.take, List.drop]
    iterate 5
      refine Stairs.is ?_ ?_ ?_
      rotate_left 1
      · intro x wR hR hd K hK
        simp only [Act.put, List.setIfInBounds_toArray, List.set_cons_zero, List.set_cons_succ, Say.ok] at hK ⊢
        clear hd
        change Hid _ at hK
        obtain ⟨hcR, hfR, hzR⟩ := nwc hR
        first | (refine wanted_yes ?_ ?_; rfl) | (refine wanted_no ?_ ?_; rfl)
        go_wp2_with (first | (go_at_call 52; refine (HC2.out _ (by repeat (first | assumption | exact Nw.refl _ | refine Nw.alloc ?_ _ | refine Nw.drew ?_ | refine Nw.drewN2 ?_ _ | (refine Nw.trans ?_ (by assumption))))).mono ?_; rintro e w5 ⟨v5, rfl, hs5, hf5, hn5⟩))
        all_goals (refine hK.out _ _ ?_ ?_ <;> first | (solve | (repeat (first | assumption | exact Nw.refl _ | refine Nw.alloc ?_ _ | refine Nw.drew ?_ | refine Nw.drewN2 ?_ _ | (refine Nw.trans ?_ (by assumption))))) | exact rfl)
      try simp only [Act.put, List.setIfInBounds_toArray, List.set_cons_zero, List.set_cons_succ]
    iterate 1
      refine Stairs.that (WdS w2.heap.size nx) (by first | assumption | simp) ?_ ?_
      · intro x wR hR hd K hK
        simp only [Act.put, List.setIfInBounds_toArray, List.set_cons_zero, List.set_cons_succ, Say.ok] at hK ⊢
        clear hd
        change Hid _ at hK
        obtain ⟨hcR, hfR, hzR⟩ := nwc hR
        first | (refine wanted_yes ?_ ?_; rfl) | (refine wanted_no ?_ ?_; rfl)
        go_wp2_with (first | (go_at_call 52; refine (HC2.out _ (by repeat (first | assumption | exact Nw.refl _ | refine Nw.alloc ?_ _ | refine Nw.drew ?_ | refine Nw.drewN2 ?_ _ | (refine Nw.trans ?_ (by assumption))))).mono ?_; rintro e w5 ⟨v5, rfl, hs5, hf5, hn5⟩))
        all_goals (refine hK.out _ _ ?_ ?_ <;> first | (solve | (repeat (first | assumption | exact Nw.refl _ | refine Nw.alloc ?_ _ | refine Nw.drew ?_ | refine Nw.drewN2 ?_ _ | (refine Nw.trans ?_ (by assumption))))) | exact rfl | exact WdS.of hs5 hf5 (Nw.size (by assumption)))
      try simp only [Act.put, List.setIfInBounds_toArray, List.set_cons_zero, List.set_cons_succ, List.length_nil, List.length_cons, List.nil_append, List.cons_append, Nat.reduceAdd]
    iterate 5
      refine Stairs.is ?_ ?_ ?_
      rotate_left 1
      · intro x wR hR hd K hK
        simp only [Act.put, List.setIfInBounds_toArray, List.set_cons_zero, List.set_cons_succ, Say.ok] at hK ⊢
        try simp [Region.binds, sayAt, Say.ok] at hd
        change Hid _ at hK
        obtain ⟨hcR, hfR, hzR⟩ := nwc hR
        first | (refine wanted_yes ?_ ?_; rfl) | (refine wanted_no ?_ ?_; rfl)
        go_wp2_with (first | (go_at_call 52; refine (HC2.out _ (by repeat (first | assumption | exact Nw.refl _ | refine Nw.alloc ?_ _ | refine Nw.drew ?_ | refine Nw.drewN2 ?_ _ | (refine Nw.trans ?_ (by assumption))))).mono ?_; rintro e w5 ⟨v5, rfl, hs5, hf5, hn5⟩))
        all_goals (refine hK.out _ _ ?_ ?_ <;> first | (solve | (repeat (first | assumption | exact Nw.refl _ | refine Nw.alloc ?_ _ | refine Nw.drew ?_ | refine Nw.drewN2 ?_ _ | (refine Nw.trans ?_ (by assumption))))) | exact rfl)
      try simp only [Act.put, List.setIfInBounds_toArray, List.set_cons_zero, List.set_cons_succ]
    iterate 1
      refine Stairs.that (MvS w2.heap.size nx ne) (by first | assumption | simp) ?_ ?_
      · intro x wR hR hd K hK
        simp only [Act.put, List.setIfInBounds_toArray, List.set_cons_zero, List.set_cons_succ, Say.ok] at hK ⊢
        try simp [Region.binds, sayAt, Say.ok] at hd
        change Hid _ at hK
        obtain ⟨hcR, hfR, hzR⟩ := nwc hR
        have hu5 : WdS w2.heap.size nx wR (x 5) := (by first | exact hd | exact hd.2 | exact hd.1); obtain ⟨q5, n5, c5, e5, hu5'⟩ := hu5; rw [e5] at hK ⊢
        first | (refine wanted_yes ?_ ?_; rfl) | (refine wanted_no ?_ ?_; rfl)
        go_wp2_with (first | (go_at_call 52; refine (HC2.out _ (by repeat (first | assumption | exact Nw.refl _ | refine Nw.alloc ?_ _ | refine Nw.drew ?_ | refine Nw.drewN2 ?_ _ | (refine Nw.trans ?_ (by assumption))))).mono ?_; rintro e w5 ⟨v5, rfl, hs5, hf5, hn5⟩))
        all_goals (refine hK.out _ _ ?_ ?_ <;> first | (solve | (repeat (first | assumption | exact Nw.refl _ | refine Nw.alloc ?_ _ | refine Nw.drew ?_ | refine Nw.drewN2 ?_ _ | (refine Nw.trans ?_ (by assumption))))) | exact rfl | exact ⟨_, _, _, rfl, hu5'⟩)
      try simp only [Act.put, List.setIfInBounds_toArray, List.set_cons_zero, List.set_cons_succ, List.length_nil, List.length_cons, List.nil_append, List.cons_append, Nat.reduceAdd]
    refine Stairs.nil ?_
    intro x wR hR hx yR
    have h5 := hx 5 (by decide)
    simp only [sayAt, Say.ok] at h5
    have h11 := hx 11 (by decide)
    simp only [sayAt, Say.ok] at h11
    clear hx
    simp only [fill, Act.put, List.setIfInBounds_toArray, List.set_cons_zero, List.set_cons_succ]
    obtain ⟨hcR, hfR, hzR⟩ := nwc hR
    obtain ⟨q11, n11, c11, e11, hs11⟩ := h11
    rw [e11]
    clear h5
    have y6R := hR.heap y6
    have b0 := heap_cell y6R 0
    have b1 := heap_cell y6R 1
    have f0 := heap_frozen y6R 0
    have f1 := heap_frozen y6R 1
    have gb := lt_of_heap y6R
    simp only [List.getElem?_toArray, List.getElem?_cons_succ, List.getElem?_cons_zero] at b0 b1
    clear hcR hfR hzR
    go_wp2
    ((try simp only [Exit.inBlock, Exit.then]); refine bodyPost_ret (results_cell2 rfl _ _ _ _ _ _ _ rfl (heap_set (heap_set y6R 0 (.slice q11 n11 c11)) 1 (.bool ne)) Try.underlying47 rfl (by kernel_rfl)) rfl ?_)
    have hmb := mods_box2 wR w.heap.size (.slice q11 n11 c11) (.bool ne)
    rw [HG1.out, HG2.out]
    exact ⟨⟨_, rfl, Sl.mods hs11.1 hmb fun _ k hk hs => (by have := hs11.2 k hk; omega), fun k hk hp => (by have := hs11.2 k hk; have := hP k hp; omega)⟩, MO.same hP (MI.young hm (hm2.nw hR) List.length_set (fun j _ => mark_same _ hf _ _) hP (hmb.mono fun k e => by omega)) (mods_new (hmd.nw hR) hmb fun k e => by omega)⟩
  · have HG1 := hid (show getP m s v = (([], false), false) from if_neg hf)
    have HG2 := hid (show getM m s v = m from if_neg hf)
    have hpl : plc m.l.length (fnd m.l s v) = -1 := if_neg hf
    rw [hpl] at HFI
    clear hc hpl hf
    have ga := Nat.lt_of_lt_of_le hal hnA.size
    go_upto_region 4 with (first
      | (go_at_call 50; refine (HFI.out _ hnA).mono ?_; rintro e w1 ⟨rfl, hn1⟩)
      | fail)
    have y6R := hn1.heap y6
    have b0 := heap_cell y6R 0
    have b1 := heap_cell y6R 1
    have f0 := heap_frozen y6R 0
    have f1 := heap_frozen y6R 1
    have gb := lt_of_heap y6R
    simp only [List.getElem?_toArray, List.getElem?_cons_succ, List.getElem?_cons_zero] at b0 b1
    go_wp2
    ((try simp only [Exit.inBlock, Exit.then]); refine bodyPost_ret (results_cell2 rfl _ _ _ _ _ _ _ rfl (heap_set (heap_set y6R 0 (.slice none 0 0)) 1 (.bool false)) Try.underlying47 rfl (by kernel_rfl)) rfl ?_)
    have hmb := mods_box2 w1 w.heap.size (.slice none 0 0) (.bool false)
    rw [HG1.out, HG2.out]
    exact ⟨⟨_, rfl, Set.nil _, fun k hk => (by cases hk)⟩, MO.same hP (MI.young hm (hm.nw (hnA.trans hn1)) rfl (fun j _ => ⟨rfl, rfl, rfl⟩) hP (hmb.mono fun k e => by omega)) (mods_new ((hnA.trans hn1).mods _) hmb fun k e => by omega)⟩
theorem get_c (P : Nat → Prop) (B a : Nat) (u : Value) (f : Nat → V3) (m : Me) (us uv : Value) (s v : List Wd) (w : World) (hm : MI w P B a u f m) (hP : ∀ k, P k → k < w.heap.size) (k1 : Set w us s) (k2 : Set w uv v) :
    Calls Try.prog 25 #[.pointer (some ⟨a, 0, none⟩), us, uv] w fun e w' => HandsM (getP m s v) e w' ∧ MO w P B a u (getM m s v) w' :=
  (get_cp P B a u f m us uv s v w hm hP k1 k2).mono fun _ _ h => ⟨h.1.m, h.2⟩
/-! ### Get, by the document -/
set_option maxRecDepth 20000 in
set_option maxHeartbeats 1600000 in
theorem rget_c (P : Nat → Prop) (B a : Nat) (u : Value) (f : Nat → V3) (m : Me) (us uv : Value) (s v : List Wd) (w : World) (hm : RI w P B a u f m) (hP : ∀ k, P k → k < w.heap.size) (k1 : Set w us s) (k2 : Set w uv v) (ls : s.length ≤ 1000) (lv : v.length ≤ 1000) :
    Calls Try.prog 32 #[.pointer (some ⟨a, 0, none⟩), us, uv] w fun e w' => HandsM (getP m s v) e w' ∧ RO w P B a u (getM m s v) w' := by
  have HFI := hid (fun w' (h : Nw w w') => rfind_c P B a u f m us uv s v w' (hm.nw h) (k1.nw h) (k2.nw h) ls lv)
  obtain ⟨p1, c1v, rfl, _⟩ := k1.open
  obtain ⟨p2, c2v, rfl, _⟩ := k2.open
  obtain ⟨p, cap, rfl, hcap, hmx, _, hc⟩ := row_open hm.row
  unfold maxLen at hmx
  have hal := hm.lt
  clear k1 k2
  go_enter Try.func32, Try.ntmps32
  go_upto_region 1 with fail
  have y6 := heap_new w (.cells #[.slice none 0 0, .bool false] 47)
  have hnA := (Nw.refl w).alloc (.cells #[.slice none 0 0, .bool false] 47)
  have lA := lt_alloc w (.cells #[.slice none 0 0, .bool false] 47)
  generalize w.alloc (.cells #[.slice none 0 0, .bool false] 47) = w0 at *
  by_cases hf : fnd m.l s v < m.l.length
  · have hg1 : getP m s v = (((at_ m.l (fnd m.l s v)).x, (at_ m.l (fnd m.l s v)).e), true) := if_pos hf
    have hg2 : getM m s v = ⟨m.room, m.l.set (fnd m.l s v) (mk1 (at_ m.l (fnd m.l s v)) true), m.hand⟩ := if_pos hf
    have HG1 := hid hg1
    have HG2 := hid hg2
    have hpl : plc m.l.length (fnd m.l s v) = (fnd m.l s v : Int) := if_pos hf
    rw [hpl] at HFI
    clear hg1 hg2 hpl
    generalize fnd m.l s v = i at *
    obtain ⟨g, rfl, q0, q1, q2, q3, q4⟩ := hc i hf
    clear hc
    have hd0 : decide ((i : Int) < 0) = false := decide_eq_false (by omega)
    have hdl : decide ((m.l.length : Int) ≤ (i : Int)) = false := decide_eq_false (by omega)
    go_upto_region 2 with (first
      | (go_at_call 54; refine (HFI.out _ hnA).mono ?_; rintro e w1 ⟨rfl, hn1⟩)
      | fail)
    have hw1 := hnA.trans hn1
    have hm1 := hm.nw hw1
    replace y6 := hn1.heap y6
    have ga1 : a < w1.heap.size := hm1.lt
    have e1 := heap_cell hm1.blk 2
    simp only [List.getElem?_toArray, List.getElem?_cons_succ, List.getElem?_cons_zero] at e1
    have c4 := hw1.cell q4
    have gg := World.block_lt_of_cell? w1 _ c4
    simp only at gg
    have hfz : w1.frozen? ⟨g, i * 5 + 4, none⟩ = false := World.ownsRow.frozenAt hm1.row.own (i * 5 + 4)
    clear q0 q1 q2 q3 q4 HFI hnA hn1
    go_upto_region 5 with fail
    have hgw : g < w.heap.size := hP g (hm.row.mine g rfl)
    have hm2 := hm1.mark rfl hf true
    have hmd : Mods (fun k => k = a ∨ (Value.slice (some ⟨g, 0, none⟩) m.l.length cap).ownBlock = some k) w (w1.setCell ⟨g, i * 5 + 4, none⟩ (.bool true)) := (hw1.mods _).trans ((mods_cell w1 g (i * 5 + 4) (.bool true)).mono (fun k e => Or.inr (by rw [e]; rfl)))
    replace y6 := (mods_cell w1 g (i * 5 + 4) (.bool true)).heap y6 (by omega)
    have hsz : w.heap.size < (w1.setCell ⟨g, i * 5 + 4, none⟩ (.bool true)).heap.size := lt_of_heap y6
    clear hm1 e1 c4 gg hfz ga1 hw1
    generalize w1.setCell ⟨g, i * 5 + 4, none⟩ (.bool true) = w2 at *
    have hil : i < (m.l.set i (mk1 (at_ m.l i) true)).length := by rw [List.length_set]; exact hf
    obtain ⟨_, _, h9, _, _, _, hc2⟩ := row_open hm2.row
    simp only [Value.slice.injEq] at h9
    obtain ⟨rfl, h9b, rfl⟩ := h9
    clear h9b
    obtain ⟨_, e9, _, _, c2, c3, _⟩ := hc2 i hil
    cases e9
    have hset := (hm2.row.sets i hil).2.2
    have hset0 := (hm.row.sets i hf).2.2
    simp only [at_set _ _ _ _ hf, if_true] at c3 hset
    change w2.cell? _ = some (.bool (at_ m.l i).e) at c3
    change Set w2 _ (at_ m.l i).x at hset
    obtain ⟨p3, c3v, e3, _⟩ := id hset.open
    rw [e3] at c2 hset hset0
    have gg := World.block_lt_of_cell? w2 _ c2
    simp only at gg
    have ga2 := hm2.lt
    have e2 := heap_cell hm2.blk 2
    simp only [List.getElem?_toArray, List.getElem?_cons_succ, List.getElem?_cons_zero] at e2
    generalize (at_ m.l i).x = nx at *
    generalize (at_ m.l i).e = ne at *
    clear hc2 e3
    have b0 := heap_cell y6 0
    have b1 := heap_cell y6 1
    have f0 := heap_frozen y6 0
    have f1 := heap_frozen y6 1
    simp only [List.getElem?_toArray, List.getElem?_cons_succ, List.getElem?_cons_zero] at b0 b1
    go_wp2
    ((try simp only [Exit.inBlock, Exit.then]); refine bodyPost_ret (results_cell2 rfl _ _ _ _ _ _ _ rfl (heap_set (heap_set y6 0 (.slice p3 nx.length c3v)) 1 (.bool ne)) Try.underlying47 rfl (by kernel_rfl)) rfl ?_)
    have hmb := mods_box2 w2 w.heap.size (.slice p3 nx.length c3v) (.bool ne)
    rw [HG1.out, HG2.out]
    exact ⟨⟨_, rfl, set_old hset0 hset (hmb.mono fun k e => by omega)⟩, RO.same hP (RI.young hm hm2 List.length_set (fun j _ => mark_same _ hf _ _) hP (hmb.mono fun k e => by omega)) (mods_new hmd hmb fun k e => by omega)⟩
  · have HG1 := hid (show getP m s v = (([], false), false) from if_neg hf)
    have HG2 := hid (show getM m s v = m from if_neg hf)
    have hpl : plc m.l.length (fnd m.l s v) = -1 := if_neg hf
    rw [hpl] at HFI
    clear hc hpl hf
    have ga := Nat.lt_of_lt_of_le hal hnA.size
    go_upto_region 2 with (first
      | (go_at_call 54; refine (HFI.out _ hnA).mono ?_; rintro e w1 ⟨rfl, hn1⟩)
      | fail)
    have y6R := hn1.heap y6
    have b0 := heap_cell y6R 0
    have b1 := heap_cell y6R 1
    have f0 := heap_frozen y6R 0
    have f1 := heap_frozen y6R 1
    have gb := lt_of_heap y6R
    simp only [List.getElem?_toArray, List.getElem?_cons_succ, List.getElem?_cons_zero] at b0 b1
    go_wp2
    ((try simp only [Exit.inBlock, Exit.then]); refine bodyPost_ret (results_cell2 rfl _ _ _ _ _ _ _ rfl (heap_set (heap_set y6R 0 (.slice none 0 0)) 1 (.bool false)) Try.underlying47 rfl (by kernel_rfl)) rfl ?_)
    have hmb := mods_box2 w1 w.heap.size (.slice none 0 0) (.bool false)
    rw [HG1.out, HG2.out]
    exact ⟨⟨_, rfl, Set.nil _⟩, RO.same hP (RI.young hm (hm.nw (hnA.trans hn1)) rfl (fun j _ => ⟨rfl, rfl, rfl⟩) hP (hmb.mono fun k e => by omega)) (mods_new ((hnA.trans hn1).mods _) hmb fun k e => by omega)⟩
/-! ### Len, Cells, New, SameMove -/
set_option maxRecDepth 20000 in
theorem len_c (P : Nat → Prop) (B a : Nat) (u : Value) (f : Nat → V3) (m : Me) (w : World) (hm : MI w P B a u f m) :
    Calls Try.prog 28 #[.pointer (some ⟨a, 0, none⟩)] w (Gives (.int .i64 (m.l.length : Int)) w) := by
  obtain ⟨p, cap, rfl, hcap, hmx, _, hc⟩ := row_open hm.row
  have hal := hm.lt
  have e1 := heap_cell hm.blk 1
  simp only [List.getElem?_toArray, List.getElem?_cons_succ, List.getElem?_cons_zero] at e1
  clear hc hm
  go_enter Try.func28, Try.ntmps28
  go_wp2
  go_ret
  exact ⟨rfl, Nw.refl _⟩
theorem samem_c (u1 u2 : Value) (s1 s2 : List Wd) (b1 b2 : Bool) (w : World) (h1 : Set w u1 s1) (h2 : Set w u2 s2) :
    Calls Try.prog 47 #[.agg #[u1, .bool b1], .agg #[u2, .bool b2]] w (Gives (.bool (decide (s1 = s2) && (b1 == b2))) w) := by
  have HS := hid (fun w' (h : Nw w w') => samewords_c u1 u2 s1 s2 w' (h1.nw h) (h2.nw h))
  obtain ⟨p1, c1, rfl, _⟩ := h1.open
  obtain ⟨p2, c2, rfl, _⟩ := h2.open
  generalize decide (s1 = s2) = r at *
  go_enter Try.func47, Try.ntmps47
  go_upto_region 1 with fail
  have n1 := (Nw.refl w).alloc (.cells #[.slice p1 s1.length c1, .bool b1] 47)
  have y1 := heap_new w (.cells #[.slice p1 s1.length c1, .bool b1] 47)
  have z1 : (w.alloc (.cells #[.slice p1 s1.length c1, .bool b1] 47)).heap.size = w.heap.size + 1 := by show (w.heap.push _).size = _; rw [Array.size_push]
  generalize w.alloc (.cells #[.slice p1 s1.length c1, .bool b1] 47) = w1 at *
  have n2 := (Nw.refl w1).alloc (.cells #[.slice p2 s2.length c2, .bool b2] 47)
  have y2 := heap_new w1 (.cells #[.slice p2 s2.length c2, .bool b2] 47)
  generalize w1.alloc (.cells #[.slice p2 s2.length c2, .bool b2] 47) = w2 at *
  replace y1 := n2.heap y1
  rw [z1] at y2
  have hn := n1.trans n2
  have a0 := heap_cell y1 0
  have a1 := heap_cell y1 1
  have d0 := heap_cell y2 0
  have d1 := heap_cell y2 1
  simp only [List.getElem?_toArray, List.getElem?_cons_succ, List.getElem?_cons_zero] at a0 a1 d0 d1
  have g1 := lt_of_heap y1
  have g2 := lt_of_heap y2
  clear y1 y2 n1 n2 z1 h1 h2
  cases r with
  | false =>
    go_wp2_with (first
      | (go_at_call 26; refine (HS.out _ hn).mono ?_; rintro e w3 ⟨rfl, hn3⟩; replace a1 := hn3.cell a1; replace d1 := hn3.cell d1; replace g1 := Nat.lt_of_lt_of_le g1 hn3.size; replace g2 := Nat.lt_of_lt_of_le g2 hn3.size)
      | fail)
    go_ret
    exact Gives.b rfl (hn.trans hn3)
  | true =>
    go_wp2_with (first
      | (go_at_call 26; refine (HS.out _ hn).mono ?_; rintro e w3 ⟨rfl, hn3⟩; replace a1 := hn3.cell a1; replace d1 := hn3.cell d1; replace g1 := Nat.lt_of_lt_of_le g1 hn3.size; replace g2 := Nat.lt_of_lt_of_le g2 hn3.size)
      | fail)
    go_ret
    exact Gives.b (by simp) (hn.trans hn3)
end Mm
end Go.Proofs.Ythellicimicieaa
