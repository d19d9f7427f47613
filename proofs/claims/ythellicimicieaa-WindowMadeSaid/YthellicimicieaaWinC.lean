/- Buckets in memory; the contract of plain. No condition but lengths. -/
import Derived.Test.YthellicimicieaaWinB
import Derived.Test.YthellicimicieaaBitsE
import Derived.Test.YthellicimicieaaModR
set_option linter.unusedSimpArgs false
set_option linter.unusedVariables false
namespace Go.Proofs.Ythellicimicieaa
open Go.ChangeShapes Go.WideShapes Go.ChangeAt Go.RowKit
namespace Wn
open Ival Words
/-- A new block of two cells. -/
theorem box2 (w : World) (a b : Value) (e : TypeId) : (w.alloc (.cells #[a, b] e)).cell? ⟨w.heap.size, 0, none⟩ = some a ∧ (w.alloc (.cells #[a, b] e)).cell? ⟨w.heap.size, 1, none⟩ = some b :=
  ⟨cell_new w #[a, b] e (0, 0) 0 (by simp), cell_new w #[a, b] e (0, 0) 1 (by simp)⟩
def BC (w : World) (p : Option Addr) (bs : Bs) : Prop :=
  ∀ i, i < bs.length → ∃ b oo vi, p = some ⟨b, oo, none⟩ ∧ w.cell? ⟨b, oo + i * 2, none⟩ = some (.int .i64 (off bs i)) ∧ w.cell? ⟨b, oo + i * 2 + 1, none⟩ = some vi ∧ Words.Set w vi (st bs i)
theorem BC.nw {w w' : World} {p : Option Addr} {bs : Bs} (h : BC w p bs) (hn : Nw w w') : BC w' p bs := fun i hi => by
  obtain ⟨b, oo, vi, e, h1, h2, h3⟩ := h i hi
  exact ⟨b, oo, vi, e, hn.cell h1, hn.cell h2, h3.nw hn⟩
def Bks (w : World) (v : Value) (bs : Bs) : Prop := ∃ p cap, v = .slice p bs.length cap ∧ bs.length ≤ cap ∧ cap ≤ maxLen ∧ (p = none → cap = 0) ∧ BC w p bs
theorem Bks.nw {w w' : World} {v : Value} {bs : Bs} (h : Bks w v bs) (hn : Nw w w') : Bks w' v bs := by
  obtain ⟨p, cap, e, h1, h2, h3, h4⟩ := h
  exact ⟨p, cap, e, h1, h2, h3, h4.nw hn⟩
theorem Bks.nil (w : World) : Bks w (.slice none 0 0) [] := ⟨none, 0, rfl, Nat.le_refl _, Nat.zero_le _, fun _ => rfl, fun i h => by cases h⟩
theorem Bks.shape {w : World} {v : Value} {bs : Bs} {n : Nat} (h : Bks w v bs) (hn : bs.length = n) : ∃ p c, v = .slice p n c := by
  subst hn
  obtain ⟨p, c, e, _⟩ := h
  exact ⟨p, c, e⟩
/-- How great a window's rows are. -/
structure Sm (n m : Nat) (bs : Bs) : Prop where
  n : bs.length ≤ n
  m : ∀ b ∈ bs, b.2.length ≤ m
theorem Sm.at {n m : Nat} {bs : Bs} (h : Sm n m bs) (i : Nat) (hi : i < bs.length) : (st bs i).length ≤ m := h.m _ (off_mem hi)
theorem Sm.nil (n m : Nat) : Sm n m [] := ⟨Nat.zero_le _, fun b hb => by cases hb⟩
theorem Sm.mono {n m n' m' : Nat} {bs : Bs} (h : Sm n m bs) (h1 : n ≤ n') (h2 : m ≤ m') : Sm n' m' bs := ⟨Nat.le_trans h.n h1, fun b hb => Nat.le_trans (h.m b hb) h2⟩
theorem or_len (a b : List Wd) : (or a b).length ≤ max a.length b.length := mk_len _ _
theorem trim_sm {n m : Nat} {bs : Bs} (h : Sm n m bs) : Sm n m (trimB bs) := ⟨by rw [trimB_length]; exact h.n, fun b hb => by
  obtain ⟨x, hx, rfl⟩ := trimB_mem hb
  exact Nat.le_trans (trim_len _) (h.m x hx)⟩
theorem ins_len (bs : Bs) (c : Int) (s : List Wd) : (ins bs c s).length ≤ bs.length + 1 := by
  induction bs with
  | nil => simp [ins]
  | cons y r ih =>
    obtain ⟨o, x⟩ := y
    unfold ins
    split
    · simp
    · split
      · simp
      · simp only [List.length_cons]; omega
theorem ins_sm {n m : Nat} {bs : Bs} (h : Sm n m bs) {c : Int} {s : List Wd} (hs : s.length ≤ m) : Sm (n + 1) m (ins bs c s) := ⟨Nat.le_trans (ins_len _ _ _) (by have := h.n; omega), fun b hb => by
  rcases ins_mem b hb with rfl | hb | ⟨x, q1, rfl⟩
  · exact hs
  · exact h.m b hb
  · have := or_len x s; have := h.m _ q1; dsimp only at *; omega⟩
theorem add_sm {n m : Nat} {bs : Bs} (h : Sm n m bs) (lo hi c : Int) {s : List Wd} (hs : s.length ≤ m) : Sm (n + 1) m (addP lo hi bs c s) := by
  unfold addP
  split
  · split
    · exact ins_sm (trim_sm h) (Nat.le_trans (trim_len _) hs)
    · exact (trim_sm h).mono (by omega) (Nat.le_refl _)
  · exact Sm.nil _ _
theorem push_len (out : Bs) (c : Int) (s : List Wd) : (push out c s).length ≤ out.length + 1 := by
  unfold push
  split
  · omega
  · split
    · rw [List.length_append, List.length_take, List.length_singleton]; omega
    · simp
theorem push_sm {n m : Nat} {out : Bs} (h : Sm n m out) (c : Int) {s : List Wd} (hs : s.length ≤ m) : Sm (n + 1) m (push out c s) := by
  refine ⟨Nat.le_trans (push_len _ _ _) (by have := h.n; omega), fun b hb => ?_⟩
  unfold push at hb
  split at hb
  · exact h.m b hb
  · split at hb
    · rename_i h2
      rcases List.mem_append.1 hb with q | q
      · exact h.m b (List.mem_of_mem_take q)
      · simp only [List.mem_singleton] at q
        subst q
        have := or_len (st out (out.length - 1)) s
        have := h.at (out.length - 1) (by omega)
        dsimp only; omega
    · rcases List.mem_append.1 hb with q | q
      · exact h.m b q
      · simp only [List.mem_singleton] at q
        subst q
        exact Nat.le_trans (trim_len _) hs
theorem pushes_sm {lo hi d : Int} {m : Nat} : ∀ (l out : Bs) (n : Nat), Sm n m out → (∀ b ∈ l, b.2.length ≤ m) → Sm (n + l.length) m (pushes lo hi d out l)
  | [], out, n, h, _ => h
  | b :: r, out, n, h, hl => by
    have := pushes_sm (lo := lo) (hi := hi) (d := d) r _ (n + 1) (push_sm h (later lo hi b.1 d) (hl b List.mem_cons_self)) (fun x hx => hl x (List.mem_cons_of_mem _ hx))
    exact this.mono (by rw [List.length_cons]; omega) (Nat.le_refl _)
theorem shift_sm {n m : Nat} {bs : Bs} (h : Sm n m bs) (lo hi d : Int) : Sm n m (shiftP lo hi bs d) := by
  unfold shiftP
  split
  · exact (pushes_sm bs [] 0 (Sm.nil _ _) h.m).mono (by have := h.n; omega) (Nat.le_refl _)
  · exact Sm.nil _ _
theorem ors_len {lo hi : Int} {m : Nat} : ∀ (l : Bs) (a : List Wd), a.length ≤ m → (∀ b ∈ l, b.2.length ≤ m) → (ors lo hi a l).length ≤ m
  | [], a, h, _ => h
  | b :: r, a, h, hl => by
    have e : ors lo hi a (b :: r) = ors lo hi (if inn lo hi b.1 = true then or a b.2 else a) r := rfl
    rw [e]
    refine ors_len r _ ?_ (fun x hx => hl x (List.mem_cons_of_mem _ hx))
    split
    · have := or_len a b.2
      have := hl b List.mem_cons_self
      omega
    · exact h
/-! ### Rows of the call's own -/
theorem info_bucket : (Try.prog.info? 60).map (fun i => (i.zero, i.size, i.bytes)) = some (some (.agg #[.int .i64 0, .slice none 0 0]), 2, 32) := by kernel_rfl
def bkc (bs : Bs) (vs : List Value) : List Value := (bs.zip vs).flatMap fun x => [.int .i64 x.1.1, x.2]
theorem bkc_cons (b : Int × List Wd) (r : Bs) (v : Value) (q : List Value) : bkc (b :: r) (v :: q) = .int .i64 b.1 :: v :: bkc r q := by simp [bkc]
theorem bkc_snoc (bs : Bs) (vs : List Value) (b : Int × List Wd) (v : Value) (h : vs.length = bs.length) : bkc (bs ++ [b]) (vs ++ [v]) = bkc bs vs ++ [.int .i64 b.1, v] := by
  unfold bkc
  rw [List.zip_append h.symm]
  simp
theorem bkc_len (bs : Bs) : ∀ vs : List Value, vs.length = bs.length → (bkc bs vs).length = bs.length * 2 := by
  induction bs with
  | nil => intro vs _; simp [bkc]
  | cons e r ih =>
    intro vs h
    cases vs with
    | nil => simp at h
    | cons v q =>
      have := ih q (by simpa using h)
      rw [bkc_cons]
      simp only [List.length_cons, this]
      omega
theorem bkc_at (bs : Bs) : ∀ (vs : List Value) (i : Nat), vs.length = bs.length → i < bs.length → (bkc bs vs)[i * 2]? = some (.int .i64 (off bs i)) ∧ (bkc bs vs)[i * 2 + 1]? = some (vs.getD i undef) := by
  induction bs with
  | nil => intro vs i _ h; cases h
  | cons e r ih =>
    intro vs i h hi
    cases vs with
    | nil => simp at h
    | cons v q =>
      cases i with
      | zero => simp [bkc, off]
      | succ i =>
        have := ih q i (by simpa using h) (by simpa using hi)
        rw [bkc_cons, show (i + 1) * 2 = i * 2 + 2 by omega, show i * 2 + 2 + 1 = (i * 2 + 1) + 2 by omega]
        simpa [off] using this
theorem bkc_set1 (u : Value) (s : List Wd) (bs : Bs) : ∀ (vs : List Value) (i : Nat), vs.length = bs.length → i < bs.length → (bkc bs vs).set (i * 2 + 1) u = bkc (bs.set i (off bs i, s)) (vs.set i u) := by
  induction bs with
  | nil => intro vs i _ h; cases h
  | cons e r ih =>
    intro vs i h hi
    cases vs with
    | nil => simp at h
    | cons v q =>
      cases i with
      | zero => rw [List.set_cons_zero, List.set_cons_zero, bkc_cons, bkc_cons]; rfl
      | succ i =>
        have := ih q i (by simpa using h) (by simpa using hi)
        rw [List.set_cons_succ, List.set_cons_succ, bkc_cons, bkc_cons, show (i + 1) * 2 + 1 = i * 2 + 1 + 1 + 1 by omega, List.set_cons_succ, List.set_cons_succ, this, off_cons]
theorem bkc_set0 (z : Int) (bs : Bs) : ∀ (vs : List Value) (i : Nat), vs.length = bs.length → i < bs.length → (bkc bs vs).set (i * 2) (.int .i64 z) = bkc (bs.set i (z, st bs i)) vs := by
  induction bs with
  | nil => intro vs i _ h; cases h
  | cons e r ih =>
    intro vs i h hi
    cases vs with
    | nil => simp at h
    | cons v q =>
      cases i with
      | zero => rw [List.set_cons_zero, bkc_cons, bkc_cons]; rfl
      | succ i =>
        have := ih q i (by simpa using h) (by simpa using hi)
        rw [List.set_cons_succ, bkc_cons, bkc_cons, show (i + 1) * 2 = i * 2 + 1 + 1 by omega, List.set_cons_succ, List.set_cons_succ, this, st_cons]
theorem off_set (bs : Bs) (i : Nat) (x : Int × List Wd) (j : Nat) : off (bs.set i x) j = if j = i ∧ i < bs.length then x.1 else off bs j := by
  unfold off
  rw [List.getD_eq_getElem?_getD, List.getElem?_set, List.getD_eq_getElem?_getD]
  by_cases h : i = j
  · subst h
    by_cases h2 : i < bs.length
    · simp [h2]
    · simp [h2]
  · rw [if_neg h, if_neg (by omega)]
theorem st_set (bs : Bs) (i : Nat) (x : Int × List Wd) (j : Nat) : st (bs.set i x) j = if j = i ∧ i < bs.length then x.2 else st bs j := by
  unfold st
  rw [List.getD_eq_getElem?_getD, List.getElem?_set, List.getD_eq_getElem?_getD]
  by_cases h : i = j
  · subst h
    by_cases h2 : i < bs.length
    · simp [h2]
    · simp [h2]
  · rw [if_neg h, if_neg (by omega)]
theorem off_snoc_lt (bs : Bs) (e : Int × List Wd) (i : Nat) (h : i < bs.length) : off (bs ++ [e]) i = off bs i := by
  simp [off, List.getD_eq_getElem?_getD, List.getElem?_append_left h]
theorem st_snoc_lt (bs : Bs) (e : Int × List Wd) (i : Nat) (h : i < bs.length) : st (bs ++ [e]) i = st bs i := by
  simp [st, List.getD_eq_getElem?_getD, List.getElem?_append_left h]
theorem st_snoc (bs : Bs) (e : Int × List Wd) : st (bs ++ [e]) bs.length = e.2 := by simp [st, List.getD_eq_getElem?_getD]
/-- A row of buckets of the call's own: its block begins at B or later; its sets lie elsewhere. -/
def BkOwn (w : World) (B : Nat) (v : Value) (bs : Bs) : Prop :=
  ∃ vs : List Value, vs.length = bs.length ∧ w.ownsRow B 60 2 v bs.length (bkc bs vs) ∧
    ∀ i, i < bs.length → Words.Set w (vs.getD i undef) (st bs i) ∧ (st bs i ≠ [] → ∀ k, (vs.getD i undef).ownBlock = some k → v.ownBlock ≠ some k)
theorem BkOwn.nil (w : World) (B : Nat) : BkOwn w B (.slice none 0 0) [] := ⟨[], rfl, World.ownsRow_nil w B _ 2, fun i h => by cases h⟩
theorem BkOwn.nw {w w' : World} {B : Nat} {v : Value} {bs : Bs} (h : BkOwn w B v bs) (hn : Nw w w') : BkOwn w' B v bs := by
  obtain ⟨vs, h1, h2, h3⟩ := h
  exact ⟨vs, h1, hn.ownsRow h2, fun i hi => ⟨(h3 i hi).1.nw hn, (h3 i hi).2⟩⟩
theorem BkOwn.bks {w : World} {B : Nat} {v : Value} {bs : Bs} (h : BkOwn w B v bs) : Bks w v bs := by
  obtain ⟨vs, h1, h2, h3⟩ := h
  rcases h2.2 with ⟨rfl, hn⟩ | ⟨g, cap, cur, rfl, hb, hg, hn, hm, hs, ht⟩
  · obtain rfl : bs = [] := List.length_eq_zero_iff.1 hn
    exact Bks.nil w
  · refine ⟨some ⟨g, 0, none⟩, cap, rfl, hn, hm, (fun h => by cases h), fun i hi => ?_⟩
    obtain ⟨c1, c2⟩ := bkc_at bs vs i h1 hi
    have a1 := h2.cells (g := g) rfl (i * 2) _ c1
    have a2 := h2.cells (g := g) rfl (i * 2 + 1) _ c2
    rw [addr_add] at a1 a2
    exact ⟨g, 0, _, rfl, a1, by rw [Nat.add_assoc]; exact a2, (h3 i hi).1⟩
theorem BkOwn.shape {w : World} {B n : Nat} {v : Value} {bs : Bs} (h : BkOwn w B v bs) (hn : bs.length = n) : ∃ q c, v = .slice q n c := h.bks.shape hn
theorem BkOwn.lt {w : World} {B : Nat} {v : Value} {bs : Bs} (h : BkOwn w B v bs) : ∀ k, v.ownBlock = some k → B ≤ k ∧ k < w.heap.size := fun k hk => by
  obtain ⟨vs, _, h2, _⟩ := h
  exact World.ownsRow.lt h2 k hk
theorem set_ne {s : List Wd} (h : ws s ≠ []) : s ≠ [] := fun e => h (by rw [e]; rfl)
theorem set_ne' {s : List Wd} (h : s ≠ []) : ws s ≠ [] := fun e => h (by cases s with | nil => rfl | cons x r => simp [ws] at e)
theorem set_grown {w w' : World} {v : Value} {s : List Wd} {row : Option Nat} (h : Words.Set w v s) (hg : w.grownBy w' row) (hne : s ≠ [] → ∀ k, v.ownBlock = some k → row ≠ some k) : Words.Set w' v s :=
  Sl.keep h fun h0 k hk => hg.block k (Sl.lt h h0 k hk) (fun e => hne (set_ne h0) k hk e.symm)
theorem set_mods {S : Nat → Prop} {w w' : World} {v : Value} {s : List Wd} (h : Words.Set w v s) (hm : Mods S w w') (hS : s ≠ [] → ∀ k, v.ownBlock = some k → ¬ S k) : Words.Set w' v s :=
  Sl.mods h hm fun h0 => hS (set_ne h0)
/-- One bucket more. -/
theorem BkOwn.add {w w' : World} {B : Nat} {v v' vi : Value} {bs : Bs} {vs : List Value} {c : Int} {s : List Wd} (h1 : vs.length = bs.length)
    (h3 : ∀ i, i < bs.length → Words.Set w (vs.getD i undef) (st bs i) ∧ (st bs i ≠ [] → ∀ k, (vs.getD i undef).ownBlock = some k → v.ownBlock ≠ some k))
    (hi : Words.Set w vi s) (hne : s ≠ [] → ∀ k, vi.ownBlock = some k → v.ownBlock ≠ some k) (ho : w'.ownsRow B 60 2 v' (bs.length + 1) (bkc bs vs ++ [.int .i64 c, vi])) (hg : w.grownBy w' v.ownBlock)
    (hat : v'.ownBlock = v.ownBlock ∨ v'.ownBlock = some w.heap.size) : BkOwn w' B v' (bs ++ [(c, s)]) := by
  have new : ∀ {u : Value} {m : List Wd}, Words.Set w u m → (m ≠ [] → ∀ k, u.ownBlock = some k → v.ownBlock ≠ some k) → Words.Set w' u m ∧ (m ≠ [] → ∀ k, u.ownBlock = some k → v'.ownBlock ≠ some k) := by
    intro u m hu hk
    refine ⟨set_grown hu hg hk, fun h0 k hk2 => ?_⟩
    rcases hat with e | e
    · rw [e]; exact hk h0 k hk2
    · rw [e]
      intro e2
      have := Sl.lt hu (set_ne' h0) k hk2
      simp only [Option.some.injEq] at e2
      omega
  refine ⟨vs ++ [vi], by simp [h1], by rw [bkc_snoc _ _ _ _ h1, List.length_append]; exact ho, fun i hi2 => ?_⟩
  rw [List.length_append, List.length_singleton] at hi2
  by_cases hlt : i < bs.length
  · rw [st_snoc_lt _ _ _ hlt, show (vs ++ [vi]).getD i undef = vs.getD i undef by simp [List.getD_eq_getElem?_getD, List.getElem?_append_left (show i < vs.length by omega)]]
    exact new (h3 i hlt).1 (h3 i hlt).2
  · obtain rfl : i = bs.length := by omega
    rw [st_snoc, show (vs ++ [vi]).getD bs.length undef = vi by simp [List.getD_eq_getElem?_getD, ← h1]]
    exact new hi hne
/-- A bucket's set is written anew. -/
theorem BkOwn.put {w : World} {B g n c : Nat} {u : Value} {bs : Bs} {s : List Wd} (h : BkOwn w B (.slice (some ⟨g, 0, none⟩) n c) bs) (hn : bs.length = n) (i : Nat) (hi : i < n) (hu : Words.Set w u s) (hg : ∀ k, u.ownBlock = some k → k ≠ g) :
    BkOwn (w.setCell ⟨g, i * 2 + 1, none⟩ u) B (.slice (some ⟨g, 0, none⟩) n c) (bs.set i (off bs i, s)) := by
  subst hn
  obtain ⟨vs, h1, h2, h3⟩ := h
  have hm : Mods (fun k => k = g) w (w.setCell ⟨g, i * 2 + 1, none⟩ u) := Mods.setCell (S := fun k => k = g) (Mods.refl _ w) (p := ⟨g, i * 2 + 1, none⟩) rfl u
  have hs := (World.ownsRow.stored h2 (i * 2 + 1) u).1
  rw [bkc_set1 u s bs vs i h1 hi] at hs
  refine ⟨vs.set i u, by rw [List.length_set, List.length_set]; exact h1, by rw [List.length_set]; exact hs, fun j hj => ?_⟩
  rw [List.length_set] at hj
  by_cases hji : j = i
  · subst hji
    rw [st_set, if_pos ⟨rfl, hj⟩, show (vs.set j u).getD j undef = u by simp [List.getD_eq_getElem?_getD, h1, hj]]
    exact ⟨set_mods hu hm fun _ k hk => hg k hk, fun _ k hk q => hg k hk (by cases q; rfl)⟩
  · rw [st_set, if_neg (fun q => hji q.1), show (vs.set i u).getD j undef = vs.getD j undef by simp [List.getD_eq_getElem?_getD, List.getElem?_set, Ne.symm hji]]
    exact ⟨set_mods (h3 j hj).1 hm fun h0 k hk q => (h3 j hj).2 h0 k hk (by rw [q]; rfl), (h3 j hj).2⟩
/-- A bucket's place is written anew: how the row reads then. -/
theorem BkOwn.moved {w : World} {B g n c : Nat} {bs : Bs} (h : BkOwn w B (.slice (some ⟨g, 0, none⟩) n c) bs) (hn : bs.length = n) (i : Nat) (hi : i < n) (z : Int) :
    BkOwn (w.setCell ⟨g, i * 2, none⟩ (.int .i64 z)) B (.slice (some ⟨g, 0, none⟩) n c) (bs.set i (z, st bs i)) := by
  subst hn
  obtain ⟨vs, h1, h2, h3⟩ := h
  have hm : Mods (fun k => k = g) w (w.setCell ⟨g, i * 2, none⟩ (.int .i64 z)) := Mods.setCell (S := fun k => k = g) (Mods.refl _ w) (p := ⟨g, i * 2, none⟩) rfl _
  have hs := (World.ownsRow.stored h2 (i * 2) (.int .i64 z)).1
  rw [bkc_set0 z bs vs i h1 hi] at hs
  refine ⟨vs, by rw [List.length_set]; exact h1, by rw [List.length_set]; exact hs, fun j hj => ?_⟩
  rw [List.length_set] at hj
  have e : st (bs.set i (z, st bs i)) j = st bs j := by
    rw [st_set]
    by_cases hji : j = i ∧ i < bs.length
    · rw [if_pos hji, hji.1]
    · rw [if_neg hji]
  rw [e]
  exact ⟨set_mods (h3 j hj).1 hm fun h0 k hk q => (h3 j hj).2 h0 k hk (by rw [q]; rfl), (h3 j hj).2⟩
theorem BkOwn.cell {w : World} {B g n c : Nat} {bs : Bs} (h : BkOwn w B (.slice (some ⟨g, 0, none⟩) n c) bs) (hn : bs.length = n) (i : Nat) (hi : i < n) :
    ∃ q d, w.cell? ⟨g, i * 2, none⟩ = some (.int .i64 (off bs i)) ∧ w.cell? ⟨g, i * 2 + 1, none⟩ = some (.slice q (st bs i).length d) ∧ Words.Set w (.slice q (st bs i).length d) (st bs i) ∧ ∀ j, w.frozen? ⟨g, j, none⟩ = false := by
  subst hn
  obtain ⟨vs, h1, h2, h3⟩ := h
  obtain ⟨q, d, e, _⟩ := (h3 i hi).1.open
  have hl := bkc_len bs vs h1
  have hk := bkc_at bs vs i h1 hi
  have hs := (h3 i hi).1
  rw [e] at hk hs
  exact ⟨q, d, (World.ownsRow.cellAt h2 (i * 2) (by omega)).trans hk.1, (World.ownsRow.cellAt h2 (i * 2 + 1) (by omega)).trans hk.2, hs, fun j => World.ownsRow.frozenAt h2 j⟩
theorem BkOwn.opened {w : World} {B n : Nat} {v : Value} {bs : Bs} (h : BkOwn w B v bs) (hn : bs.length = n) (h0 : 0 < n) : ∃ g c, v = .slice (some ⟨g, 0, none⟩) n c ∧ B ≤ g ∧ g < w.heap.size := by
  subst hn
  obtain ⟨vs, h1, h2, _⟩ := h
  rcases h2.2 with ⟨_, q⟩ | ⟨g, cap, cur, rfl, hb, hg, _⟩
  · omega
  · exact ⟨g, cap, rfl, hb, lt_of_heap hg⟩
/-! ### plain -/
theorem or_nil (s : List Wd) : or s [] = trim s := Words.ext (or_trim _ _) (trim_trim _) fun i => by rw [wd_or, wd_nil, wd_trim]; simp
theorem plain_c (v : Value) (s : List Wd) (w : World) (hv : Words.Set w v s) (hl : s.length ≤ 1073741824) : Calls Try.prog 46 #[v] w (HandsW w (trim s)) := by
  have HO := hid (fun w' (h : Nw w w') => or_c v (.slice none 0 0) s [] w' (hv.nw h) (Words.Set.nil w') hl (Nat.zero_le _))
  obtain ⟨p, cap, rfl, _⟩ := hv.open
  rw [or_nil] at HO
  go_enter Try.func46, Try.ntmps46
  go_wp2_with (first
    | (go_at_call 36; refine (HO.out _ (by repeat (first | assumption | exact Nw.refl _ | refine Nw.alloc ?_ _ | refine Nw.drew ?_ | refine Nw.drewN2 ?_ _ | (refine Nw.trans ?_ (by assumption))))).mono ?_; rintro e w1 ⟨v1, rfl, hs1, hk1, hn1⟩)
    | fail)
  go_ret
  exact ⟨_, rfl, hs1, hk1, hn1⟩
end Wn
end Go.Proofs.Ythellicimicieaa
