/- Memories of moves, plain: what is found, put, told, kept (no program in sight). No condition. -/
import Derived.Test.YthellicimicieaaWords
set_option linter.unusedSimpArgs false
set_option linter.unusedVariables false
namespace Go.Proofs.Ythellicimicieaa
open Go.ChangeShapes Go.WideShapes Go.ChangeAt Go.RowKit
namespace Mm
open Go.Proofs.Ythellicimicieaa.Words (Wd trim trim_trim trim_len)
/-- An entry: two sets, a move's states, does it end, its mark. -/
structure En where
  s : List Wd
  v : List Wd
  x : List Wd
  e : Bool
  k : Bool
/-- A memory: its room, its entries, the hand's place. -/
structure Me where
  room : Nat
  l : List En
  hand : Nat
def nought : En := ⟨[], [], [], false, false⟩
def at_ (l : List En) (i : Nat) : En := l.getD i nought
def hit (s v : List Wd) (n : En) : Bool := decide (n.s = trim s ∧ n.v = trim v)
/-- The place of an entry (the list's length: there is none). -/
def fnd (l : List En) (s v : List Wd) : Nat := l.findIdx (hit s v)
def mk1 (n : En) (b : Bool) : En := ⟨n.s, n.v, n.x, n.e, b⟩
def new_ (s v x : List Wd) (e : Bool) : En := ⟨trim s, trim v, trim x, e, true⟩
/-- What Get tells. -/
def getP (m : Me) (s v : List Wd) : (List Wd × Bool) × Bool :=
  if fnd m.l s v < m.l.length then (((at_ m.l (fnd m.l s v)).x, (at_ m.l (fnd m.l s v)).e), true) else (([], false), false)
/-- What Get leaves. -/
def getM (m : Me) (s v : List Wd) : Me :=
  if fnd m.l s v < m.l.length then ⟨m.room, m.l.set (fnd m.l s v) (mk1 (at_ m.l (fnd m.l s v)) true), m.hand⟩ else m
/-- The clock's hand goes on over what is marked. -/
def clk (room : Nat) : Nat → List En → Nat → List En × Nat
  | 0, l, h => (l, h)
  | f + 1, l, h => if (at_ l h).k = true then clk room f (l.set h (mk1 (at_ l h) false)) ((h + 1) % room) else (l, h)
/-- What Put leaves. -/
def putM (m : Me) (s v x : List Wd) (e : Bool) : Me :=
  if fnd m.l s v < m.l.length then ⟨m.room, m.l.set (fnd m.l s v) (new_ s v x e), m.hand⟩
  else if m.l.length < m.room then ⟨m.room, m.l ++ [new_ s v x e], m.hand⟩
  else ⟨m.room, (clk m.room m.l.length m.l m.hand).1.set (clk m.room m.l.length m.l m.hand).2 (new_ s v x e), ((clk m.room m.l.length m.l m.hand).2 + 1) % m.room⟩
def cells (l : List En) : Nat := (l.map fun n => n.s.length + n.v.length + n.x.length + 1).sum
/-! ### What stays so -/
structure EnOk (n : En) : Prop where
  s : trim n.s = n.s
  v : trim n.v = n.v
  x : trim n.x = n.x
  ls : n.s.length ≤ 1000
  lv : n.v.length ≤ 1000
  lx : n.x.length ≤ 1000
structure Ok (m : Me) : Prop where
  r0 : 1 ≤ m.room
  r1 : m.room ≤ 4096
  len : m.l.length ≤ m.room
  hand : m.hand < m.room
  en : ∀ i, i < m.l.length → EnOk (at_ m.l i)
theorem at_get (l : List En) (i : Nat) (h : i < l.length) : at_ l i = l[i] := by simp [at_, h]
theorem at_set (l : List En) (i j : Nat) (n : En) (h : i < l.length) : at_ (l.set i n) j = if i = j then n else at_ l j := by
  unfold at_
  simp only [List.getD_eq_getElem?_getD, List.getElem?_set]
  split
  · rename_i he; subst he; simp [h]
  · rfl
theorem at_app (l : List En) (n : En) (j : Nat) (h : j < l.length + 1) : at_ (l ++ [n]) j = if j = l.length then n else at_ l j := by
  unfold at_
  simp only [List.getD_eq_getElem?_getD, List.getElem?_append]
  split
  · rw [if_neg (by omega)]
  · have : j = l.length := by omega
    subst this
    rw [if_pos rfl]; simp
theorem at_ext {a b : List En} (hl : a.length = b.length) (h : ∀ i, i < a.length → at_ a i = at_ b i) : a = b :=
  List.ext_getElem hl fun i h1 h2 => by rw [← at_get a i h1, ← at_get b i h2]; exact h i h1
theorem new_ok {s v x : List Wd} {e : Bool} (hs : s.length ≤ 1000) (hv : v.length ≤ 1000) (hx : x.length ≤ 1000) : EnOk (new_ s v x e) :=
  ⟨trim_trim _, trim_trim _, trim_trim _, Nat.le_trans (trim_len _) hs, Nat.le_trans (trim_len _) hv, Nat.le_trans (trim_len _) hx⟩
theorem mk1_ok {n : En} (h : EnOk n) (b : Bool) : EnOk (mk1 n b) := ⟨h.s, h.v, h.x, h.ls, h.lv, h.lx⟩
/-- The clock keeps the length, the hand within the room, and each entry but its mark. -/
theorem clk_keeps (room : Nat) (hr : 0 < room) : ∀ (f : Nat) (l : List En) (h : Nat), l.length = room → h < room → (clk room f l h).1.length = l.length ∧ (clk room f l h).2 < room ∧ ∀ j, j < l.length → ∃ b, at_ (clk room f l h).1 j = mk1 (at_ l j) b
  | 0, l, h, hl, hh => ⟨rfl, hh, fun j hj => ⟨(at_ l j).k, rfl⟩⟩
  | f + 1, l, h, hl, hh => by
    unfold clk
    split
    · obtain ⟨h1, h2, h3⟩ := clk_keeps room hr f (l.set h (mk1 (at_ l h) false)) ((h + 1) % room) (by rw [List.length_set]; exact hl) (Nat.mod_lt _ hr)
      refine ⟨h1.trans (List.length_set), h2, fun j hj => ?_⟩
      obtain ⟨b, hb⟩ := h3 j (by rw [List.length_set]; exact hj)
      refine ⟨b, ?_⟩
      rw [hb, at_set _ _ _ _ (by omega)]
      split
      · rename_i he; subst he; rfl
      · rfl
    · exact ⟨rfl, hh, fun j hj => ⟨(at_ l j).k, rfl⟩⟩
theorem getM_ok {m : Me} (h : Ok m) (s v : List Wd) : Ok (getM m s v) := by
  unfold getM
  split
  · rename_i hf
    refine ⟨h.r0, h.r1, by rw [List.length_set]; exact h.len, h.hand, fun i hi => ?_⟩
    rw [List.length_set] at hi
    rw [at_set _ _ _ _ hf]
    split
    · exact mk1_ok (h.en _ hf) _
    · exact h.en i hi
  · exact h
theorem putM_ok {m : Me} (h : Ok m) {s v x : List Wd} (e : Bool) (hs : s.length ≤ 1000) (hv : v.length ≤ 1000) (hx : x.length ≤ 1000) : Ok (putM m s v x e) := by
  unfold putM
  split
  · rename_i hf
    refine ⟨h.r0, h.r1, by rw [List.length_set]; exact h.len, h.hand, fun i hi => ?_⟩
    rw [List.length_set] at hi
    rw [at_set _ _ _ _ hf]
    split
    · exact new_ok hs hv hx
    · exact h.en i hi
  split
  · rename_i hr
    refine ⟨h.r0, h.r1, by show (m.l ++ [new_ s v x e]).length ≤ m.room; rw [List.length_append, List.length_singleton]; omega, h.hand, fun i hi => ?_⟩
    rw [List.length_append, List.length_singleton] at hi
    rw [at_app _ _ _ hi]
    split
    · exact new_ok hs hv hx
    · exact h.en i (by omega)
  · rename_i hr
    have hlen : m.l.length = m.room := by have := h.len; omega
    obtain ⟨k1, k2, k3⟩ := clk_keeps m.room h.r0 m.l.length m.l m.hand hlen h.hand
    refine ⟨h.r0, h.r1, by rw [List.length_set, k1]; exact h.len, Nat.mod_lt _ h.r0, fun i hi => ?_⟩
    rw [List.length_set, k1] at hi
    rw [at_set _ _ _ _ (by rw [k1]; omega)]
    split
    · exact new_ok hs hv hx
    · obtain ⟨b, hb⟩ := k3 i hi
      rw [hb]
      exact mk1_ok (h.en i hi) b
/-! ### The clock, step by step -/
def marks (l : List En) : Nat := (l.filter fun n => n.k).length
theorem marks_le (l : List En) : marks l ≤ l.length := List.length_filter_le _ _
theorem marks_set : ∀ (l : List En) (h : Nat), h < l.length → (at_ l h).k = true → marks (l.set h (mk1 (at_ l h) false)) + 1 = marks l
  | n :: r, 0, _, hk => by
    have hk' : n.k = true := hk
    unfold marks at_ mk1
    simp only [List.set_cons_zero, List.getD_cons_zero, List.filter_cons, hk', if_true, Bool.false_eq_true, if_false, List.length_cons]
  | n :: r, h + 1, hl, hk => by
    have ih := marks_set r h (by simp at hl; omega) hk
    unfold marks at *
    have e : at_ (n :: r) (h + 1) = at_ r h := rfl
    rw [e]
    simp only [List.set_cons_succ, List.filter_cons]
    split
    · simp only [List.length_cons]; omega
    · exact ih
theorem clk_step {room f h : Nat} {l : List En} (hk : (at_ l h).k = true) : clk room (f + 1) l h = clk room f (l.set h (mk1 (at_ l h) false)) ((h + 1) % room) := by
  rw [clk, if_pos hk]
theorem clk_stop {room h : Nat} {l : List En} (hk : (at_ l h).k = false) : ∀ f, clk room f l h = (l, h)
  | 0 => rfl
  | f + 1 => by rw [clk, if_neg (by rw [hk]; decide)]
/-! ### What is found -/
theorem fnd_le (l : List En) (s v : List Wd) : fnd l s v ≤ l.length := List.findIdx_le_length
theorem fnd_hit {l : List En} {s v : List Wd} (h : fnd l s v < l.length) : hit s v (at_ l (fnd l s v)) = true := by
  rw [at_get _ _ h]
  exact List.findIdx_getElem (w := h)
theorem fnd_not {l : List En} {s v : List Wd} {j : Nat} (h : j < fnd l s v) : hit s v (at_ l j) = false := by
  have hl := Nat.lt_of_lt_of_le h (fnd_le l s v)
  rw [at_get _ _ hl]
  have := List.not_of_lt_findIdx h
  simpa using this
theorem fnd_eq {l : List En} {s v : List Wd} {j : Nat} (hj : j < l.length) (h : hit s v (at_ l j) = true) (hn : ∀ i, i < j → hit s v (at_ l i) = false) : fnd l s v = j := by
  rcases Nat.lt_trichotomy (fnd l s v) j with h1 | h1 | h1
  · have := fnd_hit (Nat.lt_trans h1 hj)
    rw [hn _ h1] at this
    cases this
  · exact h1
  · rw [fnd_not h1] at h; cases h
theorem fnd_none {l : List En} {s v : List Wd} (hn : ∀ i, i < l.length → hit s v (at_ l i) = false) : fnd l s v = l.length := by
  rcases Nat.lt_or_ge (fnd l s v) l.length with h1 | h1
  · have := fnd_hit h1
    rw [hn _ h1] at this
    cases this
  · exact Nat.le_antisymm (fnd_le _ _ _) h1
theorem cells_le (l : List En) (h : ∀ i, i < l.length → EnOk (at_ l i)) : cells l ≤ 3001 * l.length := by
  induction l with
  | nil => exact Nat.le_refl _
  | cons n r ih =>
    have h0 := h 0 (Nat.zero_lt_succ _)
    have h0' : EnOk n := h0
    have := ih (fun i hi => h (i + 1) (by simp; omega))
    unfold cells at *
    simp only [List.map_cons, List.sum_cons, List.length_cons]
    have := h0'.ls; have := h0'.lv; have := h0'.lx
    omega
theorem cells_take (l : List En) (k : Nat) (h : k < l.length) : cells (l.take (k + 1)) = cells (l.take k) + ((at_ l k).s.length + (at_ l k).v.length + (at_ l k).x.length + 1) := by
  rw [at_get _ _ h]
  unfold cells
  rw [List.take_succ_eq_append_getElem h, List.map_append, List.sum_append]
  simp only [List.map_cons, List.map_nil, List.sum_cons, List.sum_nil, Nat.add_zero]
theorem new_mem_ok {room : Nat} (h0 : 1 ≤ room) (h1 : room ≤ 4096) : Ok ⟨room, [], 0⟩ := ⟨h0, h1, Nat.zero_le _, h0, fun i hi => by cases hi⟩
end Mm
end Go.Proofs.Ythellicimicieaa
