/- Windows: which may be, what is told of them, and their laws (plain, but for the words and the classes). No condition. -/
import Derived.Test.YthellicimicieaaWords
import Derived.Test.YthellicimicieaaIvalB
set_option linter.unusedSimpArgs false
set_option linter.unusedVariables false
namespace Go.Proofs.Ythellicimicieaa
namespace Wn
open Ival Words
abbrev Bs := List (Int × List Wd)
def off (bs : Bs) (i : Nat) : Int := (bs.getD i (0, [])).1
def st (bs : Bs) (i : Nat) : List Wd := (bs.getD i (0, [])).2
def bOk (lo hi : Int) (bs : Bs) (i : Nat) : Bool := decide (0 ≤ off bs i) && (decide (off bs i < wide lo hi) && (!decide (trim (st bs i) = []) && (decide (i = 0) || decide (off bs (i - 1) < off bs i))))
def mayTo (lo hi : Int) (bs : Bs) (k : Nat) : Bool := (List.range k).all (bOk lo hi bs)
def mayW (lo hi : Int) (bs : Bs) : Bool := may lo hi && mayTo lo hi bs bs.length
def trimB (bs : Bs) : Bs := bs.map fun b => (b.1, trim b.2)
def ins : Bs → Int → List Wd → Bs
  | [], c, s => [(c, s)]
  | (o, x) :: r, c, s => if c < o then (c, s) :: (o, x) :: r else if o = c then (o, or x s) :: r else (o, x) :: ins r c s
def fits (lo hi : Int) (c : Int) (s : List Wd) : Bool := !decide (trim s = []) && (decide (0 ≤ c) && decide (c < wide lo hi))
def addP (lo hi : Int) (bs : Bs) (c : Int) (s : List Wd) : Bs := if mayW lo hi bs = true then (if fits lo hi c s = true then ins (trimB bs) c (trim s) else trimB bs) else []
/-- One bucket behind those that are there. -/
def push (out : Bs) (c : Int) (s : List Wd) : Bs :=
  if c < 0 then out else if 0 < out.length ∧ off out (out.length - 1) = c then out.take (out.length - 1) ++ [(c, or (st out (out.length - 1)) s)] else out ++ [(c, trim s)]
def pushes (lo hi d : Int) (out : Bs) (l : Bs) : Bs := l.foldl (fun o b => push o (later lo hi b.1 d) b.2) out
def shiftP (lo hi : Int) (bs : Bs) (d : Int) : Bs := if mayW lo hi bs = true then pushes lo hi d [] bs else []
def ors (lo hi : Int) (a : List Wd) (l : Bs) : List Wd := l.foldl (fun a b => if inn lo hi b.1 = true then or a b.2 else a) a
def someP (lo hi : Int) (bs : Bs) : List Wd := if mayW lo hi bs = true then ors lo hi [] bs else []
def cellsP (bs : Bs) : Nat := (bs.map fun b => 1 + (trim b.2).length).sum
/-! ### Which may be -/
theorem off_cons (b : Int × List Wd) (r : Bs) (i : Nat) : off (b :: r) (i + 1) = off r i := by simp [off]
theorem st_cons (b : Int × List Wd) (r : Bs) (i : Nat) : st (b :: r) (i + 1) = st r i := by simp [st]
theorem off_mem {bs : Bs} {i : Nat} (h : i < bs.length) : (off bs i, st bs i) ∈ bs := by
  have : (off bs i, st bs i) = bs[i] := by simp [off, st, List.getD_eq_getElem?_getD, h]
  rw [this]; exact List.getElem_mem h
structure Ok (lo hi : Int) (bs : Bs) : Prop where
  may : may lo hi = true
  ris : bs.Pairwise fun a b => a.1 < b.1
  bd : ∀ b ∈ bs, 0 ≤ b.1 ∧ b.1 < wide lo hi ∧ trim b.2 ≠ []
theorem pair_off {bs : Bs} : (bs.Pairwise fun a b => a.1 < b.1) ↔ ∀ i, i + 1 < bs.length → off bs i < off bs (i + 1) := by
  induction bs with
  | nil => simp
  | cons b r ih =>
    rw [List.pairwise_cons, ih]
    constructor
    · rintro ⟨h1, h2⟩ i hi
      cases i with
      | zero => exact h1 _ (off_mem (by simpa using hi) : (off r 0, st r 0) ∈ r)
      | succ i => exact h2 i (by simpa using hi)
    · intro h
      have h2 : ∀ i, i + 1 < r.length → off r i < off r (i + 1) := fun i hi => by
        have := h (i + 1) (by simpa using hi)
        rwa [off_cons, off_cons] at this
      refine ⟨fun x hx => ?_, h2⟩
      obtain ⟨j, hj, rfl⟩ := List.getElem_of_mem hx
      have e : ∀ j, j < r.length → b.1 < off r j := fun j => by
        induction j with
        | zero => intro hj; simpa [off] using h 0 (by simpa using hj)
        | succ j ihj => intro hj; exact Int.lt_trans (ihj (by omega)) (h2 j hj)
      have := e j hj
      simpa [off, List.getD_eq_getElem?_getD, hj] using this
theorem mayW_iff (lo hi : Int) (bs : Bs) : mayW lo hi bs = true ↔ Ok lo hi bs := by
  unfold mayW mayTo
  rw [Bool.and_eq_true, List.all_eq_true]
  constructor
  · rintro ⟨h1, h2⟩
    have h3 : ∀ i, i < bs.length → 0 ≤ off bs i ∧ off bs i < wide lo hi ∧ trim (st bs i) ≠ [] ∧ (i = 0 ∨ off bs (i - 1) < off bs i) := fun i hi => by
      have := h2 i (List.mem_range.2 hi)
      unfold bOk at this
      simpa using this
    refine ⟨h1, pair_off.2 fun i hi => ?_, fun b hb => ?_⟩
    · rcases (h3 (i + 1) hi).2.2.2 with q | q
      · omega
      · simpa using q
    · obtain ⟨j, hj, rfl⟩ := List.getElem_of_mem hb
      have := h3 j hj
      simp only [off, st, List.getD_eq_getElem?_getD, List.getElem?_eq_getElem hj, Option.getD_some] at this
      exact ⟨this.1, this.2.1, this.2.2.1⟩
  · rintro ⟨h1, h2, h3⟩
    refine ⟨h1, fun i hi => ?_⟩
    rw [List.mem_range] at hi
    obtain ⟨k1, k2, k3⟩ := h3 _ (off_mem hi)
    unfold bOk
    simp only [Bool.and_eq_true, decide_eq_true_eq, Bool.not_eq_true', decide_eq_false_iff_not, Bool.or_eq_true]
    refine ⟨k1, k2, k3, ?_⟩
    cases i with
    | zero => exact Or.inl rfl
    | succ i => exact Or.inr (pair_off.1 h2 i hi)
/-! ### What is in a window, by places: over which places it is gathered, and at which word -/
def gl (g : Int → Bool) (bs : Bs) (i : Nat) : Wd := bs.foldr (fun b a => (if g b.1 = true then wd b.2 i else 0) ||| a) 0
theorem gl_cons (g : Int → Bool) (b : Int × List Wd) (r : Bs) (i : Nat) : gl g (b :: r) i = (if g b.1 = true then wd b.2 i else 0) ||| gl g r i := rfl
theorem gl_append (g : Int → Bool) (a b : Bs) (i : Nat) : gl g (a ++ b) i = gl g a i ||| gl g b i := by
  induction a with
  | nil => simp [gl]
  | cons x r ih => rw [List.cons_append, gl_cons, gl_cons, ih, BitVec.or_assoc]
theorem gl_trim (g : Int → Bool) (bs : Bs) (i : Nat) : gl g (trimB bs) i = gl g bs i := by
  induction bs with
  | nil => rfl
  | cons x r ih =>
    have : trimB (x :: r) = (x.1, trim x.2) :: trimB r := rfl
    rw [this, gl_cons, gl_cons, ih, wd_trim]
theorem gl_ins (g : Int → Bool) (bs : Bs) (c : Int) (s : List Wd) (i : Nat) : gl g (ins bs c s) i = gl g bs i ||| (if g c = true then wd s i else 0) := by
  induction bs with
  | nil => simp [ins, gl]
  | cons x r ih =>
    obtain ⟨o, x⟩ := x
    unfold ins
    split
    · rw [gl_cons, BitVec.or_comm]
    · split
      · rename_i h
        subst h
        simp only [gl_cons, wd_or]
        split
        · rw [BitVec.or_assoc, BitVec.or_comm (wd s i), ← BitVec.or_assoc]
        · simp
      · rw [gl_cons, gl_cons, ih, BitVec.or_assoc]
theorem take_last (out : Bs) (h : 0 < out.length) : out = out.take (out.length - 1) ++ [(off out (out.length - 1), st out (out.length - 1))] := by
  have e : (off out (out.length - 1), st out (out.length - 1)) = out[out.length - 1] := by simp [off, st, List.getD_eq_getElem?_getD, show out.length - 1 < out.length by omega]
  rw [e, List.take_append_getElem, show out.length - 1 + 1 = out.length by omega, List.take_length]
theorem gl_push (g : Int → Bool) (out : Bs) (c : Int) (s : List Wd) (i : Nat) : gl g (push out c s) i = gl g out i ||| (if 0 ≤ c ∧ g c = true then wd s i else 0) := by
  unfold push
  split
  · rw [if_neg (by omega)]; simp
  · split
    · rename_i h1 h2
      have := take_last out h2.1
      conv => rhs; rw [this]
      rw [gl_append, gl_append, h2.2]
      have e : ∀ x, gl g [(c, x)] i = if g c = true then wd x i else 0 := fun x => by simp [gl]
      rw [e, e, wd_or]
      by_cases hg : g c = true
      · rw [if_pos hg, if_pos hg, if_pos ⟨by omega, hg⟩, BitVec.or_assoc]
      · rw [if_neg hg, if_neg hg, if_neg (by simp [hg])]; simp
    · rw [gl_append]
      have e : gl g [(c, trim s)] i = if g c = true then wd s i else 0 := by simp [gl, wd_trim]
      rw [e]
      congr 1
      by_cases hg : g c = true
      · rw [if_pos hg, if_pos ⟨by omega, hg⟩]
      · rw [if_neg hg, if_neg (by simp [hg])]
theorem gl_pushes (lo hi d : Int) (g : Int → Bool) (l : Bs) (i : Nat) : ∀ out : Bs, gl g (pushes lo hi d out l) i = gl g out i ||| gl (fun o => decide (0 ≤ later lo hi o d) && g (later lo hi o d)) l i := by
  induction l with
  | nil => intro out; simp [pushes, gl]
  | cons b r ih =>
    intro out
    have : pushes lo hi d out (b :: r) = pushes lo hi d (push out (later lo hi b.1 d) b.2) r := rfl
    rw [this, ih, gl_push, gl_cons, BitVec.or_assoc]
    congr 2
    simp
/-! ### Plain windows: rising, and no noughts behind -/
structure Cn (bs : Bs) : Prop where
  ris : bs.Pairwise fun a b => a.1 < b.1
  tr : ∀ b ∈ bs, trim b.2 = b.2 ∧ b.2 ≠ []
theorem gl_none (g : Int → Bool) (bs : Bs) (h : ∀ b ∈ bs, g b.1 = false) (i : Nat) : gl g bs i = 0 := by
  induction bs with
  | nil => rfl
  | cons b r ih => rw [gl_cons, ih fun x hx => h x (List.mem_cons_of_mem _ hx), h b List.mem_cons_self]; simp
theorem some_word {s : List Wd} (h : trim s = s) (hn : s ≠ []) : ∃ i, wd s i ≠ 0 := by
  rw [← h] at hn
  exact ⟨_, by rw [← wd_trim]; have := trim_last s hn; rw [wd_trim]; exact this⟩
theorem Cn.ext : ∀ {a b : Bs}, Cn a → Cn b → (∀ o i, gl (fun x => decide (x = o)) a i = gl (fun x => decide (x = o)) b i) → a = b
  | [], [], _, _, _ => rfl
  | [], (o, s) :: r, _, hb, h => by
    obtain ⟨i, hi⟩ := some_word (hb.tr _ List.mem_cons_self).1 (hb.tr _ List.mem_cons_self).2
    have := h o i
    rw [gl_cons, gl_none _ r (fun x hx => by have := (List.pairwise_cons.1 hb.ris).1 x hx; simp; dsimp only at this; omega)] at this
    simp [gl] at this
    exact absurd this.symm (by simpa using hi)
  | (o, s) :: r, [], ha, _, h => by
    obtain ⟨i, hi⟩ := some_word (ha.tr _ List.mem_cons_self).1 (ha.tr _ List.mem_cons_self).2
    have := h o i
    rw [gl_cons, gl_none _ r (fun x hx => by have := (List.pairwise_cons.1 ha.ris).1 x hx; simp; dsimp only at this; omega)] at this
    simp [gl] at this
    exact absurd this (by simpa using hi)
  | (o, s) :: r, (p, t) :: q, ha, hb, h => by
    have ha2 := List.pairwise_cons.1 ha.ris
    have hb2 := List.pairwise_cons.1 hb.ris
    have lt_no : ∀ {o p : Int} {s t : List Wd} {r q : Bs}, (∀ x ∈ r, o < x.1) → (∀ x ∈ q, p < x.1) → trim s = s → s ≠ [] → (∀ c i, gl (fun x => decide (x = c)) ((o, s) :: r) i = gl (fun x => decide (x = c)) ((p, t) :: q) i) → ¬ o < p := by
      intro o p s t r q h1 h2 h3 h4 h5 hlt
      obtain ⟨i, hi⟩ := some_word h3 h4
      have := h5 o i
      rw [gl_cons, gl_none _ r (fun x hx => by have := h1 x hx; simp; omega), gl_none _ ((p, t) :: q) (fun x hx => by
        rcases List.mem_cons.1 hx with rfl | hx
        · simp; omega
        · have := h2 x hx; simp; omega)] at this
      simp at this
      exact hi this
    have e1 := lt_no (t := t) ha2.1 hb2.1 (ha.tr _ List.mem_cons_self).1 (ha.tr _ List.mem_cons_self).2 h
    have e2 := lt_no (t := s) hb2.1 ha2.1 (hb.tr _ List.mem_cons_self).1 (hb.tr _ List.mem_cons_self).2 (fun c i => (h c i).symm)
    dsimp only at e1 e2
    obtain rfl : o = p := by omega
    have hs : ∀ i, wd s i = wd t i := fun i => by
      have := h o i
      rw [gl_cons, gl_cons, gl_none _ r (fun x hx => by have := ha2.1 x hx; simp; dsimp only at this; omega), gl_none _ q (fun x hx => by have := hb2.1 x hx; simp; dsimp only at this; omega)] at this
      simpa using this
    obtain rfl : s = t := Words.ext (ha.tr _ List.mem_cons_self).1 (hb.tr _ List.mem_cons_self).1 hs
    rw [Cn.ext (a := r) (b := q) ⟨ha2.2, fun x hx => ha.tr x (List.mem_cons_of_mem _ hx)⟩ ⟨hb2.2, fun x hx => hb.tr x (List.mem_cons_of_mem _ hx)⟩ fun c i => ?_]
    by_cases hc : c = o
    · subst hc
      rw [gl_none _ r (fun x hx => by have := ha2.1 x hx; simp; dsimp only at this; omega), gl_none _ q (fun x hx => by have := hb2.1 x hx; simp; dsimp only at this; omega)]
    · have := h c i
      rw [gl_cons, gl_cons, if_neg (by simp; omega)] at this
      simpa using this
end Wn
end Go.Proofs.Ythellicimicieaa
