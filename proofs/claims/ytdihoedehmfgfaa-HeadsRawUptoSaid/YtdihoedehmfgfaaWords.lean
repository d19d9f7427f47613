/- Sets of numbers as rows of words: the plain laws (no program in sight), and what a word reads as in memory. No condition. -/
import Derived.Test.YtdihoedehmfgfaaBase
import Derived.Laws.Bits64b
import Derived.Lib.TrailingZeros
import Derived.Lib.BitFns
set_option linter.unusedSimpArgs false
set_option linter.unusedVariables false
namespace Go.Proofs.Ytdihoedehmfgfaa
open Go.ChangeShapes Go.WideShapes Go.ChangeAt Go.RowKit
namespace Words
abbrev Wd := BitVec 64
def wd (s : List Wd) (i : Nat) : Wd := s.getD i 0
def trim : List Wd → List Wd
  | [] => []
  | x :: r => if trim r = [] then (if x = 0 then [] else [x]) else x :: trim r
theorem wd_nil (i : Nat) : wd [] i = 0 := rfl
theorem wd_cons (x : Wd) (r : List Wd) (i : Nat) : wd (x :: r) (i + 1) = wd r i := rfl
theorem wd_zero (x : Wd) (r : List Wd) : wd (x :: r) 0 = x := rfl
theorem wd_lt (s : List Wd) (i : Nat) (h : i < s.length) : wd s i = s[i] := by simp [wd, h]
theorem wd_ge (s : List Wd) (i : Nat) (h : s.length ≤ i) : wd s i = 0 := by simp [wd, h]
theorem wd_trim (s : List Wd) (i : Nat) : wd (trim s) i = wd s i := by
  induction s generalizing i with
  | nil => rfl
  | cons x r ih =>
    unfold trim
    split
    · rename_i h
      have h0 : ∀ i, wd r i = 0 := fun i => by rw [← ih i, h]; rfl
      cases i with
      | zero =>
        split
        · rename_i hx; rw [wd_zero, hx]; rfl
        · rfl
      | succ i =>
        rw [wd_cons, h0]
        split <;> rfl
    · cases i with
      | zero => rfl
      | succ i => rw [wd_cons, wd_cons]; exact ih i
theorem trim_take (s : List Wd) : trim s = s.take (trim s).length := by
  induction s with
  | nil => rfl
  | cons x r ih =>
    unfold trim
    split
    · split <;> simp
    · rw [List.length_cons, List.take_succ_cons, ← ih]
theorem trim_len (s : List Wd) : (trim s).length ≤ s.length := by
  have := congrArg List.length (trim_take s)
  rw [List.length_take] at this; omega
theorem trim_last (s : List Wd) (h : trim s ≠ []) : wd s ((trim s).length - 1) ≠ 0 := by
  induction s with
  | nil => exact absurd rfl h
  | cons x r ih =>
    unfold trim at h ⊢
    split at h
    · rename_i hr
      rw [if_pos hr]
      split at h
      · exact absurd rfl h
      · rename_i hx
        rw [if_neg hx]; exact hx
    · rename_i hr
      rw [if_neg hr]
      have := ih hr
      have hl : 0 < (trim r).length := List.length_pos_iff.2 hr
      rw [List.length_cons, Nat.add_sub_cancel, show (trim r).length = ((trim r).length - 1) + 1 by omega, wd_cons]
      exact this
theorem trim_nil {s : List Wd} : trim s = [] ↔ ∀ i, wd s i = 0 := by
  constructor
  · intro h i; rw [← wd_trim, h]; rfl
  · intro h
    by_cases h0 : trim s = []
    · exact h0
    · exact absurd (h _) (trim_last s h0)
theorem trim_ext {a b : List Wd} (h : ∀ i, wd a i = wd b i) : trim a = trim b := by
  induction a generalizing b with
  | nil => exact (trim_nil.2 fun i => by rw [← h]; rfl).symm
  | cons x r ih =>
    cases b with
    | nil => exact trim_nil.2 fun i => by rw [h]; rfl
    | cons y t =>
      have h0 : x = y := h 0
      have := ih (b := t) fun i => h (i + 1)
      unfold trim
      rw [this, h0]
theorem trim_trim (s : List Wd) : trim (trim s) = trim s := trim_ext (wd_trim s)
theorem trim_iff {a b : List Wd} : trim a = trim b ↔ ∀ i, wd a i = wd b i := ⟨fun h i => by rw [← wd_trim, h, wd_trim], trim_ext⟩
/-- one nought less -/
theorem trim_drop (s : List Wd) (n : Nat) (h : s.length = n + 1) (h0 : wd s n = 0) : trim (s.take n) = trim s := trim_ext fun i => by
  by_cases hi : i < n
  · simp [wd, hi]
  · by_cases he : i = n
    · subst he; rw [h0]; exact wd_ge _ _ (by simp; omega)
    · rw [wd_ge s i (by omega)]; exact wd_ge _ _ (by simp; omega)
theorem trim_id (s : List Wd) (h : s = [] ∨ wd s (s.length - 1) ≠ 0) : trim s = s := by
  rcases h with rfl | h
  · rfl
  · have hl : (trim s).length = s.length := by
      have h1 := trim_len s
      by_cases hlt : (trim s).length ≤ s.length - 1
      · exact absurd (by rw [← wd_trim]; exact wd_ge _ _ hlt) h
      · omega
    rw [trim_take, hl, List.take_length]
theorem trim_canon (s : List Wd) : trim s = s ↔ (s = [] ∨ wd s (s.length - 1) ≠ 0) := ⟨fun h => by
  by_cases h0 : s = []
  · exact Or.inl h0
  · right; have := trim_last s (by rw [h]; exact h0); rw [h] at this; exact this, trim_id s⟩
/-- The set whose words are f, of n words at most. -/
def mk (n : Nat) (f : Nat → Wd) : List Wd := trim ((List.range n).map f)
theorem wd_map (n : Nat) (f : Nat → Wd) (i : Nat) : wd ((List.range n).map f) i = if i < n then f i else 0 := by
  unfold wd
  by_cases h : i < n
  · simp [h]
  · simp [h]
theorem wd_mk (n : Nat) (f : Nat → Wd) (h : ∀ i, n ≤ i → f i = 0) (i : Nat) : wd (mk n f) i = f i := by
  unfold mk
  rw [wd_trim, wd_map]
  split
  · rfl
  · exact (h i (by omega)).symm
theorem mk_trim (n : Nat) (f : Nat → Wd) : trim (mk n f) = mk n f := trim_trim _
def or (a b : List Wd) : List Wd := mk (max a.length b.length) fun i => wd a i ||| wd b i
def and (a b : List Wd) : List Wd := mk (max a.length b.length) fun i => wd a i &&& wd b i
def less (a b : List Wd) : List Wd := mk a.length fun i => wd a i &&& ~~~ wd b i
def cutw (n : Int) (i : Nat) (x : Wd) : Wd := if n ≤ 0 ∨ n / 64 < i then 0 else if n / 64 = i then x &&& ((1 : Wd) <<< (n.toNat % 64) - 1) else x
def cut (s : List Wd) (n : Int) : List Wd := mk s.length fun i => cutw n i (wd s i)
theorem wd_or (a b : List Wd) (i : Nat) : wd (or a b) i = wd a i ||| wd b i := wd_mk _ _ (fun i h => by rw [wd_ge a i (by omega), wd_ge b i (by omega)]; rfl) i
theorem wd_and (a b : List Wd) (i : Nat) : wd (and a b) i = wd a i &&& wd b i := wd_mk _ _ (fun i h => by rw [wd_ge a i (by omega), wd_ge b i (by omega)]; rfl) i
theorem wd_less (a b : List Wd) (i : Nat) : wd (less a b) i = wd a i &&& ~~~ wd b i := wd_mk _ _ (fun i h => by rw [wd_ge a i (by omega)]; simp) i
theorem cutw_zero (n : Int) (i : Nat) : cutw n i 0 = 0 := by unfold cutw; split; rfl; split <;> simp
theorem wd_cut (s : List Wd) (n : Int) (i : Nat) : wd (cut s n) i = cutw n i (wd s i) := wd_mk _ _ (fun i h => by rw [wd_ge s i h, cutw_zero]) i
def within (a b : List Wd) : Bool := decide (∀ i, i < a.length → wd a i &&& ~~~ wd b i = 0)
theorem within_iff (a b : List Wd) : within a b = true ↔ ∀ i, wd a i &&& ~~~ wd b i = 0 := by
  unfold within
  rw [decide_eq_true_iff]
  refine ⟨fun h i => ?_, fun h i _ => h i⟩
  by_cases hi : i < a.length
  · exact h i hi
  · rw [wd_ge a i (by omega)]; simp
def same (a b : List Wd) : Bool := decide (trim a = trim b)
theorem sub_both {x y : Wd} (h1 : x &&& ~~~ y = 0) (h2 : y &&& ~~~ x = 0) : x = y := by
  apply BitVec.eq_of_getLsbD_eq
  intro i hi
  have a := congrArg (·.getLsbD i) h1
  have b := congrArg (·.getLsbD i) h2
  simp [hi] at a b
  cases hx : x.getLsbD i <;> cases hy : y.getLsbD i <;> simp_all
theorem same_within (a b : List Wd) : same a b = (within a b && within b a) := by
  rw [Bool.eq_iff_iff]
  unfold same
  rw [Bool.and_eq_true, decide_eq_true_iff, within_iff, within_iff, trim_iff]
  constructor
  · intro h; constructor <;> intro i <;> rw [h i] <;> simp
  · rintro ⟨h1, h2⟩ i; exact sub_both (h1 i) (h2 i)
theorem within_less (a b : List Wd) : within a b = decide ((less a b).length = 0) := by
  rw [Bool.eq_iff_iff, within_iff, decide_eq_true_iff, List.length_eq_zero_iff]
  unfold less mk
  rw [trim_nil]
  constructor
  · intro h i; rw [wd_map]; split; exact h i; rfl
  · intro h i
    have := h i
    rw [wd_map] at this
    split at this
    · exact this
    · rw [wd_ge a i (by omega)]; simp
theorem or_trim (a b : List Wd) : trim (or a b) = or a b := mk_trim _ _
theorem and_trim (a b : List Wd) : trim (and a b) = and a b := mk_trim _ _
theorem less_trim (a b : List Wd) : trim (less a b) = less a b := mk_trim _ _
theorem cut_trim (a : List Wd) (n : Int) : trim (cut a n) = cut a n := mk_trim _ _
/-- Two sets that are told are one if their words are. -/
theorem ext {a b : List Wd} (ha : trim a = a) (hb : trim b = b) (h : ∀ i, wd a i = wd b i) : a = b := by rw [← ha, ← hb]; exact trim_ext h
/-! numbers -/
def mem (s : List Wd) (n : Nat) : Bool := (wd s (n / 64)).getLsbD (n % 64)
theorem mem_ext {a b : List Wd} (h : ∀ n, mem a n = mem b n) (i : Nat) : wd a i = wd b i := by
  apply BitVec.eq_of_getLsbD_eq
  intro j hj
  have := h (64 * i + j)
  unfold mem at this
  rw [show (64 * i + j) / 64 = i by omega, show (64 * i + j) % 64 = j by omega] at this
  exact this
def bit (n : Nat) : Wd := (1 : Wd) <<< n
theorem bit_get (n j : Nat) (h : n < 64) : (bit n).getLsbD j = decide (j = n) := by
  unfold bit
  rw [BitVec.getLsbD_shiftLeft, show (1 : Wd) = 1#64 from rfl, BitVec.getLsbD_one]
  rw [Bool.eq_iff_iff]
  simp only [Bool.and_eq_true, decide_eq_true_eq, Bool.not_eq_true', decide_eq_false_iff_not]
  omega
def setb (s : List Wd) (n : Nat) : List Wd := s.set (n / 64) (wd s (n / 64) ||| bit (n % 64))
theorem setb_len (s : List Wd) (n : Nat) : (setb s n).length = s.length := by simp [setb]
theorem wd_setb (s : List Wd) (n i : Nat) (h : n / 64 < s.length) : wd (setb s n) i = if i = n / 64 then wd s i ||| bit (n % 64) else wd s i := by
  unfold setb wd
  split
  · rename_i e; subst e; simp [h]
  · rename_i e; simp [Ne.symm e]
theorem mem_setb (s : List Wd) (n m : Nat) (h : n / 64 < s.length) : mem (setb s n) m = (mem s m || decide (m = n)) := by
  unfold mem
  rw [wd_setb s n _ h]
  split
  · rename_i e
    rw [BitVec.getLsbD_or, bit_get _ _ (by omega)]
    congr 1
    rw [Bool.eq_iff_iff, decide_eq_true_iff, decide_eq_true_iff]; omega
  · rename_i e
    have : decide (m = n) = false := decide_eq_false (fun h => e (by rw [h]))
    rw [this, Bool.or_false]
/-- May the number be in a set that is made? -/
def ok (n : Int) : Bool := decide (0 ≤ n ∧ n ≤ 4095)
def ofw (l : List Int) : List Wd := l.foldl (fun s n => if ok n then setb s n.toNat else s) (List.replicate 64 0)
def of (l : List Int) : List Wd := trim (ofw l)
theorem wd_noughts (n i : Nat) : wd (List.replicate n 0) i = 0 := by
  unfold wd
  rw [List.getD_eq_getElem?_getD, List.getElem?_replicate]
  split <;> rfl
theorem mem_noughts (n m : Nat) : mem (List.replicate n 0) m = false := by unfold mem; rw [wd_noughts]; simp
theorem ofw_fold (l : List Int) : ∀ s : List Wd, s.length = 64 → (l.foldl (fun s n => if ok n then setb s n.toNat else s) s).length = 64 ∧ ∀ m, mem (l.foldl (fun s n => if ok n then setb s n.toNat else s) s) m = (mem s m || decide (m ≤ 4095 ∧ (m : Int) ∈ l)) := by
  induction l with
  | nil => intro s h; exact ⟨h, fun m => by simp⟩
  | cons n r ih =>
    intro s h
    rw [List.foldl_cons]
    by_cases hk : ok n = true
    · rw [if_pos hk]
      have hk' : 0 ≤ n ∧ n ≤ 4095 := of_decide_eq_true hk
      obtain ⟨h1, h2⟩ := ih (setb s n.toNat) (by rw [setb_len]; exact h)
      refine ⟨h1, fun m => ?_⟩
      rw [h2 m, mem_setb _ _ _ (by omega), Bool.or_assoc]
      congr 1
      rw [Bool.eq_iff_iff]
      simp only [Bool.or_eq_true, decide_eq_true_eq, List.mem_cons]
      constructor
      · rintro (h | h)
        · exact ⟨by omega, Or.inl (by omega)⟩
        · exact ⟨h.1, Or.inr h.2⟩
      · rintro ⟨h1, h2 | h2⟩
        · left; omega
        · right; exact ⟨h1, h2⟩
    · rw [if_neg hk]
      obtain ⟨h1, h2⟩ := ih s h
      refine ⟨h1, fun m => ?_⟩
      rw [h2 m]
      congr 1
      rw [Bool.eq_iff_iff]
      simp only [decide_eq_true_eq, List.mem_cons]
      have hk' : ¬ (0 ≤ n ∧ n ≤ 4095) := fun h => hk (decide_eq_true h)
      constructor
      · rintro ⟨h1, h2⟩; exact ⟨h1, Or.inr h2⟩
      · rintro ⟨h1, h2 | h2⟩
        · omega
        · exact ⟨h1, h2⟩
theorem mem_of (l : List Int) (m : Nat) : mem (of l) m = decide (m ≤ 4095 ∧ (m : Int) ∈ l) := by
  have := (ofw_fold l (List.replicate 64 0) (by simp)).2 m
  unfold of
  have e : mem (trim (ofw l)) m = mem (ofw l) m := by unfold mem; rw [wd_trim]
  rw [e]
  unfold ofw
  rw [this, mem_noughts, Bool.false_or]
theorem ofw_len (l : List Int) : (ofw l).length = 64 := (ofw_fold l (List.replicate 64 0) (by simp)).1
def has (s : List Wd) (n : Int) : Bool := decide (0 ≤ n) && mem s n.toNat
def ones (x : Wd) : List Nat := (List.range 64).filter fun j => x.getLsbD j
def list (s : List Wd) : List Nat := (List.range s.length).flatMap fun i => (ones (wd s i)).map (64 * i + ·)
def count (s : List Wd) : Nat := (list s).length
theorem ones_sum (n : Nat) (x : Nat → Bool) (j : Nat) : j ∈ (List.range n).filter x ↔ j < n ∧ x j = true := by simp
theorem list_mem (s : List Wd) (m : Nat) : m ∈ list s ↔ mem s m = true := by
  unfold list mem ones
  simp only [List.mem_flatMap, List.mem_range, List.mem_map, List.mem_filter]
  constructor
  · rintro ⟨i, hi, j, ⟨hj, hx⟩, rfl⟩
    rw [show (64 * i + j) / 64 = i by omega, show (64 * i + j) % 64 = j by omega]; exact hx
  · intro h
    refine ⟨m / 64, ?_, m % 64, ⟨by omega, h⟩, by omega⟩
    by_cases hl : m / 64 < s.length
    · exact hl
    · rw [wd_ge s _ (by omega)] at h; simp at h

theorem filter_first (p : Nat → Bool) (k : Nat) (hp : p k = true) (hl : ∀ j, j < k → p j = false) : ∀ n, k < n → (List.range n).filter p = k :: (List.range n).filter fun j => p j && !decide (j = k)
  | 0, h => by omega
  | n + 1, h => by
    rw [List.range_succ, List.filter_append, List.filter_append]
    by_cases hk : k < n
    · rw [filter_first p k hp hl n hk, List.cons_append]
      congr 2
      refine List.filter_congr fun j hj => ?_
      rw [List.mem_singleton] at hj
      rw [decide_eq_false (show ¬ j = k by omega), Bool.not_false, Bool.and_true]
    · obtain rfl : k = n := by omega
      have e1 : (List.range k).filter p = [] := List.filter_eq_nil_iff.2 fun j hj => by simp [hl j (List.mem_range.1 hj)]
      have e2 : ((List.range k).filter fun j => p j && !decide (j = k)) = [] := List.filter_eq_nil_iff.2 fun j hj => by simp [hl j (List.mem_range.1 hj)]
      rw [e1, e2]
      simp [hp]
theorem low_bit (k m : Nat) (j : Nat) : (2 ^ k * (2 * m + 1)).testBit j = (decide (k ≤ j) && (2 * m + 1).testBit (j - k)) := by rw [Nat.mul_comm, Nat.testBit_mul_two_pow]
theorem low_bit2 (k m : Nat) (j : Nat) : (2 ^ k * (2 * m + 1) - 1).testBit j = if j < k then true else (2 * m).testBit (j - k) := by
  have e : 2 ^ k * (2 * m + 1) - 1 = 2 ^ k * (2 * m) + (2 ^ k - 1) := by
    have := Nat.two_pow_pos k
    rw [Nat.mul_add, Nat.mul_one]; omega
  rw [e, Nat.testBit_two_pow_mul_add _ (by have := Nat.two_pow_pos k; omega)]
  split
  · rename_i h; rw [Nat.testBit_two_pow_sub_one]; simp [h]
  · rfl
theorem step_bits (x k m : Nat) (h : x = 2 ^ k * (2 * m + 1)) (j : Nat) : (x &&& (x - 1)).testBit j = (x.testBit j && !decide (j = k)) := by
  subst h
  rw [Nat.testBit_and, low_bit, low_bit2]
  by_cases h1 : j < k
  · simp [show ¬ k ≤ j by omega]
  · rw [if_neg h1]
    by_cases h2 : j = k
    · subst h2; simp
    · obtain ⟨t, rfl⟩ : ∃ t, j = k + (t + 1) := ⟨j - k - 1, by omega⟩
      have e : k + (t + 1) - k = t + 1 := by omega
      have h3 : decide (k + (t + 1) = k) = false := decide_eq_false (by omega)
      rw [e, h3, Nat.testBit_succ, Nat.testBit_succ, show (2 * m + 1) / 2 = m by omega, show 2 * m / 2 = m by omega]
      simp
theorem and_bits (x k m : Nat) (h : x = 2 ^ k * (2 * m + 1)) : x.testBit k = true ∧ ∀ j, j < k → x.testBit j = false := by
  subst h
  refine ⟨by rw [low_bit]; simp, fun j hj => by rw [low_bit]; simp [show ¬ k ≤ j by omega]⟩
/-- The lowest number of a word, and the rest. -/
theorem ones_step (x : Wd) (k m : Nat) (h : x.toNat = 2 ^ k * (2 * m + 1)) (hk : k < 64) : ones x = k :: ones (x &&& (x - 1)) := by
  obtain ⟨h1, h2⟩ := and_bits _ k m h
  have h3 := step_bits _ k m h
  unfold ones
  rw [filter_first (fun j => x.getLsbD j) k h1 h2 64 hk]
  congr 1
  refine List.filter_congr fun j _ => ?_
  refine (h3 j).symm.trans ?_
  have hs : (x - 1).toNat = x.toNat - 1 := by
    have hp : 0 < x.toNat := by rw [h]; exact Nat.mul_pos (Nat.two_pow_pos k) (by omega)
    rw [BitVec.toNat_sub_of_le]
    · rfl
    · rw [BitVec.le_def]; exact hp
  show _ = (x &&& (x - 1)).toNat.testBit j
  rw [BitVec.toNat_and, hs]
theorem ones_zero : ones 0 = [] := by unfold ones; exact List.filter_eq_nil_iff.2 fun j _ => by simp
theorem ones_len (x : Wd) : (ones x).length ≤ 64 := by
  have := List.length_filter_le (fun j => x.getLsbD j) (List.range 64)
  simpa [ones] using this
/-! how many -/
theorem length_or (p q : Nat → Bool) (l : List Nat) : (l.filter fun j => p j || q j).length + (l.filter fun j => p j && q j).length = (l.filter p).length + (l.filter q).length := by
  induction l with
  | nil => rfl
  | cons x r ih => simp only [List.filter_cons]; cases p x <;> cases q x <;> simp <;> omega
theorem ones_or (x y : Wd) : (ones (x ||| y)).length + (ones (x &&& y)).length = (ones x).length + (ones y).length := by
  have := length_or (fun j => x.getLsbD j) (fun j => y.getLsbD j) (List.range 64)
  simpa [ones] using this
def sum (n : Nat) (f : Nat → Nat) : Nat := ((List.range n).map f).sum
theorem sum_succ (n : Nat) (f : Nat → Nat) : sum (n + 1) f = sum n f + f n := by simp [sum, List.range_succ]
theorem sum_add (n : Nat) (f g : Nat → Nat) : sum n (fun i => f i + g i) = sum n f + sum n g := by
  induction n with
  | zero => rfl
  | succ n ih => rw [sum_succ, sum_succ, sum_succ, ih]; omega
theorem sum_more (n k : Nat) (f : Nat → Nat) (h : ∀ i, n ≤ i → f i = 0) : sum (n + k) f = sum n f := by
  induction k with
  | zero => rfl
  | succ k ih => rw [← Nat.add_assoc, sum_succ, ih, h _ (by omega)]; rfl
theorem list_go (s : List Wd) (n : Nat) : ((List.range n).flatMap fun i => (ones (wd s i)).map (64 * i + ·)).length = sum n fun i => (ones (wd s i)).length := by
  simp [sum, List.length_flatMap]
theorem count_sum (s : List Wd) (n : Nat) (h : s.length ≤ n) : count s = sum n fun i => (ones (wd s i)).length := by
  obtain ⟨k, rfl⟩ : ∃ k, n = s.length + k := ⟨n - s.length, by omega⟩
  rw [sum_more _ _ _ fun i hi => by rw [wd_ge s i hi, ones_zero]; rfl]
  exact list_go s s.length
theorem mk_len (n : Nat) (f : Nat → Wd) : (mk n f).length ≤ n := by
  have := trim_len ((List.range n).map f)
  simpa [mk] using this
theorem count_both (a b : List Wd) : count (or a b) + count (and a b) = count a + count b := by
  have h1 := mk_len (max a.length b.length) fun i => wd a i ||| wd b i
  have h2 := mk_len (max a.length b.length) fun i => wd a i &&& wd b i
  rw [count_sum (or a b) (max a.length b.length) h1, count_sum (and a b) (max a.length b.length) h2, count_sum a (max a.length b.length) (by omega), count_sum b (max a.length b.length) (by omega), ← sum_add, ← sum_add]
  congr 1
  funext i
  rw [wd_or, wd_and]; exact ones_or _ _
theorem count_ext {a b : List Wd} (h : ∀ i, wd a i = wd b i) : count a = count b := by
  rw [count_sum a (max a.length b.length) (by omega), count_sum b (max a.length b.length) (by omega)]
  simp only [h]
theorem list_ext {a b : List Wd} (h : a.length ≤ b.length) (he : ∀ i, wd a i = wd b i) : list a = list b := by
  obtain ⟨k, hk⟩ : ∃ k, b.length = a.length + k := ⟨b.length - a.length, by omega⟩
  unfold list
  rw [hk]
  simp only [← he]
  induction k with
  | zero => rfl
  | succ k ih =>
    have : ∀ k, (List.range (a.length + k)).flatMap (fun i => (ones (wd a i)).map (64 * i + ·)) = (List.range a.length).flatMap fun i => (ones (wd a i)).map (64 * i + ·) := by
      intro k
      induction k with
      | zero => rfl
      | succ k ih => rw [← Nat.add_assoc, List.range_succ, List.flatMap_append, ih, List.flatMap_singleton, wd_ge a _ (by omega), ones_zero]; simp
    exact (this (k + 1)).symm
/-! they rise -/
theorem ones_rise (x : Wd) : (ones x).Pairwise (· < ·) := List.Pairwise.filter _ (List.pairwise_lt_range)
theorem list_rise (s : List Wd) : (list s).Pairwise (· < ·) := by
  unfold list
  rw [List.flatMap, List.pairwise_flatten]
  constructor
  · intro l hl
    obtain ⟨i, _, rfl⟩ := List.mem_map.1 hl
    rw [List.pairwise_map]
    exact (ones_rise (wd s i)).imp fun h => by omega
  · rw [List.pairwise_map]
    refine (List.pairwise_lt_range (n := s.length)).imp fun {i j} hij x hx y hy => ?_
    obtain ⟨a, ha, rfl⟩ := List.mem_map.1 hx
    obtain ⟨b, hb, rfl⟩ := List.mem_map.1 hy
    have : a < 64 := by unfold ones at ha; simp at ha; exact ha.1
    omega

/-! ### math/bits -/
theorem pop_bits (f x : Nat) : Lib.popAux f x = ((List.range f).filter fun j => x.testBit j).length := by
  induction f generalizing x with
  | zero => rfl
  | succ f ih =>
    have e : ((List.range f).map Nat.succ).filter (fun j => x.testBit j) = ((List.range f).filter fun j => (x / 2).testBit j).map Nat.succ := by
      rw [List.filter_map]
      congr 1
      exact List.filter_congr fun j _ => by simp only [Function.comp_apply]; rw [Nat.succ_eq_add_one, Nat.testBit_succ]
    rw [List.range_succ_eq_map, List.filter_cons, e, Lib.popAux, ih, Nat.testBit_zero]
    by_cases h : x % 2 = 1
    · simp [h]; omega
    · simp [show x % 2 = 0 by omega]
theorem ones_count (x : Wd) : Lib.onesCount x.toNat = (ones x).length := pop_bits 64 x.toNat
theorem ctz_ones (x : Wd) (h : x ≠ 0) : Lib.ctz 64 x.toNat < 64 ∧ ones x = Lib.ctz 64 x.toNat :: ones (x &&& (x - 1)) := by
  have hp : 0 < x.toNat := by
    rcases Nat.eq_zero_or_pos x.toNat with h0 | h0
    · exact absurd (BitVec.eq_of_toNat_eq (by simpa using h0)) h
    · exact h0
  obtain ⟨m, h1, h2⟩ := Lib.ctzFrom_spec 64 x.toNat hp x.isLt
  have e : Lib.ctz 64 x.toNat = Lib.ctzFrom 64 x.toNat := if_neg (by omega)
  rw [e]
  exact ⟨h2, ones_step x _ m h1 h2⟩
/-! ### What a word reads as -/
def wv (x : Wd) : Value := .int .u64 (x.toNat : Int)
def ws (s : List Wd) : List Value := s.map wv
theorem ws_length (s : List Wd) : (ws s).length = s.length := by simp [ws]
theorem ws_append (a b : List Wd) : ws a ++ ws b = ws (a ++ b) := by simp [ws]
theorem ws_set (s : List Wd) (i : Nat) (x : Wd) : ws (s.set i x) = (ws s).set i (wv x) := by simp [ws, List.map_set]
theorem ws_take (s : List Wd) (n : Nat) : ws (s.take n) = (ws s).take n := by simp [ws]
theorem ws_one (s : List Wd) : ∀ u ∈ ws s, u.oneCell' = true := oneCell_map _ (fun _ => rfl) s
theorem ws_get (s : List Wd) (i : Nat) (h : i < s.length) : (ws s)[i]? = some (wv (wd s i)) := by simp [ws, wd, h]
theorem ws_inj {a b : List Wd} (h : ws a = ws b) : a = b := by
  have : ∀ x y : Wd, wv x = wv y → x = y := fun x y h => by
    simp only [wv, Value.int.injEq, true_and] at h
    exact BitVec.eq_of_toNat_eq (by omega)
  unfold ws at h
  induction a generalizing b with
  | nil => cases b with
    | nil => rfl
    | cons y t => simp at h
  | cons x r ih => cases b with
    | nil => simp at h
    | cons y t =>
      simp only [List.map_cons, List.cons.injEq] at h
      rw [this x y h.1, ih h.2]
theorem or_bv (x y : Wd) : bits .or .u64 (x.toNat : Int) (y.toNat : Int) = ((x ||| y).toNat : Int) := by rw [bits_or_u64_nat _ _ x.isLt y.isLt, BitVec.toNat_or]
theorem and_bv (x y : Wd) : bits .and .u64 (x.toNat : Int) (y.toNat : Int) = ((x &&& y).toNat : Int) := by rw [bits_and_u64_nat _ _ x.isLt y.isLt, BitVec.toNat_and]
theorem less_bv (x y : Wd) : bits .andNot .u64 (x.toNat : Int) (y.toNat : Int) = ((x &&& ~~~ y).toNat : Int) := by
  have h1 : BitVec.ofInt 64 (x.toNat : Int) = x := by rw [BitVec.ofInt_natCast]; simp
  have h2 : BitVec.ofInt 64 (y.toNat : Int) = y := by rw [BitVec.ofInt_natCast]; simp
  show IntKind.u64.wrap ((BitVec.ofInt 64 (x.toNat : Int) &&& ~~~ BitVec.ofInt 64 (y.toNat : Int)).toNat : Int) = _
  rw [h1, h2, IntKind.wrap_u64]
  have := (x &&& ~~~ y).isLt
  omega
theorem bit_bv (n : Nat) (h : n < 64) : ((bit n).toNat : Int) = 2 ^ n := by
  unfold bit
  rw [BitVec.toNat_shiftLeft, Nat.shiftLeft_eq]
  have : 2 ^ n < 2 ^ 64 := Nat.pow_lt_pow_right (by decide) h
  simp only [show ((1 : Wd).toNat) = 1 from rfl, Nat.one_mul]
  rw [Nat.mod_eq_of_lt this]
  simp
theorem wd_bd (x : Wd) : 0 ≤ (x.toNat : Int) ∧ (x.toNat : Int) ≤ 18446744073709551615 := by have := x.isLt; omega
theorem wd_eq {x y : Wd} : (x.toNat : Int) = (y.toNat : Int) ↔ x = y := ⟨fun h => BitVec.eq_of_toNat_eq (by omega), fun h => by rw [h]⟩
theorem wd_zero_iff {x : Wd} : (x.toNat : Int) = 0 ↔ x = 0 := by have := @wd_eq x 0; simpa using this
theorem getbit (x : Wd) (n : Nat) : bits .and .u64 ((x.toNat : Int) / 2 ^ n) 1 = if x.getLsbD n then 1 else 0 := by
  have h : ((x.toNat : Int) / 2 ^ n) = ((x.toNat / 2 ^ n : Nat) : Int) := by simp
  rw [h, show (1 : Int) = ((1 : Nat) : Int) from rfl, bits_and_u64_nat _ _ (Nat.lt_of_le_of_lt (Nat.div_le_self _ _) x.isLt) (by decide), Nat.and_one_is_mod]
  unfold BitVec.getLsbD
  rw [Nat.testBit_eq_decide_div_mod_eq]
  by_cases h2 : x.toNat / 2 ^ n % 2 = 1
  · simp [h2]
  · simp [h2]; omega
/-- A slice of words. -/
def Set (w : World) (v : Value) (s : List Wd) : Prop := Sl w v (ws s)
theorem Set.nw {w w' : World} {v : Value} {s : List Wd} (h : Set w v s) (hn : Nw w w') : Set w' v s := Sl.nw h hn
theorem Set.nil (w : World) : Set w (.slice none 0 0) [] := Sl.nil w
theorem Set.open {w : World} {v : Value} {s : List Wd} (h : Set w v s) : ∃ p cap, v = .slice p s.length cap ∧ s.length ≤ cap ∧ cap ≤ maxLen ∧ (p = none → cap = 0) ∧ Cells w p (ws s) := by
  obtain ⟨p, cap, e, h1, h2, h3, h4⟩ := h
  rw [ws_length] at e h1
  exact ⟨p, cap, e, h1, h2, h3, h4⟩
theorem ws_cell {w : World} {p : Option Addr} {s : List Wd} (h : Cells w p (ws s)) (i : Nat) (hi : i < s.length) :
    ∃ b off, p = some ⟨b, off, none⟩ ∧ w.cell? ⟨b, off + i, none⟩ = some (.int .u64 ((wd s i).toNat : Int)) := by
  obtain ⟨b, off, e, h⟩ := h i (by rw [ws_length]; exact hi)
  refine ⟨b, off, e, ?_⟩
  rw [h, wd_lt s i hi]; simp [ws, wv]
theorem Set.mk {w : World} {p : Option Addr} {n cap : Nat} {s : List Wd} (h : Cells w p (ws s)) (hn : n = s.length) (hc : s.length ≤ cap) (hm : cap ≤ maxLen) (h0 : p = none → cap = 0) : Set w (.slice p n cap) s := by
  subst hn
  exact ⟨p, cap, by rw [ws_length], by rw [ws_length]; exact hc, hm, h0, h⟩
/-- A call hands back a set that no older block is part of. -/
def HandsW (w : World) (s : List Wd) (e : Ending) (w' : World) : Prop := ∃ v, e = .returned v ∧ Set w' v s ∧ (∀ k, v.ownBlock = some k → w.heap.size ≤ k) ∧ Nw w w'
end Words
open Words
theorem open_uint64s {H : Type} {enc : TypeId × Value → H} {P : Program} {t e : TypeId} {W : World} {base : Nat} {v : Value} {d : DataW H} {p : List MemPlace} (ht : P.underlying t = some (.slice e)) (he : P.underlying e = some (.int .u64)) (hc : P.cellsOf e = 1)
    (hval : Value.okWide P W .any base t v) (hj : DataW.Trod enc P W 0 (fun _ => true) true t v d p) :
    ∃ s : List Wd, Words.Set W v s ∧ s.length ≤ Rows.uptoBulk d := by
  obtain ⟨zs, h1, h2, sp, h3⟩ := open_sl ht he hc hval hj
  have e : zs.map (Value.int .u64) = ws (zs.map fun z => BitVec.ofNat 64 z.toNat) := by
    simp only [ws, List.map_map]
    refine List.map_congr_left fun z hz => ?_
    have := bounds_u64 (h2 z hz)
    simp only [Function.comp_apply, wv, BitVec.toNat_ofNat]
    congr 1; omega
  refine ⟨_, by unfold Words.Set; rw [← e]; exact h1, ?_⟩
  rw [List.length_map]
  exact bulk_ints h3
end Go.Proofs.Ytdihoedehmfgfaa
