/- Verdicts as text, the plain side: lines, numbers, items, what is read. No program in sight. -/
import Derived.Test.YtlimhggkimnddaaDoorBase
import Derived.Lib.ItoaNum
import Derived.Lib.ItoaLen
import Derived.Lib.IndexMore
import Derived.Lib.Small
set_option linter.unusedSimpArgs false
set_option linter.unusedVariables false
namespace Go.Proofs.YtlimhggkimnddaaDoor
namespace Vd
/-- An item: kind, index, value, to. -/
abbrev It := Int × Int × Bool × Int
def told (n : Int) : Bool := decide (0 ≤ n) && decide (n ≤ 999999999999999999)
theorem told_iff {n : Int} : told n = true ↔ 0 ≤ n ∧ n ≤ 999999999999999999 := by unfold told; simp
def fb (b : Bool) : List UInt8 := if b = true then [116, 114, 117, 101] else [102, 97, 108, 115, 101]
theorem fb_lib (b : Bool) : Lib.formatBool b = fb b := by cases b <;> decide +kernel
def line (x : It) : List UInt8 :=
  if told x.2.1 = true then
    (if x.1 = 1 then Lib.itoa x.2.1 ++ 32 :: fb x.2.2.1
     else if x.1 = 2 ∧ told x.2.2.2 = true then Lib.itoa x.2.1 ++ 32 :: 61 :: 32 :: Lib.itoa x.2.2.2 else [])
  else []
def full (x : It) : List UInt8 := if line x = [] then [] else line x ++ [10]
def text (l : List It) : List UInt8 := l.flatMap full
theorem text_snoc (l : List It) (x : It) : text (l ++ [x]) = text l ++ full x := by simp [text]
def Rg (x : It) : Prop := (-9223372036854775808 ≤ x.1 ∧ x.1 ≤ 9223372036854775807) ∧ (-9223372036854775808 ≤ x.2.1 ∧ x.2.1 ≤ 9223372036854775807) ∧ (-9223372036854775808 ≤ x.2.2.2 ∧ x.2.2.2 ≤ 9223372036854775807)
theorem fb_len (b : Bool) : (fb b).length ≤ 5 := by cases b <;> decide
theorem line_len {x : It} : (line x).length ≤ 50 := by
  unfold line
  split
  · rename_i h
    have h1 := told_iff.1 h
    have := Lib.itoa_length_le x.2.1 (by omega) (by omega)
    split
    · have := fb_len x.2.2.1
      simp only [List.length_append, List.length_cons]; omega
    · split
      · rename_i h2
        have h3 := told_iff.1 h2.2
        have := Lib.itoa_length_le x.2.2.2 (by omega) (by omega)
        simp only [List.length_append, List.length_cons]; omega
      · simp
  · simp
theorem full_len {x : It} : (full x).length ≤ 51 := by
  unfold full
  split
  · simp
  · have := line_len (x := x)
    simp only [List.length_append, List.length_cons, List.length_nil]; omega
theorem text_len (l : List It) : (text l).length ≤ l.length * 51 := by
  induction l with
  | nil => simp [text]
  | cons x r ih =>
    have := full_len (x := x)
    have e : text (x :: r) = full x ++ text r := by simp [text]
    rw [e, List.length_append, List.length_cons]; omega
/-! ### Numbers -/
def dg (c : UInt8) : Bool := decide (48 ≤ c.toNat) && decide (c.toNat ≤ 57)
theorem dg_iff {c : UInt8} : dg c = true ↔ 48 ≤ c.toNat ∧ c.toNat ≤ 57 := by unfold dg; simp
def val (l : List UInt8) : Int := l.foldl (fun v c => 10 * v + ((c.toNat : Int) - 48)) 0
theorem val_snoc (l : List UInt8) (c : UInt8) : val (l ++ [c]) = 10 * val l + ((c.toNat : Int) - 48) := by simp [val]
theorem val_nil : val [] = 0 := rfl
def good (s : List UInt8) : Prop := s ≠ [] ∧ s.length ≤ 18 ∧ ¬ (s.head? = some 48 ∧ s ≠ [48])
instance (s : List UInt8) : Decidable (good s) := inferInstanceAs (Decidable (_ ∧ _ ∧ _))
def num (s : List UInt8) : Option Int := if good s ∧ s.all dg = true then some (val s) else none
theorem num_some {s : List UInt8} {v : Int} (h : num s = some v) : good s ∧ s.all dg = true ∧ v = val s := by
  unfold num at h
  split at h
  · rename_i h1
    exact ⟨h1.1, h1.2, by cases h; rfl⟩
  · cases h
theorem num_is {s : List UInt8} (h : good s) (h2 : s.all dg = true) : num s = some (val s) := if_pos ⟨h, h2⟩
theorem head_app {l r : List UInt8} (h : l ≠ []) : (l ++ r).head? = l.head? := by
  cases l with
  | nil => exact absurd rfl h
  | cons x q => rfl
theorem snoc_ind {p : List UInt8 → Prop} (h0 : p []) (h1 : ∀ l c, p l → p (l ++ [c])) (l : List UInt8) : p l := by
  have : ∀ n (l : List UInt8), l.length = n → p l := by
    intro n
    induction n with
    | zero => intro l hl; rw [List.length_eq_zero_iff.1 hl]; exact h0
    | succ n ih =>
      intro l hl
      have hne : l ≠ [] := by intro e; subst e; cases hl
      rw [← List.dropLast_concat_getLast hne]
      exact h1 _ _ (ih _ (by rw [List.length_dropLast]; omega))
  exact this _ l rfl
theorem val_bound (l : List UInt8) : l.all dg = true → 0 ≤ val l ∧ val l < 10 ^ l.length := by
  refine snoc_ind (p := fun l => l.all dg = true → 0 ≤ val l ∧ val l < 10 ^ l.length) ?_ ?_ l
  · intro _; simp [val]
  · intro l c ih h
    rw [List.all_append] at h
    simp only [List.all_cons, List.all_nil, Bool.and_true, Bool.and_eq_true] at h
    obtain ⟨h1, h2⟩ := ih h.1
    have h3 := dg_iff.1 h.2
    rw [val_snoc, List.length_append, List.length_singleton, Int.pow_succ]
    omega
theorem pow18 {k : Nat} (h : k ≤ 18) : (10 : Int) ^ k ≤ 1000000000000000000 := by
  have : ∀ k, k ≤ 18 → (10 : Int) ^ k ≤ 1000000000000000000 := by decide
  exact this k h
theorem num_told {s : List UInt8} {v : Int} (h : num s = some v) : told v = true := by
  obtain ⟨⟨_, h1, _⟩, h2, rfl⟩ := num_some h
  obtain ⟨a, b⟩ := val_bound s h2
  have := pow18 h1
  exact told_iff.2 ⟨a, by omega⟩
theorem dig_ok : ∀ d, d < 10 → dg (UInt8.ofNat (48 + d)) = true ∧ ((UInt8.ofNat (48 + d)).toNat : Int) - 48 = d ∧ (UInt8.ofNat (48 + d) = 48 → d = 0) := by decide
theorem dec_small {u : Nat} (h : u < 10) : Lib.decDigits u = [UInt8.ofNat (48 + u)] := by rw [Lib.decDigits, dif_pos h]
theorem dec_big {u : Nat} (h : ¬ u < 10) : Lib.decDigits u = Lib.decDigits (u / 10) ++ [UInt8.ofNat (48 + u % 10)] := by rw [Lib.decDigits, dif_neg h]
theorem dec_facts (u : Nat) : (Lib.decDigits u).all dg = true ∧ val (Lib.decDigits u) = u ∧ 0 < (Lib.decDigits u).length ∧ ((Lib.decDigits u).head? = some 48 → u = 0) := by
  induction u using Nat.strongRecOn with
  | _ u ih =>
    by_cases h : u < 10
    · obtain ⟨h1, h2, h3⟩ := dig_ok u h
      rw [dec_small h]
      refine ⟨by rw [List.all_cons, h1]; rfl, ?_, Nat.zero_lt_one, fun e => h3 (by simpa using e)⟩
      have := val_snoc [] (UInt8.ofNat (48 + u))
      rw [List.nil_append, val_nil] at this
      rw [this, h2]; omega
    · obtain ⟨a1, a2, a3, a4⟩ := ih (u / 10) (by omega)
      obtain ⟨h1, h2, h3⟩ := dig_ok (u % 10) (by omega)
      rw [dec_big h]
      refine ⟨by rw [List.all_append, a1, List.all_cons, h1]; rfl, by rw [val_snoc, a2, h2]; omega, by simp, fun e => ?_⟩
      rw [head_app (by intro e; rw [e] at a3; cases a3)] at e
      have := a4 e
      omega
theorem dec_len : ∀ (k u : Nat), u < 10 ^ (k + 1) → (Lib.decDigits u).length ≤ k + 1
  | 0, u, h => by rw [dec_small (by omega)]; simp
  | k + 1, u, h => by
    by_cases h1 : u < 10
    · rw [dec_small h1]; simp
    · rw [dec_big h1, List.length_append]
      have := dec_len k (u / 10) (by apply Nat.div_lt_of_lt_mul; rw [Nat.mul_comm, ← Nat.pow_succ]; exact h)
      simp; omega
theorem itoa_dec (v : Nat) : Lib.itoa (v : Int) = Lib.decDigits v := by
  unfold Lib.itoa
  rw [if_neg (by omega), Int.toNat_natCast]
/-- What is written of a number is read as it. -/
theorem num_itoa {n : Int} (h : told n = true) : num (Lib.itoa n) = some n := by
  obtain ⟨h0, h1⟩ := told_iff.1 h
  obtain ⟨u, rfl⟩ : ∃ u : Nat, n = u := ⟨n.toNat, by omega⟩
  rw [itoa_dec]
  obtain ⟨a1, a2, a3, a4⟩ := dec_facts u
  have hp : (10 : Nat) ^ (17 + 1) = 1000000000000000000 := by decide
  rw [num_is ⟨(by intro e; rw [e] at a3; cases a3), dec_len 17 u (by omega), ?_⟩ a1, a2]
  rintro ⟨e1, e2⟩
  have := a4 e1
  subst this
  exact e2 (by rw [dec_small (by decide)]; rfl)
theorem ofNat_dig {c : UInt8} (h : dg c = true) : UInt8.ofNat (48 + (c.toNat - 48)) = c := by
  have := dg_iff.1 h
  rw [show 48 + (c.toNat - 48) = c.toNat by omega]
  exact UInt8.ofNat_toNat
/-- A number's digits are what is written of it. -/
theorem dec_val (l : List UInt8) : l.all dg = true → l ≠ [] → (l.head? = some 48 → l = [48]) → Lib.decDigits (val l).toNat = l ∧ (l.head? ≠ some 48 → 0 < val l) := by
  refine snoc_ind (p := fun l => l.all dg = true → l ≠ [] → (l.head? = some 48 → l = [48]) → Lib.decDigits (val l).toNat = l ∧ (l.head? ≠ some 48 → 0 < val l)) ?_ ?_ l
  · intro _ h; exact absurd rfl h
  · intro l c ih h _ hz
    rw [List.all_append] at h
    simp only [List.all_cons, List.all_nil, Bool.and_true, Bool.and_eq_true] at h
    have h3 := dg_iff.1 h.2
    have hc := ofNat_dig h.2
    rw [val_snoc]
    by_cases hl : l = []
    · subst hl
      rw [val_nil]
      refine ⟨?_, fun e => ?_⟩
      · rw [dec_small (by omega), show (10 * 0 + ((c.toNat : Int) - 48)).toNat = c.toNat - 48 by omega, hc]; rfl
      · have : c.toNat ≠ 48 := fun e1 => e (by
          have : c = 48 := by rw [← UInt8.ofNat_toNat (x := c), e1]; rfl
          rw [this]; rfl)
        omega
    · have hh : (l ++ [c]).head? = l.head? := head_app hl
      rw [hh] at hz ⊢
      have hz2 : l.head? ≠ some 48 := fun e => by
        have := hz e
        have h5 := congrArg List.length this
        rw [List.length_append] at h5
        have : l.length = 0 := by simpa using h5
        exact hl (List.length_eq_zero_iff.1 this)
      obtain ⟨q1, q2⟩ := ih h.1 hl (fun e => absurd e hz2)
      have q3 := q2 hz2
      refine ⟨?_, fun _ => by omega⟩
      rw [dec_big (by omega), show (10 * val l + ((c.toNat : Int) - 48)).toNat / 10 = (val l).toNat by omega, show (10 * val l + ((c.toNat : Int) - 48)).toNat % 10 = c.toNat - 48 by omega, q1, hc]
theorem itoa_num {s : List UInt8} {v : Int} (h : num s = some v) : Lib.itoa v = s := by
  obtain ⟨⟨h1, h2, h3⟩, h4, rfl⟩ := num_some h
  obtain ⟨b1, _⟩ := val_bound s h4
  have h5 : s.head? = some 48 → s = [48] := fun e => Classical.byContradiction fun h => h3 ⟨e, h⟩
  have := (dec_val s h4 h1 h5).1
  obtain ⟨u, hu⟩ : ∃ u : Nat, val s = u := ⟨(val s).toNat, by omega⟩
  rw [hu] at this ⊢
  rw [itoa_dec]
  simpa using this
/-! ### Items -/
def item (s : List UInt8) : Option It :=
  if (Lib.cut s [32, 61, 32]).2.2 = true then
    (match num (Lib.cut s [32, 61, 32]).1, num (Lib.cut s [32, 61, 32]).2.1 with
     | some i, some j => some (2, i, false, j)
     | _, _ => none)
  else match num (Lib.cut s [32]).1 with
    | some i => if (Lib.cut s [32]).2.1 = fb true then some (1, i, true, 0) else if (Lib.cut s [32]).2.1 = fb false then some (1, i, false, 0) else none
    | none => none
def rnum (s : List UInt8) : Int × Nat :=
  if 18 < (s.takeWhile dg).length ∨ (1 < (s.takeWhile dg).length ∧ s.head? = some 48) then (0, 0) else (val (s.takeWhile dg), (s.takeWhile dg).length)
def ritem (s : List UInt8) : Option It :=
  if (rnum s).2 = 0 then none
  else if s.drop (rnum s).2 = 32 :: fb true then some (1, (rnum s).1, true, 0)
  else if s.drop (rnum s).2 = 32 :: fb false then some (1, (rnum s).1, false, 0)
  else if s.length < (rnum s).2 + 4 ∨ (s.drop (rnum s).2).take 3 ≠ [32, 61, 32] then none
  else if (rnum (s.drop ((rnum s).2 + 3))).2 = 0 ∨ (rnum s).2 + 3 + (rnum (s.drop ((rnum s).2 + 3))).2 ≠ s.length then none
  else some (2, (rnum s).1, false, (rnum (s.drop ((rnum s).2 + 3))).1)
/-- What a line of an item is. -/
def Form (s : List UInt8) (x : It) : Prop :=
  (∃ d v b, num d = some v ∧ s = d ++ 32 :: fb b ∧ x = (1, v, b, 0)) ∨ (∃ d v r u, num d = some v ∧ num r = some u ∧ s = d ++ 32 :: 61 :: 32 :: r ∧ x = (2, v, false, u))
theorem tw_app {p : UInt8 → Bool} : ∀ (d t : List UInt8), d.all p = true → (∀ c, t.head? = some c → p c = false) → (d ++ t).takeWhile p = d
  | [], t, _, h => by
    cases t with
    | nil => rfl
    | cons c r => rw [List.nil_append, List.takeWhile_cons, if_neg (by rw [h c rfl]; decide)]
  | c :: r, t, h, h2 => by
    simp only [List.all_cons, Bool.and_eq_true] at h
    rw [List.cons_append, List.takeWhile_cons, if_pos h.1, tw_app r t h.2 h2]
theorem rnum_of {d t : List UInt8} {v : Int} (h : num d = some v) (ht : ∀ c, t.head? = some c → dg c = false) : rnum (d ++ t) = (v, d.length) ∧ 0 < d.length := by
  obtain ⟨⟨h1, h2, h3⟩, h4, rfl⟩ := num_some h
  have hl : 0 < d.length := by cases d with | nil => exact absurd rfl h1 | cons x r => simp
  refine ⟨?_, hl⟩
  unfold rnum
  rw [tw_app d t h4 ht, if_neg]
  rintro (q | ⟨q1, q2⟩)
  · omega
  · rw [head_app h1] at q2
    exact h3 ⟨q2, by intro e; rw [e] at q1; simp at q1⟩
theorem tw_all {p : UInt8 → Bool} : ∀ s : List UInt8, (s.takeWhile p).all p = true
  | [] => rfl
  | c :: r => by
    rw [List.takeWhile_cons]
    split
    · rename_i h
      rw [List.all_cons, h, tw_all r]; rfl
    · rfl
theorem rnum_some {s : List UInt8} (h : (rnum s).2 ≠ 0) : ∃ d t, s = d ++ t ∧ num d = some (rnum s).1 ∧ d.length = (rnum s).2 := by
  refine ⟨s.takeWhile dg, s.dropWhile dg, (List.takeWhile_append_dropWhile).symm, ?_⟩
  unfold rnum at h ⊢
  split at h
  · exact absurd rfl h
  · rename_i h1
    rw [if_neg h1]
    refine ⟨?_, rfl⟩
    have hne : s.takeWhile dg ≠ [] := fun e => h (by rw [e]; rfl)
    have hs : s.head? = (s.takeWhile dg).head? := by
      conv => lhs; rw [← List.takeWhile_append_dropWhile (p := dg) (l := s)]
      exact head_app hne
    refine num_is ⟨hne, by omega, ?_⟩ (tw_all s)
    rintro ⟨e1, e2⟩
    refine h1 (Or.inr ⟨?_, hs.trans e1⟩)
    cases e3 : s.takeWhile dg with
    | nil => exact absurd e3 hne
    | cons c r =>
      rw [e3] at e1 e2
      cases r with
      | nil => simp only [List.head?_cons, Option.some.injEq] at e1; rw [e1] at e2; exact absurd rfl e2
      | cons c2 r2 => simp
theorem d32 : dg 32 = false := by decide
theorem head32 (t : List UInt8) (c : UInt8) (h : (32 :: t).head? = some c) : dg c = false := by
  simp only [List.head?_cons, Option.some.injEq] at h
  rw [← h]; exact d32
theorem num_dg {d : List UInt8} {v : Int} (h : num d = some v) : d.all dg = true := (num_some h).2.1
theorem drop_app (d t : List UInt8) (k : Nat) : (d ++ t).drop (d.length + k) = t.drop k := by
  rw [List.drop_append, List.drop_eq_nil_of_le (by omega), List.nil_append, Nat.add_sub_cancel_left]
theorem ritem_form (s : List UInt8) (x : It) : ritem s = some x ↔ Form s x := by
  constructor
  · intro h
    unfold ritem at h
    split at h
    · cases h
    · rename_i h0
      obtain ⟨d, t, hs, hd, hl⟩ := rnum_some h0
      have hdt : s.drop (rnum s).2 = t := by
        rw [← hl]
        conv => lhs; rw [hs]
        exact List.drop_left
      split at h
      · rename_i h1
        cases h
        exact Or.inl ⟨d, _, true, hd, by rw [← h1, hdt]; exact hs, rfl⟩
      · split at h
        · rename_i h1
          cases h
          exact Or.inl ⟨d, _, false, hd, by rw [← h1, hdt]; exact hs, rfl⟩
        · split at h
          · cases h
          · rename_i h3
            split at h
            · cases h
            · rename_i h4
              cases h
              have h3b : t.take 3 = [32, 61, 32] := by
                have := Classical.byContradiction (fun q => h3 (Or.inr q))
                rwa [hdt] at this
              have e3 : s.drop ((rnum s).2 + 3) = t.drop 3 := by rw [← List.drop_drop, hdt]
              rw [e3] at h4 ⊢
              obtain ⟨d2, t2, hs2, hd2, hl2⟩ := rnum_some (fun q => h4 (Or.inl q))
              have ht : t = [32, 61, 32] ++ t.drop 3 := by conv => lhs; rw [← List.take_append_drop 3 t, h3b]
              have hlen : (rnum s).2 + 3 + (rnum (t.drop 3)).2 = s.length := Classical.byContradiction (fun q => h4 (Or.inr q))
              have ht2 : t2 = [] := by
                have k1 := congrArg List.length hs
                have k2 := congrArg List.length ht
                have k3 := congrArg List.length hs2
                simp only [List.length_append, List.length_cons, List.length_nil] at k1 k2 k3
                exact List.length_eq_zero_iff.1 (by omega)
              rw [ht2, List.append_nil] at hs2
              have hs3 : s = d ++ 32 :: 61 :: 32 :: t.drop 3 := by
                conv => lhs; rw [hs, ht]
                rfl
              rw [← hs2] at hd2
              exact Or.inr ⟨d, _, t.drop 3, _, hd, hd2, hs3, rfl⟩
  · rintro (⟨d, v, b, hd, rfl, rfl⟩ | ⟨d, v, r, u, hd, hr, rfl, rfl⟩)
    · obtain ⟨e, hp⟩ := rnum_of hd (head32 (fb b))
      unfold ritem
      rw [e, if_neg (by simp only; omega)]
      simp only [List.drop_left]
      cases b
      · rw [if_neg (by decide), if_pos rfl]
      · rw [if_pos rfl]
    · obtain ⟨e, hp⟩ := rnum_of hd (head32 (61 :: 32 :: r))
      obtain ⟨e2, hp2⟩ := rnum_of (t := []) hr (fun c h => by cases h)
      rw [List.append_nil] at e2
      unfold ritem
      rw [e, if_neg (by simp only; omega)]
      simp only [List.drop_left]
      rw [drop_app d _ 3]
      simp only [List.drop_succ_cons, List.drop_zero]
      rw [e2]
      simp only
      rw [if_neg (by intro h; simp [fb] at h), if_neg (by intro h; simp [fb] at h), if_neg, if_neg]
      · rintro (q | q)
        · omega
        · simp only [List.length_append, List.length_cons] at q; omega
      · rintro (q | q)
        · simp only [List.length_append, List.length_cons] at q; omega
        · simp at q
/-! ### Cuts -/
theorem cut_hit {s sep : List UInt8} {i : Nat} (hi : i ≤ s.length) (h : Lib.occAt s sep i = true) (hn : ∀ j, j < i → Lib.occAt s sep j = false) : Lib.cut s sep = (s.take i, s.drop (i + sep.length), true) := by
  unfold Lib.cut
  rw [Lib.index_first hi h hn, if_pos (by omega), Int.toNat_natCast]
theorem cut_miss {s sep : List UInt8} (h : ∀ j, j ≤ s.length → Lib.occAt s sep j = false) : Lib.cut s sep = (s, [], false) := by
  unfold Lib.cut
  rw [Lib.index_none h, if_neg (by omega)]
theorem cut_cases (s sep : List UInt8) : (Lib.cut s sep = (s, [], false) ∧ ∀ j, j ≤ s.length → Lib.occAt s sep j = false) ∨
    (∃ a b, Lib.cut s sep = (a, b, true) ∧ s = a ++ sep ++ b ∧ ∀ j, j < a.length → Lib.occAt s sep j = false) := by
  rcases Lib.index_spec s sep with ⟨h1, h2⟩ | ⟨i, h1, h2, h3, h4⟩
  · exact Or.inl ⟨cut_miss h2, h2⟩
  · refine Or.inr ⟨s.take i, s.drop (i + sep.length), cut_hit h2 h3 h4, ?_, fun j hj => h4 j (by rw [List.length_take] at hj; omega)⟩
    unfold Lib.occAt at h3
    obtain ⟨t, ht⟩ := List.isPrefixOf_iff_prefix.1 h3
    have : s.drop (i + sep.length) = t := by rw [← List.drop_drop, ← ht, List.drop_left]
    rw [this, List.append_assoc, ht, List.take_append_drop]
theorem dig_no {d t : List UInt8} {sep : List UInt8} {v : Int} (hd : num d = some v) {j : Nat} (hj : j < d.length) : Lib.occAt (d ++ t) (32 :: sep) j = false := by
  refine Bool.eq_false_iff.2 fun h => ?_
  have h1 := Lib.occAt_head rfl h
  rw [List.getElem?_append_left hj] at h1
  have h2 := List.mem_of_getElem? h1
  have := List.all_eq_true.1 (num_dg hd) _ h2
  rw [d32] at this; cases this
theorem occ_here (d sep t : List UInt8) : Lib.occAt (d ++ (sep ++ t)) sep d.length = true := by
  unfold Lib.occAt
  rw [List.drop_left]
  exact List.isPrefixOf_iff_prefix.2 (List.prefix_append _ _)
theorem cut_at {d t sep : List UInt8} {v : Int} (hd : num d = some v) : Lib.cut (d ++ 32 :: (sep ++ t)) (32 :: sep) = (d, t, true) := by
  have h := occ_here d (32 :: sep) t
  rw [List.cons_append] at h
  rw [cut_hit (i := d.length) (by rw [List.length_append]; omega) h (fun j hj => dig_no hd hj)]
  rw [List.take_left, drop_app, List.length_cons, List.drop_succ_cons, List.drop_left]
theorem no61 {s : List UInt8} (h : 61 ∉ s) (j : Nat) : Lib.occAt s [32, 61, 32] j = false := by
  refine Bool.eq_false_iff.2 fun q => ?_
  unfold Lib.occAt at q
  obtain ⟨t, ht⟩ := List.isPrefixOf_iff_prefix.1 q
  have : 61 ∈ s.drop j := by rw [← ht]; simp
  exact h (List.mem_of_mem_drop this)
theorem dg61 {d : List UInt8} {v : Int} (hd : num d = some v) (c : UInt8) (hc : dg c = false) : c ∉ d := fun h => by
  have := List.all_eq_true.1 (num_dg hd) _ h
  rw [hc] at this; cases this
theorem item_form (s : List UInt8) (x : It) : item s = some x ↔ Form s x := by
  constructor
  · intro h
    unfold item at h
    rcases cut_cases s [32, 61, 32] with ⟨e, _⟩ | ⟨a, b, e, hs, _⟩
    · rw [e, if_neg (by simp)] at h
      rcases cut_cases s [32] with ⟨e2, _⟩ | ⟨a, b, e2, hs, _⟩
      · rw [e2] at h
        simp only at h
        split at h
        · rw [if_neg (by decide), if_neg (by decide)] at h; cases h
        · cases h
      · rw [e2] at h
        simp only at h
        split at h
        · rename_i v hv
          split at h
          · rename_i h1
            cases h
            exact Or.inl ⟨a, v, true, hv, by rw [hs, h1]; simp, rfl⟩
          · split at h
            · rename_i h1
              cases h
              exact Or.inl ⟨a, v, false, hv, by rw [hs, h1]; simp, rfl⟩
            · cases h
        · cases h
    · rw [e, if_pos rfl] at h
      simp only at h
      split at h
      · rename_i i j hi hj
        cases h
        exact Or.inr ⟨a, i, b, j, hi, hj, by rw [hs]; simp, rfl⟩
      · cases h
  · rintro (⟨d, v, b, hd, rfl, rfl⟩ | ⟨d, v, r, u, hd, hr, rfl, rfl⟩)
    · have e1 : Lib.cut (d ++ 32 :: fb b) [32, 61, 32] = (d ++ 32 :: fb b, [], false) := by
        refine cut_miss fun j _ => no61 ?_ j
        rw [List.mem_append]
        rintro (q | q)
        · exact dg61 hd 61 (by decide) q
        · cases b <;> simp [fb] at q
      have e2 := cut_at (t := fb b) (sep := []) hd
      rw [List.nil_append] at e2
      unfold item
      rw [e1, if_neg (by simp), e2]
      simp only
      rw [hd]
      simp only
      cases b
      · rw [if_neg (by decide), if_pos rfl]
      · rw [if_pos rfl]
    · have e1 := cut_at (t := r) (sep := [61, 32]) hd
      have e2 : d ++ 32 :: ([61, 32] ++ r) = d ++ 32 :: 61 :: 32 :: r := rfl
      rw [e2] at e1
      unfold item
      rw [e1, if_pos rfl]
      simp only
      rw [hd, hr]
theorem item_ritem (s : List UInt8) : ritem s = item s := by
  cases h : item s with
  | some x => exact (ritem_form s x).2 ((item_form s x).1 h)
  | none =>
    cases h2 : ritem s with
    | none => rfl
    | some x => rw [(item_form s x).2 ((ritem_form s x).1 h2)] at h; cases h
end Vd
end Go.Proofs.YtlimhggkimnddaaDoor
