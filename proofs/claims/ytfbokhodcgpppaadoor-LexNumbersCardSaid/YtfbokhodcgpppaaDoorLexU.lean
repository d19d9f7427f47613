/- Numbers as they are written, and as they are read (plain). No program in sight. -/
import Derived.Test.YtfbokhodcgpppaaDoorLexP
import Derived.Lib.ItoaNum
namespace Go.Proofs.YtfbokhodcgpppaaDoor
open Go.RowKit
namespace Lx
theorem dig_ok : ∀ d, d < 10 → dg (UInt8.ofNat (48 + d)) = true ∧ ((UInt8.ofNat (48 + d)).toNat : Int) - 48 = d ∧ (UInt8.ofNat (48 + d) = 48 → d = 0) := by decide
theorem dec_small {u : Nat} (h : u < 10) : Lib.decDigits u = [UInt8.ofNat (48 + u)] := by rw [Lib.decDigits, dif_pos h]
theorem dec_big {u : Nat} (h : ¬ u < 10) : Lib.decDigits u = Lib.decDigits (u / 10) ++ [UInt8.ofNat (48 + u % 10)] := by rw [Lib.decDigits, dif_neg h]
theorem numOf_app (l : List UInt8) (d : UInt8) : numOf (l ++ [d]) = 10 * numOf l + ((d.toNat : Int) - 48) := by simp [numOf]
theorem numOf_uno (d : UInt8) : numOf [d] = (d.toNat : Int) - 48 := by simp [numOf]
theorem dec_facts (u : Nat) : (Lib.decDigits u).all dg = true ∧ numOf (Lib.decDigits u) = u ∧ 0 < (Lib.decDigits u).length ∧ ((Lib.decDigits u).getD 0 0 = 48 → u = 0) := by
  induction u using Nat.strongRecOn with
  | _ u ih =>
    by_cases h : u < 10
    · obtain ⟨h1, h2, h3⟩ := dig_ok u h
      rw [dec_small h]
      exact ⟨by rw [List.all_cons, h1]; rfl, by rw [numOf_uno, h2], Nat.zero_lt_one, fun e => h3 e⟩
    · obtain ⟨a1, a2, a3, a4⟩ := ih (u / 10) (by omega)
      obtain ⟨h1, h2, h3⟩ := dig_ok (u % 10) (by omega)
      rw [dec_big h]
      refine ⟨by rw [List.all_append, a1, List.all_cons, h1]; rfl, by rw [numOf_app, a2, h2]; omega, by simp, fun e => ?_⟩
      rw [List.getD_eq_getElem?_getD, List.getElem?_append_left a3, ← List.getD_eq_getElem?_getD] at e
      have := a4 e
      omega
theorem dec_len : ∀ (k u : Nat), u < 10 ^ (k + 1) → (Lib.decDigits u).length ≤ k + 1
  | 0, u, h => by rw [dec_small (by omega)]; simp
  | k + 1, u, h => by
    by_cases h1 : u < 10
    · rw [dec_small h1]; simp
    · rw [dec_big h1, List.length_append]
      have := dec_len k (u / 10) (by apply Nat.div_lt_of_lt_mul; rw [Nat.mul_comm, ← Nat.pow_succ]; exact h)
      simp; omega
def pad (a : Nat) : List UInt8 := List.replicate a 32
theorem pad_len (a : Nat) : (pad a).length = a := by simp [pad]
theorem pad_bl (a : Nat) : isBl (pad a) := fun x hx => Or.inl (List.eq_of_mem_replicate hx)
theorem tw_all (P : UInt8 → Bool) : ∀ t : List UInt8, t.all P = true → t.takeWhile P = t
  | [], _ => rfl
  | x :: r, h => by
    simp only [List.all_cons, Bool.and_eq_true] at h
    rw [List.takeWhile_cons, if_pos h.1, tw_all P r h.2]
theorem fin_whole (P : UInt8 → Bool) (A t : List UInt8) (h : t.all P = true) : fin P (A ++ t) A.length = A.length + t.length := by
  unfold fin
  rw [List.drop_left, tw_all P t h]
theorem cut_whole (A t : List UInt8) : cut (A ++ t) A.length (A.length + t.length) = t := by
  have := cut_mid A t []
  rwa [List.append_nil] at this
theorem num_start (a : Nat) (x : UInt8) (r : List UInt8) (hl : a + (x :: r).length ≤ 2000) : lexP (pad a ++ x :: r) = lexGo (pad a ++ x :: r) ((r.length + 1) + 1) (pad a).length [] := by
  unfold lexP
  rw [if_neg (by rw [List.length_append, pad_len]; omega)]
  have hg := go_gap (pad a) [] (x :: r) ((r.length + 1) + 1) [] (pad_bl a)
  rw [List.nil_append, List.length_nil, Nat.zero_add] at hg
  rw [← hg, List.length_append, List.length_cons, Nat.add_assoc]
theorem num_at (a : Nat) (x : UInt8) (r : List UInt8) : (pad a ++ x :: r)[(pad a).length]? = some x := by
  rw [List.getElem?_append_right (Nat.le_refl _), Nat.sub_self]; rfl
theorem num_dg {x : UInt8} {r : List UInt8} (h : (x :: r).all dg = true) : dg x = true ∧ ¬ (x = 32 ∨ x = 10) := by
  simp only [List.all_cons, Bool.and_eq_true] at h
  refine ⟨h.1, ?_⟩
  rintro (rfl | rfl) <;> exact absurd h.1 (by decide)
theorem num_ok (a : Nat) (t : List UInt8) (ht : t.all dg = true) (h0 : 0 < t.length) (h4 : t.length ≤ 4) (hz : t.getD 0 0 = 48 → t.length = 1) (ha : a ≤ 8) :
    lexP (pad a ++ t) = ([⟨2, [], numOf t, a⟩, ⟨0, [], 0, a + t.length⟩], 0, 0) := by
  cases t with
  | nil => cases h0
  | cons x r =>
    obtain ⟨hx, hb⟩ := num_dg ht
    have hz' : ¬ (x = 48 ∧ 1 < (x :: r).length) := fun ⟨e, h⟩ => by have := hz e; omega
    have hk : tokAt (pad a ++ x :: r) (pad a).length x = some (⟨2, [], numOf (x :: r), (pad a).length⟩, (x :: r).length) := by
      unfold tokAt
      rw [if_neg (by rw [sm_not_dg hx]; decide), if_pos hx, fin_whole dg _ _ ht, cut_whole, Nat.add_sub_cancel_left, if_neg]
      rintro (h | h)
      · omega
      · exact hz' h
    rw [num_start a x r (by omega), go_tok _ _ _ _ _ x _ (num_at a x r) hb hk, go_end _ _ _ _ (by rw [List.length_append]; omega), List.length_append, pad_len]
    rfl
theorem num_no (a : Nat) (t : List UInt8) (ht : t.all dg = true) (h0 : 0 < t.length) (hbad : 4 < t.length ∨ (t.getD 0 0 = 48 ∧ 1 < t.length)) (hl : t.length ≤ 100) (ha : a ≤ 8) :
    lexP (pad a ++ t) = ([], a, 2) := by
  cases t with
  | nil => cases h0
  | cons x r =>
    obtain ⟨hx, hb⟩ := num_dg ht
    have hk : tokAt (pad a ++ x :: r) (pad a).length x = none := by
      unfold tokAt
      rw [if_neg (by rw [sm_not_dg hx]; decide), if_pos hx, fin_whole dg _ _ ht, Nat.add_sub_cancel_left, if_pos]
      exact hbad
    rw [num_start a x r (by omega), go_none _ _ _ _ x (num_at a x r) hb hk, pad_len]
/-- The three texts of the law. -/
theorem nums (a v : Nat) (ha : a ≤ 8) (hv : v < 10000) :
    lexP (pad a ++ Lib.decDigits v) = ([⟨2, [], v, a⟩, ⟨0, [], 0, a + (Lib.decDigits v).length⟩], 0, 0) ∧
    lexP (pad a ++ ([48] ++ Lib.decDigits v)) = ([], a, 2) ∧ lexP (pad a ++ ([49, 50, 51, 52] ++ Lib.decDigits v)) = ([], a, 2) ∧ (Lib.decDigits v).length ≤ 4 := by
  obtain ⟨h1, h2, h3, h4⟩ := dec_facts v
  have h5 := dec_len 3 v hv
  refine ⟨?_, ?_, ?_, h5⟩
  · rw [num_ok a _ h1 h3 h5 (fun e => ?_) ha, h2]
    have := h4 e
    subst this
    rw [dec_small (by decide)]; rfl
  · exact num_no a _ (by rw [List.all_append, h1]; rfl) (by simp) (Or.inr ⟨rfl, by simp; omega⟩) (by simp; omega) ha
  · exact num_no a _ (by rw [List.all_append, h1]; rfl) (by simp) (Or.inl (by simp; omega)) (by simp; omega) ha
end Lx
end Go.Proofs.YtfbokhodcgpppaaDoor
