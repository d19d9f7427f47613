/- Sums of bytes, the plain laws: how a byte that is changed changes them. No program in sight, no condition. -/
import Derived.Test.YtdihoedehmfgfaaPuts
set_option linter.unusedSimpArgs false
set_option linter.unusedVariables false
namespace Go.Proofs.Ytdihoedehmfgfaa
open Go.ChangeShapes Go.WideShapes Go.ChangeAt Go.RowKit
namespace Sum
def S (l : List UInt8) : Int := l.foldl (fun s x => s + x.toNat) 0
theorem S_from (l : List UInt8) (s : Int) : l.foldl (fun s (x : UInt8) => s + (x.toNat : Int)) s = s + S l := by
  induction l generalizing s with
  | nil => simp [S]
  | cons x r ih => simp only [S, List.foldl_cons]; rw [ih, ih (0 + _)]; omega
theorem S_cons (x : UInt8) (r : List UInt8) : S (x :: r) = x.toNat + S r := by simp only [S, List.foldl_cons]; rw [S_from, S]; omega
theorem S_snoc (l : List UInt8) (x : UInt8) : S (l ++ [x]) = S l + x.toNat := by simp [S]
def V : Int → List UInt8 → Int
  | _, [] => 0
  | n, x :: r => x.toNat * n + V (n - 1) r
theorem V_snoc (l : List UInt8) (x : UInt8) (n : Int) : V n (l ++ [x]) = V n l + x.toNat * (n - l.length) := by
  induction l generalizing n with
  | nil => simp [V]
  | cons y r ih => simp only [List.cons_append, V, ih, List.length_cons]; grind
theorem run_is (l : List UInt8) (a c : Int) (ha : 0 ≤ a ∧ a < 65521) (hc : 0 ≤ c ∧ c < 65521) : run (a, c) l = ((a + S l) % 65521, (c + l.length * a + V l.length l) % 65521) := by
  induction l generalizing a c with
  | nil =>
    simp [run, S, V]
    omega
  | cons x r ih =>
    have e : run (a, c) (x :: r) = run (step (a, c) x) r := rfl
    rw [e]
    simp only [step]
    rw [ih _ _ (by omega) (by omega), S_cons]
    have h1 : (a + x.toNat) % 65521 = a + x.toNat - 65521 * ((a + x.toNat) / 65521) := by omega
    have h2 : (c + (a + x.toNat) % 65521) % 65521 = c + (a + x.toNat) % 65521 - 65521 * ((c + (a + x.toNat) % 65521) / 65521) := by omega
    refine Prod.ext (by dsimp only; omega) ?_
    dsimp only
    generalize (c + (a + x.toNat) % 65521) / 65521 = q2 at h2
    generalize (a + x.toNat) / 65521 = q1 at h1
    rw [h2, h1, V, List.length_cons]
    have hv : ((r.length + 1 : Nat) : Int) - 1 = r.length := by omega
    rw [hv]
    generalize V r.length r = v
    generalize ((x.toNat : Nat) : Int) = y
    have e2 : ((r.length + 1 : Nat) : Int) = (r.length : Int) + 1 := by omega
    rw [e2]
    generalize (r.length : Int) = L
    have e3 : c + (a + y - 65521 * q1) - 65521 * q2 + L * (a + y - 65521 * q1) + v = (c + (L + 1) * a + (y * (L + 1) + v)) + 65521 * (-(q2 + q1 + L * q1)) := by grind
    rw [e3, Int.add_mul_emod_self_left]
theorem S_bd (l : List UInt8) : 0 ≤ S l ∧ S l ≤ 255 * l.length := by
  induction l with
  | nil => simp [S]
  | cons x r ih => have := x.toNat_lt; rw [S_cons, List.length_cons]; omega
theorem mul_bd (x : Int) (d : Int) (h0 : 0 ≤ x) (h1 : x ≤ 255) (h2 : 0 ≤ d) (h3 : d ≤ 20000) : 0 ≤ x * d ∧ x * d ≤ 5100000 := by
  refine ⟨Int.mul_nonneg h0 h2, ?_⟩
  have := Int.mul_le_mul h1 h3 h2 (by omega : (0 : Int) ≤ 255)
  omega
theorem V_bd (l : List UInt8) (n : Int) (h : l.length ≤ n) (hn : n ≤ 20000) : 0 ≤ V n l ∧ V n l ≤ 5100000 * l.length := by
  induction l generalizing n with
  | nil => simp [V]
  | cons x r ih =>
    have hx := x.toNat_lt
    simp only [List.length_cons] at h
    have := ih (n - 1) (by omega) (by omega)
    have := mul_bd x.toNat n (by omega) (by omega) (by omega) hn
    simp only [V, List.length_cons]
    omega
theorem sum_is (l : List UInt8) : more 1 l = (l.length + V l.length l) % 65521 * 65536 + (1 + S l) % 65521 := by
  have : start 1 = (1, 0) := by decide
  simp only [more, fin, this]
  rw [run_is l 1 0 (by omega) (by omega)]
  simp
theorem S_set (l : List UInt8) (i : Nat) (x z : UInt8) (h : l[i]? = some x) : S (l.set i z) = S l - x.toNat + z.toNat := by
  induction l generalizing i with
  | nil => simp at h
  | cons y r ih =>
    cases i with
    | zero => simp at h; subst h; rw [List.set_cons_zero, S_cons, S_cons]; omega
    | succ i => simp at h; rw [List.set_cons_succ, S_cons, S_cons, ih i h]; omega
theorem V_set (l : List UInt8) (n : Int) (i : Nat) (x z : UInt8) (h : l[i]? = some x) : V n (l.set i z) = V n l + (z.toNat - x.toNat) * (n - i) := by
  induction l generalizing i n with
  | nil => simp at h
  | cons y r ih =>
    cases i with
    | zero => simp at h; subst h; rw [List.set_cons_zero]; simp only [V]; grind
    | succ i => simp at h; rw [List.set_cons_succ]; simp only [V]; rw [ih (n - 1) i h]; grind
theorem more_eq (a b : List UInt8) : more 1 a = more 1 b ↔ (1 + S a) % 65521 = (1 + S b) % 65521 ∧ (a.length + V a.length a) % 65521 = (b.length + V b.length b) % 65521 := by
  rw [sum_is, sum_is]
  generalize (1 + S a) = p
  generalize (1 + S b) = q
  generalize (a.length + V a.length a) = r
  generalize (b.length + V b.length b) = s
  omega
theorem set_self {α : Type} (l : List α) (i : Nat) (x : α) (h : l[i]? = some x) : l.set i x = l := by
  have := (List.getElem?_eq_some_iff.1 h).2
  rw [← this]; simp
theorem set_told (l : List UInt8) (i : Nat) (x z : UInt8) (h : l[i]? = some x) : more 1 (l.set i z) = more 1 l ↔ z = x := by
  constructor
  · intro e
    have := ((more_eq _ _).1 e).1
    rw [S_set l i x z h] at this
    have h1 := x.toNat_lt
    have h2 := z.toNat_lt
    exact UInt8.toNat_inj.1 (by omega)
  · rintro rfl
    rw [set_self l i z h]
end Sum
end Go.Proofs.Ytdihoedehmfgfaa
