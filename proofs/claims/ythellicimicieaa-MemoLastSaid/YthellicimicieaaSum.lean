/- The contracts of package sum and of the reference's sums: what each call computes, for any bytes. No condition but the lengths that any slice has. -/
import Derived.Test.YthellicimicieaaBase
set_option linter.unusedSimpArgs false
set_option linter.unusedVariables false
namespace Go.Proofs.Ythellicimicieaa
open Go.ChangeShapes Go.WideShapes Go.ChangeAt Go.RowKit
namespace Sum
/-! ### The plain sums -/
def step (p : Int × Int) (x : UInt8) : Int × Int := ((p.1 + x.toNat) % 65521, (p.2 + (p.1 + x.toNat) % 65521) % 65521)
def run (p : Int × Int) (bs : List UInt8) : Int × Int := bs.foldl step p
def fin (p : Int × Int) : Int := p.2 * 65536 + p.1
def start (n : Int) : Int × Int := (n % 65536 % 65521, n / 65536 % 65521)
def more (n : Int) (bs : List UInt8) : Int := fin (run (start n) bs)
theorem start_bd (n : Int) : 0 ≤ (start n).1 ∧ (start n).1 < 65521 ∧ 0 ≤ (start n).2 ∧ (start n).2 < 65521 := by simp only [start]; omega
theorem run_bd (p : Int × Int) (bs : List UInt8) (h : 0 ≤ p.1 ∧ p.1 < 65521 ∧ 0 ≤ p.2 ∧ p.2 < 65521) : 0 ≤ (run p bs).1 ∧ (run p bs).1 < 65521 ∧ 0 ≤ (run p bs).2 ∧ (run p bs).2 < 65521 := by
  induction bs generalizing p with
  | nil => exact h
  | cons x r ih => exact ih _ (by simp only [step]; omega)
theorem more_bd (n : Int) (bs : List UInt8) : 0 ≤ more n bs ∧ more n bs < 4294967296 := by
  have := run_bd (start n) bs (start_bd n)
  simp only [more, fin]; omega
theorem run_snoc (p : Int × Int) (bs : List UInt8) (k : Nat) (x : UInt8) (h : bs[k]? = some x) : run p (bs.take (k+1)) = step (run p (bs.take k)) x := by
  rw [List.take_add_one, h]; simp [run]
theorem ret_u32 {a b : Int} (h : a = b) : Ending.returned (.int .u32 a) = .returned (.int .u32 b) := by rw [h]
theorem or_fin (c a : Int) (h1 : 0 ≤ c) (h2 : c < 65521) (h3 : 0 ≤ a) (h4 : a < 65521) : bits .or .u32 (c * 65536) a = c * 65536 + a := by
  rw [u32_or _ _ (by omega) (by omega) (by omega) (by omega), nat_join 16 _ _ (by omega) (by omega)]; omega
theorem low16 (n : Int) (h0 : 0 ≤ n) (h1 : n < 4294967296) : bits .and .u32 n 65535 = n % 65536 := by
  rw [u32_and _ _ (by omega) (by omega) (by omega) (by omega)]
  have := Nat.and_two_pow_sub_one_eq_mod n.toNat 16
  simp at this ⊢; omega

/-! ### sum.More, watchglassref1.More -/
end Sum
end Go.Proofs.Ythellicimicieaa
