/- Layer 12, plain: what is read of a source; records read so. No program in sight. -/
import Derived.Test.YtdihoedehmfgfaaLogH
set_option linter.unusedSimpArgs false
set_option linter.unusedVariables false
namespace Go.Proofs.Ytdihoedehmfgfaa
open Go.ChangeShapes Go.WideShapes Go.ChangeAt Go.RowKit
namespace Sc
open Go.Proofs.Ytdihoedehmfgfaa.Rec (rises get none_ pr size right_some)
open Go.Proofs.Ytdihoedehmfgfaa.Sum (put right)
/-- As many bytes from a place on as can be read; the error that ended them. -/
def rd (b : List UInt8) (r at_ : Nat) (most : Int) : List UInt8 × Int :=
  (((b.take r).drop at_).take most.toNat, if most ≤ 0 ∨ (at_ : Int) + most ≤ r then 0 else if r < b.length ∧ at_ < b.length then 10 else 13)
theorem rd_step {b : List UInt8} {r at_ m K : Nat} (h : at_ + m + K ≤ r) : ((b.take r).drop at_).take m ++ (b.drop (at_ + m)).take K = ((b.take r).drop at_).take (m + K) := by
  have e : ((b.take r).drop at_).drop m = (b.drop (at_ + m)).take (r - (at_ + m)) := by
    rw [List.drop_drop, List.drop_take]
  have e2 : (((b.take r).drop at_).drop m).take K = (b.drop (at_ + m)).take K := by
    rw [e, List.take_take, Nat.min_eq_left (by omega)]
  rw [← e2, List.take_add]
theorem rd_len {b : List UInt8} {r at_ m : Nat} (hr : r ≤ b.length) (h : at_ + m ≤ r) : (((b.take r).drop at_).take m).length = m := by
  rw [List.length_take, List.length_drop, List.length_take]; omega
/-- An error: nothing can be read there. -/
def why (b : List UInt8) (p : Nat) : Int := if b.length ≤ p then 13 else 10
theorem rd_full {b : List UInt8} {r at_ : Nat} {most : Int} (m : Nat) (hm : most = (m : Int)) (h : at_ + m ≤ r) : rd b r at_ most = (((b.take r).drop at_).take m, 0) := by
  subst hm
  unfold rd
  rw [if_pos (Or.inr (by omega)), Int.toNat_natCast]
theorem rd_none {b : List UInt8} {r at_ : Nat} {most : Int} (h : most ≤ 0) : rd b r at_ most = ([], 0) := by
  unfold rd
  rw [if_pos (Or.inl h), show most.toNat = 0 by omega, List.take_zero]
theorem rd_short {b : List UInt8} {r at_ m : Nat} {most : Int} (hr : r ≤ b.length) (hm : (m : Int) < most) (h : r ≤ at_ + m) (h2 : at_ + m ≤ r ∨ m = 0) : rd b r at_ most = (((b.take r).drop at_).take m, why b (at_ + m)) := by
  have hl : ((b.take r).drop at_).length ≤ m := by rw [List.length_drop, List.length_take]; omega
  unfold rd why
  rw [if_neg (by omega), List.take_of_length_le hl, List.take_of_length_le (by omega)]
  congr 1
  by_cases q : b.length ≤ at_ + m
  · rw [if_neg (by omega), if_pos q]
  · rw [if_pos (by omega), if_neg q]
/-- What watchglassref8.Record hands back; r: how many bytes can be read. -/
def recP (b : List UInt8) (r : Nat) (at_ p : Int) : Rec.Got :=
  if at_ < 0 then none_ 1 else if (b.length : Int) ≤ at_ then none_ 13 else
  match get ((b.take r).drop (min at_.toNat r)) p with
  | (x, n, e) => if r < b.length ∧ (e = 13 ∨ e = 7) then none_ 10 else if e ≠ 0 then none_ e else (x, at_ + n, 0)
theorem get_take {d : List UInt8} {p : Int} (h : 2 ≤ d.length) : get (d.take (min (size d) 72 + 6)) p = get d p := by
  have hb := Rec.pr_bd p
  have hl : (d.take (min (size d) 72 + 6)).length = min (min (size d) 72 + 6) d.length := List.length_take
  have hs : size (d.take (min (size d) 72 + 6)) = size d := by
    unfold size
    simp only [List.getD_eq_getElem?_getD]
    rw [List.getElem?_take_of_lt (by omega), List.getElem?_take_of_lt (by omega)]
  unfold Rec.get
  rw [hs, hl, if_neg (by omega), if_neg (show ¬ d.length = 0 by omega), if_neg (by omega), if_neg (show ¬ d.length = 1 by omega)]
  by_cases h3 : size d < 8 ∨ 8 + pr p < size d
  · rw [if_pos h3, if_pos h3]
  · rw [if_neg h3, if_neg h3]
    have h72 : min (size d) 72 = size d := by omega
    rw [h72]
    by_cases h4 : d.length < size d + 6
    · rw [if_pos (by omega), if_pos h4]
    · rw [if_neg (by omega), if_neg h4, List.take_take, Nat.min_self]
end Sc
end Go.Proofs.Ytdihoedehmfgfaa
