/- SourceAll walked: for any bytes, script, fault and mosts of lengths at most 100000000 the law returns true. -/
import Derived.Test.YtdihoedehmfgfaaSourceLaws
set_option linter.unusedSimpArgs false
set_option linter.unusedVariables false
namespace Go.Proofs.Ytdihoedehmfgfaa
open Go.ChangeShapes Go.WideShapes Go.ChangeAt Go.RowKit
open Go.ChangeMaps (open_string shut_string)
theorem app1b {P : Program} {w : World} {ops : Array Oper} {rest : List Oper} {o : Oper} {a : Act} {Q : Exit → Act → World → Prop} (hgd : o.guard = none) (s x : Operand) (t : TypeId) (ho : o.op = .call { callee := .builtin .append, args := #[s, x], argTypes := #[t, t] })
    (e : TypeId) (z : Value) (bytes : Nat) (ht : P.underlying t = some (.slice e)) (hinfo : (P.info? e).map (fun i => (i.zero, i.size, i.bytes)) = some (some z, 1, bytes)) (hz : z.cells.size = 1) (hby : bytes ≤ 128)
    {B : Nat} (hB : B ≤ w.heap.size) {v : Value} {xs : List Value} (hown : Own w B e v xs) (hs : a.eval s = v) {u : Value} {news : List Value} (hu : Sl w u news) (hx : a.eval x = u) (h1 : ∀ u ∈ news, u.oneCell' = true)
    (h : ∀ v' w', Own w' B e v' (xs ++ news) → Mods (B ≤ ·) w w' → wpList P ops Q rest (a.put o.dst v') w')
    (h63 : xs.length + news.length ≤ 1099511627776) : wpList P ops Q (o :: rest) a w := by
  obtain ⟨i, hi, hz0, hz1, hz2⟩ := info_parts hinfo
  obtain ⟨p, cap, rfl, hcap, hmx, hnone, hc⟩ := hu
  cases p with
  | none =>
    obtain rfl := hnone rfl
    obtain rfl : news = [] := by cases news with | nil => rfl | cons y r => simp at hcap
    refine wpList_append_own_none hgd s x t ho B e i 1 ht hi v xs.length xs hs hown hx ?_
    exact h v w (by simpa using hown) (Mods.refl _ _)
  | some ad =>
    refine wpList_append_own (w := w) hgd s x t ho B e i z 1 bytes ht hi hz0 hz1 hz2 hz (by decide) v xs.length xs hs hown ad news.length cap news hx (by simp) (fun j y hj => ?_) h1 (by unfold maxLen; omega) ?_ hB (fun v' w' h2 h3 _ => ?_)
    · obtain ⟨hjl, rfl⟩ := List.getElem?_eq_some_iff.1 hj
      obtain ⟨b, off, e1, hcell⟩ := hc j hjl
      cases e1
      rw [addr_add]; exact hcell
    · have := Nat.mul_le_mul h63 hby; omega
    · exact h v' w' (by simpa [Own] using h2) ⟨h3.os, h3.tape, h3.output, h3.size, fun k hk hs => h3.block k hk (fun e => hs (Own.lt hown k e.symm))⟩
namespace Src
theorem many_bd (sc : List Int) (r n at_ : Nat) (most : Int) (h1 : at_ < r) (h2 : 1 ≤ most) : 1 ≤ many sc r n at_ most ∧ (many sc r n at_ most : Int) ≤ most ∧ many sc r n at_ most + at_ ≤ r := by
  unfold many
  cases sc[n]? with
  | none => dsimp only; omega
  | some x => dsimp only; omega
theorem read_in (b : List UInt8) (sc : List Int) (r n at_ : Nat) (most : Int) (hr : r ≤ b.length) (h1 : at_ < r) (h2 : 1 ≤ most) :
    ∃ K, read b sc r n at_ most = ((b.drop at_).take K, 0, n + 1) ∧ 1 ≤ K ∧ (K : Int) ≤ most ∧ K + at_ ≤ r := by
  obtain ⟨k1, k2, k3⟩ := many_bd sc r n at_ most h1 h2
  exact ⟨many sc r n at_ most, by unfold read; rw [if_neg (by omega), if_neg (by omega), if_neg (by omega)]; rfl, k1, k2, k3⟩
theorem read_at_end (b : List UInt8) (sc : List Int) (fault : Int) (n : Nat) :
    read b sc (rt b.length fault) n (rt b.length fault) 1 = ([], if 0 ≤ fault ∧ fault < b.length then 10 else 13, n) := by
  unfold read
  rw [if_neg (by omega)]
  by_cases h : 0 ≤ fault ∧ fault < b.length
  · have : rt b.length fault < b.length := by unfold rt; rw [if_pos h]; omega
    rw [if_neg (by omega), if_pos (by omega), if_pos h]
  · have : rt b.length fault = b.length := by unfold rt; rw [if_neg h]
    rw [this, if_pos (by omega), if_neg h]
theorem take_more (b : List UInt8) (m K : Nat) : b.take m ++ (b.drop m).take K = b.take (m + K) := by rw [List.take_add]
/-- What holds at a round's head. -/
structure AllAt (w w1 wr : World) (a : Nat) (b : List UInt8) (sc : List Int) (r k m : Nat) (v : Value) : Prop where
  src : Is wr (fun k => w.heap.size ≤ k ∧ k < a) a b sc r k
  nw : Nw w wr
  sz : w1.heap.size ≤ wr.heap.size
  own : Own wr w1.heap.size 5 v (u8s (b.take m))
  le : k ≤ m
  up : m ≤ r
end Src
end Go.Proofs.Ytdihoedehmfgfaa
