/- The contracts of sum.Put, sum.Right and of the reference's: what they hand back, for any bytes not longer than 2^40. -/
import Derived.Test.YthellicimicieaaSum
import Derived.Deep.DeepMust
set_option linter.unusedSimpArgs false
set_option linter.unusedVariables false
namespace Go.Proofs.Ythellicimicieaa
open Go.ChangeShapes Go.WideShapes Go.ChangeAt Go.RowKit
namespace Sum
/-! ### Four bytes of a sum -/
def byte (z : Int) : UInt8 := UInt8.ofNat z.toNat
theorem byte_val (z : Int) (h0 : 0 ≤ z) (h1 : z < 256) : ((byte z).toNat : Int) = z := by
  simp only [byte, UInt8.toNat_ofNat']
  omega
def be4 (s : Int) : List UInt8 := [byte (s / 16777216), byte (s / 65536 % 256), byte (s / 256 % 256), byte (s % 256)]
theorem be4_u8s (s : Int) (h0 : 0 ≤ s) (h1 : s < 4294967296) : u8s (be4 s) = [.int .u8 (s / 16777216), .int .u8 (s / 65536 % 256), .int .u8 (s / 256 % 256), .int .u8 (s % 256)] := by
  simp only [u8s, be4, List.map_cons, List.map_nil]
  rw [byte_val _ (by omega) (by omega), byte_val _ (by omega) (by omega), byte_val _ (by omega) (by omega), byte_val _ (by omega) (by omega)]
def put (bs : List UInt8) : List UInt8 := bs ++ be4 (more 1 bs)
/-- A call hands back a slice of bytes of its own. -/
def Hands8 (w : World) (bs : List UInt8) (e : Ending) (w' : World) : Prop := ∃ v, e = .returned v ∧ Own w' w.heap.size 5 v (u8s bs) ∧ Nw w w'
theorem own_done {w w0 : World} {v : Value} {bs : List UInt8} {xs : List Value} (h : Own w w0.heap.size 5 v (xs ++ u8s bs ++ [.int .u8 (more 1 bs / 16777216), .int .u8 (more 1 bs / 65536 % 256), .int .u8 (more 1 bs / 256 % 256), .int .u8 (more 1 bs % 256)])) (hn : Nw w0 w) (hx : xs = []) : Hands8 w0 (put bs) (.returned v) w := by
  subst hx
  have hb := more_bd 1 bs
  rw [← be4_u8s _ hb.1 hb.2, List.nil_append, u8s_append] at h
  exact ⟨v, rfl, h, hn⟩
/-! ### sum.Right, watchglassref1.Right -/
/-- What stands ahead of a sum that is right. -/
def right (bs : List UInt8) : Option (List UInt8) := if 4 ≤ bs.length ∧ put (bs.take (bs.length - 4)) = bs then some (bs.take (bs.length - 4)) else none
def val (l : List UInt8) : Int := l.foldl (fun s x => s * 256 + x.toNat) 0
theorem val_snoc (l : List UInt8) (k : Nat) (x : UInt8) (h : l[k]? = some x) : val (l.take (k + 1)) = val (l.take k) * 256 + x.toNat := by
  rw [List.take_add_one, h]; simp [val]
theorem val_bd (l : List UInt8) (h : l.length ≤ 3) : 0 ≤ val l ∧ val l < 16777216 := by
  match l, h with
  | [], _ => simp [val]
  | [a], _ => have := a.toNat_lt; simp [val]; omega
  | [a, b], _ => have := a.toNat_lt; have := b.toNat_lt; simp [val]; omega
  | [a, b, c], _ => have := a.toNat_lt; have := b.toNat_lt; have := c.toNat_lt; simp [val]; omega
theorem u8_eq {a b : UInt8} (h : (a.toNat : Int) = b.toNat) : a = b := UInt8.toNat_inj.1 (by omega)
theorem val_be4 (l : List UInt8) (h : l.length = 4) (s : Int) (h0 : 0 ≤ s) (h1 : s < 4294967296) : val l = s ↔ l = be4 s := by
  match l, h with
  | [a, b, c, d], _ =>
    have := a.toNat_lt; have := b.toNat_lt; have := c.toNat_lt; have := d.toNat_lt
    have e1 := byte_val (s / 16777216) (by omega) (by omega)
    have e2 := byte_val (s / 65536 % 256) (by omega) (by omega)
    have e3 := byte_val (s / 256 % 256) (by omega) (by omega)
    have e4 := byte_val (s % 256) (by omega) (by omega)
    constructor
    · intro h
      simp [val] at h
      simp only [be4, List.cons.injEq, and_true]
      exact ⟨u8_eq (by omega), u8_eq (by omega), u8_eq (by omega), u8_eq (by omega)⟩
    · intro h
      simp only [be4, List.cons.injEq, and_true] at h
      obtain ⟨rfl, rfl, rfl, rfl⟩ := h
      simp only [val, List.foldl_cons, List.foldl_nil, e1, e2, e3, e4]
      omega
theorem right_iff (bs : List UInt8) (n : Nat) (h : bs.length = n + 4) : (val (bs.drop n) = more 1 (bs.take n)) ↔ put (bs.take n) = bs := by
  have hb := more_bd 1 (bs.take n)
  rw [val_be4 _ (by simp; omega) _ hb.1 hb.2]
  constructor
  · intro e
    have := List.take_append_drop n bs
    rw [e] at this
    exact this
  · intro e
    have h2 : bs.drop n = (put (bs.take n)).drop n := by rw [e]
    rw [h2]
    simp only [put]
    rw [List.drop_append_of_le_length (by simp; omega), List.drop_take]
    simp
theorem or_val (c a : Int) (h1 : 0 ≤ c) (h2 : c < 16777216) (h3 : 0 ≤ a) (h4 : a < 256) : bits .or .u32 (c * 256) a = c * 256 + a := by
  rw [u32_or _ _ (by omega) (by omega) (by omega) (by omega), nat_join 8 _ _ (by omega) (by omega)]; omega
/-- A call hands back what stands ahead of a right sum. -/
def HandsR (w : World) (bs : List UInt8) (e : Ending) (w' : World) : Prop := ∃ v, e = .returned (.tuple #[v, .bool (right bs).isSome]) ∧ Bytes w' v ((right bs).getD []) ∧ Nw w w'
theorem HandsR.no {w w' : World} {bs : List UInt8} (h : right bs = none) (hn : Nw w w') : HandsR w bs (.returned (.tuple #[.slice none 0 0, .bool false])) w' :=
  ⟨_, by rw [h]; rfl, by rw [h]; exact Bytes.nil _, hn⟩
theorem HandsR.yes {w w' : World} {bs r : List UInt8} {v : Value} (h : right bs = some r) (hv : Bytes w' v r) (hn : Nw w w') : HandsR w bs (.returned (.tuple #[v, .bool true])) w' :=
  ⟨_, by rw [h]; rfl, by rw [h]; exact hv, hn⟩
end Sum
end Go.Proofs.Ythellicimicieaa
