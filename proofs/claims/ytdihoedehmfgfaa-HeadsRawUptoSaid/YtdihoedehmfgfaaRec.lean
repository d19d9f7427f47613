/- Records of events, the plain side: what bytes a record is, what is got of bytes, and the laws of both. No program in sight, no condition. -/
import Derived.Test.YtdihoedehmfgfaaSumThm
import Derived.Test.YtdihoedehmfgfaaWords
set_option linter.unusedSimpArgs false
set_option linter.unusedVariables false
namespace Go.Proofs.Ytdihoedehmfgfaa
open Go.ChangeShapes Go.WideShapes Go.ChangeAt Go.RowKit
namespace Rec
open Go.Proofs.Ytdihoedehmfgfaa.Sum (byte byte_val be4 val val_snoc put right more)
/-! ### Ids that rise -/
def okB (l : List Int) (p : Int) (i : Nat) : Bool := decide (0 ≤ l.getD i 0) && decide (l.getD i 0 < p) && (decide (i = 0) || decide (l.getD (i - 1) 0 < l.getD i 0))
def upto (l : List Int) (p : Int) (k : Nat) : Bool := (List.range k).all (okB l p)
def rises (l : List Int) (p : Int) : Bool := upto l p l.length
theorem upto_zero (l : List Int) (p : Int) : upto l p 0 = true := rfl
theorem upto_succ (l : List Int) (p : Int) (k : Nat) : upto l p (k + 1) = (upto l p k && okB l p k) := by
  unfold upto; rw [List.range_succ, List.all_append]; simp
theorem rises_iff (l : List Int) (p : Int) : rises l p = true ↔ ∀ i, i < l.length → okB l p i = true := by
  unfold rises upto; rw [List.all_eq_true]; simp
theorem okB_iff (l : List Int) (p : Int) (i : Nat) : okB l p i = true ↔ 0 ≤ l.getD i 0 ∧ l.getD i 0 < p ∧ (i = 0 ∨ l.getD (i - 1) 0 < l.getD i 0) := by
  unfold okB; simp only [Bool.and_eq_true, Bool.or_eq_true, decide_eq_true_eq]; exact and_assoc
theorem rises_no (l : List Int) (p : Int) (i : Nat) (h : i < l.length) (hn : okB l p i = false) : rises l p = false := by
  cases hr : rises l p with
  | false => rfl
  | true => rw [(rises_iff l p).1 hr i h] at hn; cases hn
theorem rises_mono {l : List Int} {p q : Int} (h : rises l p = true) (hq : p ≤ q) : rises l q = true := by
  rw [rises_iff] at *
  intro i hi
  have := h i hi
  rw [okB_iff] at *
  exact ⟨this.1, by omega, this.2.2⟩
theorem rises_ge {l : List Int} {p : Int} (h : rises l p = true) : ∀ i : Nat, i < l.length → (i : Int) ≤ l.getD i 0 := by
  intro i
  rw [rises_iff] at h
  induction i with
  | zero => intro hi; have := (okB_iff _ _ _).1 (h 0 hi); omega
  | succ i ih =>
    intro hi
    have h1 := ih (by omega)
    have h2 := (okB_iff _ _ _).1 (h (i + 1) hi)
    have h3 := h2.2.2
    simp only [Nat.add_sub_cancel] at h3
    omega
theorem rises_len {l : List Int} {p : Int} (hp : 0 ≤ p) (h : rises l p = true) : (l.length : Int) ≤ p := by
  by_cases h0 : l.length = 0
  · omega
  · have h1 := rises_ge h (l.length - 1) (by omega)
    have h2 := (okB_iff _ _ _).1 ((rises_iff l p).1 h (l.length - 1) (by omega))
    omega
theorem rises_mem {l : List Int} {p : Int} (h : rises l p = true) : ∀ x ∈ l, 0 ≤ x ∧ x < p := by
  intro x hx
  obtain ⟨i, hi, rfl⟩ := List.getElem_of_mem hx
  have := (okB_iff _ _ _).1 ((rises_iff l p).1 h i hi)
  simp only [List.getD_eq_getElem?_getD, List.getElem?_eq_getElem hi, Option.getD_some] at this
  exact ⟨this.1, this.2.1⟩
theorem rises_of {l : List Int} {p : Int} (h1 : ∀ x ∈ l, 0 ≤ x ∧ x < p) (h2 : l.Pairwise (· < ·)) : rises l p = true := by
  rw [rises_iff]
  intro i hi
  rw [okB_iff]
  have e : l.getD i 0 = l[i] := by simp [List.getD_eq_getElem?_getD, hi]
  have := h1 _ (List.getElem_mem hi)
  refine ⟨by omega, by omega, ?_⟩
  by_cases h0 : i = 0
  · exact Or.inl h0
  · refine Or.inr ?_
    have e2 : l.getD (i - 1) 0 = l[i - 1] := by simp [List.getD_eq_getElem?_getD, show i - 1 < l.length by omega]
    rw [e, e2]
    exact (List.pairwise_iff_getElem.1 h2) (i - 1) i (by omega) hi (by omega)
/-- The numbers of a word, as ints. -/
def ids (x : Words.Wd) : List Int := (Words.ones x).map fun n : Nat => (n : Int)
theorem ids_rise (x : Words.Wd) : rises (ids x) 64 = true := by
  refine rises_of (fun y hy => ?_) ?_
  · obtain ⟨n, hn, rfl⟩ := List.mem_map.1 hy
    unfold Words.ones at hn
    simp at hn
    omega
  · unfold ids
    rw [List.pairwise_map]
    exact (Words.ones_rise x).imp (fun h => by omega)
theorem ids_len (x : Words.Wd) : (ids x).length ≤ 64 := by unfold ids; rw [List.length_map]; exact Words.ones_len x
/-! ### Bytes of a record -/
def tb (t : Int) (j : Nat) : UInt8 := byte (t / 2 ^ (8 * j) % 256)
def be8 (t : Int) : List UInt8 := [tb t 7, tb t 6, tb t 5, tb t 4, tb t 3, tb t 2, tb t 1, tb t 0]
theorem tb_val (t : Int) (j : Nat) : ((tb t j).toNat : Int) = t / 2 ^ (8 * j) % 256 := byte_val _ (Int.emod_nonneg _ (by decide)) (Int.emod_lt_of_pos _ (by decide))
theorem u8_int {a b : UInt8} (h : (a.toNat : Int) = b.toNat) : a = b := UInt8.toNat_inj.1 (by omega)
theorem val_be8 (t : Int) (h0 : 0 ≤ t) (h1 : t < 18446744073709551616) : val (be8 t) = t := by
  simp only [val, be8, List.foldl_cons, List.foldl_nil, tb_val, Nat.reduceMul]
  simp only [Int.reducePow]
  omega
def enc (t : Int) (l : List Int) : List UInt8 := byte (((8 + l.length : Nat) : Int) / 256 % 256) :: byte (((8 + l.length : Nat) : Int) % 256) :: (be8 t ++ l.map byte)
theorem enc_len (t : Int) (l : List Int) : (enc t l).length = 10 + l.length := by simp [enc, be8]; omega
def rec_ (t : Int) (l : List Int) : List UInt8 := Sum.put (enc t l)
theorem put_len (l : List UInt8) : (Sum.put l).length = l.length + 4 := by simp [put, be4]
theorem rec_len (t : Int) (l : List Int) : (rec_ t l).length = 14 + l.length := by unfold rec_; rw [put_len, enc_len]; omega
/-- What Put hands back. -/
def putE (b : List UInt8) (t : Int) (l : List Int) : List UInt8 := if rises l 64 = true then b ++ rec_ t l else b
def pr (p : Int) : Int := min (max p 0) 64
theorem pr_bd (p : Int) : 0 ≤ pr p ∧ pr p ≤ 64 := by unfold pr; omega
/-- What is got: time, ids, how many bytes, the error. -/
abbrev Got := (Int × List Int) × Int × Int
def none_ (e : Int) : Got := ((0, []), 0, e)
def size (b : List UInt8) : Nat := 256 * (b.getD 0 0).toNat + (b.getD 1 0).toNat
def time (r : List UInt8) : Int := val ((r.drop 2).take 8)
def idsOf (r : List UInt8) : List Int := (r.drop 10).map fun c => (c.toNat : Int)
def get (b : List UInt8) (p : Int) : Got :=
  if b.length = 0 then none_ 13 else if b.length = 1 then none_ 7
  else if size b < 8 ∨ 8 + pr p < size b then none_ 2
  else if b.length < size b + 6 then none_ 7
  else match right (b.take (size b + 6)) with
    | none => none_ 6
    | some r => if rises (idsOf r) (pr p) = true then ((time r, idsOf r), (size b + 6 : Nat), 0) else none_ 9
theorem map_byte {l : List Int} (h : rises l 64 = true) : (l.map byte).map (fun c => (c.toNat : Int)) = l := by
  rw [List.map_map]
  conv => rhs; rw [← List.map_id l]
  refine List.map_congr_left fun x hx => ?_
  have := rises_mem h x hx
  exact byte_val x this.1 (by omega)
theorem time_enc (t : Int) (l : List Int) (h0 : 0 ≤ t) (h1 : t < 18446744073709551616) : time (enc t l) = t := by
  unfold time enc
  rw [show (2 : Nat) = 0 + 1 + 1 from rfl, List.drop_succ_cons, List.drop_succ_cons, List.drop_zero, List.take_left' (show (be8 t).length = 8 from rfl)]
  exact val_be8 t h0 h1
theorem ids_enc (t : Int) (l : List Int) (h : rises l 64 = true) : idsOf (enc t l) = l := by
  unfold idsOf enc
  rw [show (10 : Nat) = 8 + 1 + 1 from rfl, List.drop_succ_cons, List.drop_succ_cons, List.drop_left' (show (be8 t).length = 8 from rfl)]
  exact map_byte h
theorem size_enc (t : Int) (l : List Int) (rest : List UInt8) (h : rises l 64 = true) : size (rec_ t l ++ rest) = 8 + l.length := by
  have hl := rises_len (by decide) h
  have e0 : (rec_ t l ++ rest).getD 0 0 = byte (((8 + l.length : Nat) : Int) / 256 % 256) := rfl
  have e1 : (rec_ t l ++ rest).getD 1 0 = byte (((8 + l.length : Nat) : Int) % 256) := rfl
  have h0 := byte_val (((8 + l.length : Nat) : Int) / 256 % 256) (by omega) (by omega)
  have h1 := byte_val (((8 + l.length : Nat) : Int) % 256) (by omega) (by omega)
  unfold size
  rw [e0, e1]
  omega
theorem right_put (l : List UInt8) : right (put l) = some l := by
  have h : (put l).length = l.length + 4 := put_len l
  have e : (put l).take l.length = l := by simp [put]
  simp [right, h, e]
theorem right_some {l r : List UInt8} (h : right l = some r) : put r = l := by
  unfold right at h
  split at h
  · rename_i h2; simp at h; subst h; exact h2.2
  · cases h
/-- What is got of a record, whatever stands behind it. -/
theorem get_rec (t : Int) (l : List Int) (rest : List UInt8) (p : Int) (h0 : 0 ≤ t) (h1 : t < 18446744073709551616) (h : rises l 64 = true) :
    get (rec_ t l ++ rest) p = if pr p < l.length then none_ 2 else if rises l (pr p) = true then ((t, l), (14 + l.length : Nat), 0) else none_ 9 := by
  have hl := rises_len (by decide) h
  have hlen : (rec_ t l ++ rest).length = 14 + l.length + rest.length := by rw [List.length_append, rec_len]
  have ht : (rec_ t l ++ rest).take (8 + l.length + 6) = rec_ t l := by rw [List.take_left']; rw [rec_len]; omega
  unfold get
  rw [size_enc t l rest h, ht, hlen, if_neg (by omega), if_neg (by omega)]
  by_cases hp : pr p < l.length
  · rw [if_pos (by omega), if_pos hp]
  · rw [if_neg (by omega), if_neg hp, if_neg (by omega)]
    rw [show right (rec_ t l) = some (enc t l) from right_put _]
    dsimp only
    rw [ids_enc t l h, time_enc t l h0 h1]
    rw [show 8 + l.length + 6 = 14 + l.length by omega]
/-- Each front of a record is short. -/
theorem get_front (t : Int) (l : List Int) (k : Nat) (h : rises l 64 = true) (hk : k < 14 + l.length) : get ((rec_ t l).take k) 64 = if k = 0 then none_ 13 else none_ 7 := by
  have hl := rises_len (by decide) h
  have hlen : ((rec_ t l).take k).length = k := by rw [List.length_take, rec_len]; omega
  unfold get
  rw [hlen]
  by_cases h0 : k = 0
  · rw [if_pos h0, if_pos h0]
  · rw [if_neg h0, if_neg h0]
    by_cases h1 : k = 1
    · rw [if_pos h1]
    · rw [if_neg h1]
      have hs : size ((rec_ t l).take k) = 8 + l.length := by
        rw [← size_enc t l [] h, List.append_nil]
        unfold size
        simp only [List.getD_eq_getElem?_getD]
        rw [List.getElem?_take_of_lt (by omega), List.getElem?_take_of_lt (by omega)]
      rw [hs, if_neg (by unfold pr; omega), if_pos (by omega)]
theorem bound8 : ∀ r : List UInt8, r.length = 8 → be8 (val r) = r
  | [a, b, c, d, e, f, g, h], _ => by
    have := a.toNat_lt; have := b.toNat_lt; have := c.toNat_lt; have := d.toNat_lt; have := e.toNat_lt; have := f.toNat_lt; have := g.toNat_lt; have := h.toNat_lt
    simp only [be8, List.cons.injEq, and_true]
    refine ⟨u8_int ?_, u8_int ?_, u8_int ?_, u8_int ?_, u8_int ?_, u8_int ?_, u8_int ?_, u8_int ?_⟩ <;>
    · rw [tb_val]
      simp only [val, List.foldl_cons, List.foldl_nil, Nat.reduceMul, Int.reducePow]
      omega
theorem byte_nat (c : UInt8) : byte (c.toNat : Int) = c := u8_int (byte_val _ (by omega) (by have := c.toNat_lt; omega))
/-- What is got is what Put writes. -/
theorem get_canon (b : List UInt8) (p : Int) (x : Int × List Int) (n : Int) (h : get b p = (x, n, 0)) : ∃ m : Nat, n = m ∧ m ≤ b.length ∧ putE [] x.1 x.2 = b.take m ∧ 0 ≤ x.1 ∧ x.1 < 18446744073709551616 ∧ rises x.2 64 = true := by
  unfold get at h
  split at h
  · cases h
  split at h
  · cases h
  split at h
  · cases h
  split at h
  · cases h
  rename_i h0 h1 h2 h3
  split at h
  · cases h
  rename_i r hr
  split at h
  · rename_i hrise
    simp only [Prod.mk.injEq] at h
    obtain ⟨rfl, rfl, _⟩ := h
    have hp := right_some hr
    have hb := pr_bd p
    have h64 : rises (idsOf r) 64 = true := rises_mono hrise hb.2
    have hlen : r.length = size b + 2 := by
      have := congrArg List.length hp
      rw [put_len, List.length_take] at this; omega
    have hil : (idsOf r).length = size b - 8 := by unfold idsOf; rw [List.length_map, List.length_drop]; omega
    have hb0 : b[0]? = r[0]? := by
      have e1 : (b.take (size b + 6))[0]? = b[0]? := List.getElem?_take_of_lt (by omega)
      rw [← e1, ← hp]; unfold put; rw [List.getElem?_append_left (by omega)]
    have hb1 : b[1]? = r[1]? := by
      have e1 : (b.take (size b + 6))[1]? = b[1]? := List.getElem?_take_of_lt (by omega)
      rw [← e1, ← hp]; unfold put; rw [List.getElem?_append_left (by omega)]
    match r, hlen with
    | c0 :: c1 :: rs, hlen =>
      simp only [List.length_cons] at hlen
      have hs : size b = 256 * c0.toNat + c1.toNat := by
        unfold size
        simp only [List.getD_eq_getElem?_getD]
        rw [hb0, hb1]; rfl
      have hc0 := c0.toNat_lt
      have hc1 := c1.toNat_lt
      have ht : time (c0 :: c1 :: rs) = val (rs.take 8) := rfl
      have hi : idsOf (c0 :: c1 :: rs) = (rs.drop 8).map fun c => (c.toNat : Int) := rfl
      have hvb : be8 (val (rs.take 8)) = rs.take 8 := bound8 _ (by rw [List.length_take]; omega)
      have henc : enc (time (c0 :: c1 :: rs)) (idsOf (c0 :: c1 :: rs)) = c0 :: c1 :: rs := by
        unfold enc
        rw [ht, hi, hvb, List.length_map, List.length_drop, List.map_map]
        have e : (rs.drop 8).map (byte ∘ fun c => (c.toNat : Int)) = rs.drop 8 := by
          conv => rhs; rw [← List.map_id (rs.drop 8)]
          exact List.map_congr_left fun c _ => byte_nat c
        rw [e, List.take_append_drop]
        have f0 : byte (((8 + (rs.length - 8) : Nat) : Int) / 256 % 256) = c0 := u8_int (by rw [byte_val _ (by omega) (by omega)]; omega)
        have f1 : byte (((8 + (rs.length - 8) : Nat) : Int) % 256) = c1 := u8_int (by rw [byte_val _ (by omega) (by omega)]; omega)
        rw [f0, f1]
      refine ⟨size b + 6, rfl, by omega, ?_, ?_, ?_, h64⟩
      · unfold putE
        rw [if_pos h64, List.nil_append]
        unfold rec_
        rw [henc]; exact hp
      · rw [ht]
        match rs.take 8, (show (rs.take 8).length = 8 by rw [List.length_take]; omega) with
        | [a, b, c, d, e, f, g, h], _ => simp only [val, List.foldl_cons, List.foldl_nil]; omega
      · rw [ht]
        match rs.take 8, (show (rs.take 8).length = 8 by rw [List.length_take]; omega) with
        | [a, b, c, d, e, f, g, h], _ =>
          have := a.toNat_lt; have := b.toNat_lt; have := c.toNat_lt; have := d.toNat_lt; have := e.toNat_lt; have := f.toNat_lt; have := g.toNat_lt; have := h.toNat_lt
          simp only [val, List.foldl_cons, List.foldl_nil]; omega
  · cases h
end Rec
end Go.Proofs.Ytdihoedehmfgfaa
