/- RecordTells walked: for any time, bits, place and byte it returns true. No condition. -/
import Derived.Test.YtfbokhodcgpppaaRecK
namespace Go.Proofs.Ytfbokhodcgpppaa
open Go.ChangeShapes Go.WideShapes Go.ChangeAt Go.RowKit
namespace Rec
open Go.Proofs.Ytfbokhodcgpppaa.Sum (Hands8 right more be4 put)
theorem xor_val (a b : UInt8) : bits .xor .u8 (a.toNat : Int) (b.toNat : Int) = ((a ^^^ b).toNat : Int) := by
  have h1 := a.toNat_lt
  have h2 := b.toNat_lt
  rw [u8_xor_nat _ _ h1 h2, UInt8.toNat_xor]
theorem xor_ne (a x : UInt8) (h : x ≠ 0) : a ^^^ x ≠ a := by
  intro e
  have := congrArg (fun z => a ^^^ z) e
  exact h (by simpa [← UInt8.xor_assoc] using this)
/-- One byte changed behind the length: the sum is not right. -/
theorem get_flip (t : Int) (l : List Int) (i : Nat) (y z : UInt8) (h : rises l 64 = true) (hi : 2 ≤ i) (hil : i < 14 + l.length) (hy : (rec_ t l)[i]? = some y) (hz : z ≠ y) : get ((rec_ t l).set i z) 64 = none_ 6 := by
  have hl := rises_len (by decide) h
  have hlen : ((rec_ t l).set i z).length = 14 + l.length := by rw [List.length_set, rec_len]
  have hs : size ((rec_ t l).set i z) = 8 + l.length := by
    rw [← size_enc t l [] h, List.append_nil]
    unfold size
    simp only [List.getD_eq_getElem?_getD]
    rw [List.getElem?_set_ne (by omega), List.getElem?_set_ne (by omega)]
  have hr : right ((rec_ t l).set i z) = none := by
    cases hr : right ((rec_ t l).set i z) with
    | none => rfl
    | some r =>
      exfalso
      have hp := right_some hr
      have hrl : r.length = (enc t l).length := by
        have := congrArg List.length hp
        rw [put_len, hlen] at this
        rw [enc_len]; omega
      have hel := enc_len t l
      by_cases hie : i < (enc t l).length
      · have e1 : (enc t l).set i z = r := by
          have h1 : ((rec_ t l).set i z).take (enc t l).length = (enc t l).set i z := by
            unfold rec_ put
            rw [List.set_append_left _ _ hie, List.take_left' (by rw [List.length_set])]
          have h2 : (put r).take (enc t l).length = r := by
            unfold put
            rw [List.take_left' hrl]
          rw [← h1, ← hp, h2]
        have e2 : be4 (more 1 r) = be4 (more 1 (enc t l)) := by
          have h1 : ((rec_ t l).set i z).drop (enc t l).length = be4 (more 1 (enc t l)) := by
            unfold rec_ put
            rw [List.set_append_left _ _ hie, List.drop_left' (by rw [List.length_set])]
          have h2 : (put r).drop (enc t l).length = be4 (more 1 r) := by
            unfold put
            rw [List.drop_left' hrl]
          rw [← h1, ← hp, h2]
        have b1 := Sum.more_bd 1 r
        have b2 := Sum.more_bd 1 (enc t l)
        have e3 : more 1 r = more 1 (enc t l) := by
          have q1 := (Sum.val_be4 (be4 (more 1 r)) rfl (more 1 r) b1.1 b1.2).2 rfl
          have q2 := (Sum.val_be4 (be4 (more 1 r)) rfl (more 1 (enc t l)) b2.1 b2.2).2 e2
          omega
        rw [← e1] at e3
        have hye : (enc t l)[i]? = some y := by
          rw [← hy]; unfold rec_ put; rw [List.getElem?_append_left hie]
        exact hz ((Sum.set_told (enc t l) i y z hye).1 e3)
      · have e1 : enc t l = r := by
          have h1 : ((rec_ t l).set i z).take (enc t l).length = enc t l := by
            unfold rec_ put
            rw [List.set_append_right _ _ (by omega), List.take_left' rfl]
          have h2 : (put r).take (enc t l).length = r := by
            unfold put
            rw [List.take_left' hrl]
          rw [← h1, ← hp, h2]
        rw [← e1] at hp
        have : (rec_ t l)[i]? = some z := by
          have h3 : put (enc t l) = rec_ t l := rfl
          rw [h3] at hp
          rw [hp, List.getElem?_set_self (by rw [rec_len]; omega)]
        rw [hy] at this
        exact hz (Option.some.inj this).symm
  unfold get
  rw [hlen, hs, if_neg (by omega), if_neg (by omega), if_neg (by unfold pr; omega), if_neg (by omega)]
  rw [List.take_of_length_le (by rw [hlen]; omega), hr]
theorem get_few (t : Int) (l : List Int) (h0 : 0 ≤ t) (h1 : t < 18446744073709551616) (h : rises l 64 = true) (hp : 0 < l.length) : get (rec_ t l) ((l.length : Int) - 1) = none_ 2 := by
  have := get_rec t l [] ((l.length : Int) - 1) h0 h1 h
  rw [List.append_nil] at this
  have hl := rises_len (by decide) h
  rw [this, if_pos (by unfold pr; omega)]
/-- As many names as the last id. -/
theorem get_last (t : Int) (l : List Int) (x : Int) (h0 : 0 ≤ t) (h1 : t < 18446744073709551616) (h : rises l 64 = true) (hp : 0 < l.length) (hx : l.getD (l.length - 1) 0 = x) :
    (x = (l.length : Int) - 1 → get (rec_ t l) x = none_ 2) ∧ ((l.length : Int) ≤ x → get (rec_ t l) x = none_ 9) ∧ (l.length : Int) - 1 ≤ x ∧ 0 ≤ x ∧ x < 64 := by
  have hr := get_rec t l [] x h0 h1 h
  rw [List.append_nil] at hr
  have hl := rises_len (by decide) h
  have hge := rises_ge h (l.length - 1) (by omega)
  rw [hx] at hge
  have hm := rises_mem h _ (getd_mem (show l.length - 1 < l.length by omega))
  rw [hx] at hm
  refine ⟨fun e => ?_, fun e => ?_, by omega, hm.1, hm.2⟩
  · rw [hr, if_pos (by unfold pr; omega)]
  · have hno : rises l (pr x) = false := rises_no l _ (l.length - 1) (by omega) (ok_no (Or.inr (Or.inl (by rw [hx]; unfold pr; omega))))
    rw [hr, if_neg (by unfold pr; omega), if_neg (by rw [hno]; decide)]
end Rec
end Go.Proofs.Ytfbokhodcgpppaa
