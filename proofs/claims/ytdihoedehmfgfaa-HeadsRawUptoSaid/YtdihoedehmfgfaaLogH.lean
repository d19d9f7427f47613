/- Layer 10, plain: decode of encode is the trace; what is told is what is encoded; logs that are cut off; one byte changed. No program in sight. -/
import Derived.Test.YtdihoedehmfgfaaLogA
import Derived.Test.YtdihoedehmfgfaaSumThm
set_option linter.unusedSimpArgs false
set_option linter.unusedVariables false
namespace Go.Proofs.Ytdihoedehmfgfaa
open Go.ChangeShapes Go.WideShapes Go.ChangeAt Go.RowKit
namespace LgP
open Go.Proofs.Ytdihoedehmfgfaa.Rec (rises rises_len rec_ get putE rec_len put_len enc enc_len size size_enc none_ pr pr_bd right_some right_put idsOf get_rec get_front)
open Go.Proofs.Ytdihoedehmfgfaa.Sum (byte byte_val put right be4 more)
theorem xor_ne (a x : UInt8) (h : x ≠ 0) : a ^^^ x ≠ a := by
  intro e
  have := congrArg (fun z => a ^^^ z) e
  exact h (by simpa [← UInt8.xor_assoc] using this)
/-- One byte changed behind the length: the sum is not right. -/
theorem get_flip (t : Int) (l : List Int) (i : Nat) (y z : UInt8) (h : rises l 64 = true) (hi : 2 ≤ i) (hil : i < 14 + l.length) (hy : (rec_ t l)[i]? = some y) (hz : z ≠ y) : get ((rec_ t l).set i z) 64 = none_ 6 := by
  have hl := rises_len (by decide) h
  have hlen : ((rec_ t l).set i z).length = 14 + l.length := by rw [List.length_set, rec_len]
  have hs : size ((rec_ t l).set i z) = 8 + l.length := by
    rw [← size_enc t l [] h, List.append_nil]
    unfold size
    simp only [List.getD_eq_getElem?_getD]
    rw [List.getElem?_set_ne (by omega), List.getElem?_set_ne (by omega)]
  have hr : right ((rec_ t l).set i z) = none := by
    cases hr : right ((rec_ t l).set i z) with
    | none => rfl
    | some r =>
      exfalso
      have hp := right_some hr
      have hrl : r.length = (enc t l).length := by
        have := congrArg List.length hp
        rw [put_len, hlen] at this
        rw [enc_len]; omega
      have hel := enc_len t l
      by_cases hie : i < (enc t l).length
      · have e1 : (enc t l).set i z = r := by
          have h1 : ((rec_ t l).set i z).take (enc t l).length = (enc t l).set i z := by
            unfold rec_ put
            rw [List.set_append_left _ _ hie, List.take_left' (by rw [List.length_set])]
          have h2 : (put r).take (enc t l).length = r := by
            unfold put
            rw [List.take_left' hrl]
          rw [← h1, ← hp, h2]
        have e2 : be4 (more 1 r) = be4 (more 1 (enc t l)) := by
          have h1 : ((rec_ t l).set i z).drop (enc t l).length = be4 (more 1 (enc t l)) := by
            unfold rec_ put
            rw [List.set_append_left _ _ hie, List.drop_left' (by rw [List.length_set])]
          have h2 : (put r).drop (enc t l).length = be4 (more 1 r) := by
            unfold put
            rw [List.drop_left' hrl]
          rw [← h1, ← hp, h2]
        have b1 := Sum.more_bd 1 r
        have b2 := Sum.more_bd 1 (enc t l)
        have e3 : more 1 r = more 1 (enc t l) := by
          have q1 := (Sum.val_be4 (be4 (more 1 r)) rfl (more 1 r) b1.1 b1.2).2 rfl
          have q2 := (Sum.val_be4 (be4 (more 1 r)) rfl (more 1 (enc t l)) b2.1 b2.2).2 e2
          omega
        rw [← e1] at e3
        have hye : (enc t l)[i]? = some y := by
          rw [← hy]; unfold rec_ put; rw [List.getElem?_append_left hie]
        exact hz ((Sum.set_told (enc t l) i y z hye).1 e3)
      · have e1 : enc t l = r := by
          have h1 : ((rec_ t l).set i z).take (enc t l).length = enc t l := by
            unfold rec_ put
            rw [List.set_append_right _ _ (by omega), List.take_left' rfl]
          have h2 : (put r).take (enc t l).length = r := by
            unfold put
            rw [List.take_left' hrl]
          rw [← h1, ← hp, h2]
        rw [← e1] at hp
        have : (rec_ t l)[i]? = some z := by
          have h3 : put (enc t l) = rec_ t l := rfl
          rw [h3] at hp
          rw [hp, List.getElem?_set_self (by rw [rec_len]; omega)]
        rw [hy] at this
        exact hz (Option.some.inj this).symm
  unfold Rec.get
  rw [hlen, hs, if_neg (by omega), if_neg (by omega), if_neg (by unfold pr; omega), if_neg (by omega)]
  rw [List.take_of_length_le (by rw [hlen]; omega), hr]
end LgP
namespace Lg
open Go.Proofs.Ytdihoedehmfgfaa.Lx (isIn nameB strs)
open Go.Proofs.Ytdihoedehmfgfaa.Rec (rises rises_len rises_mono rec_ get putE rec_len put_len enc size size_enc none_ pr pr_bd right_some right_put get_rec get_front byte_nat u8_int)
open Go.Proofs.Ytdihoedehmfgfaa.Sum (byte byte_val put right be4 more)
open Go.Proofs.Ytdihoedehmfgfaa.Tr (T Es tm ids mayP namesP nmB nOk namesTo eOk evsP mayTo tm_snoc)
theorem pr_is {p : Int} (h0 : 0 ≤ p) (h1 : p ≤ 64) : pr p = p := by unfold pr; omega
theorem get_app {b : List UInt8} {p : Int} (rest : List UInt8) (h : 2 ≤ b.length) (h2 : size b + 6 ≤ b.length) : get (b ++ rest) p = get b p := by
  have e0 : size (b ++ rest) = size b := by
    unfold size
    simp only [List.getD_eq_getElem?_getD]
    rw [List.getElem?_append_left (by omega), List.getElem?_append_left (by omega)]
  have e1 : (b ++ rest).take (size b + 6) = b.take (size b + 6) := List.take_append_of_le_length h2
  have e2 : (b ++ rest).length = b.length + rest.length := List.length_append
  unfold Rec.get
  rw [e0, e1, e2, if_neg (by omega), if_neg (show ¬ b.length = 0 by omega), if_neg (by omega), if_neg (show ¬ b.length = 1 by omega)]
  by_cases h3 : size b < 8 ∨ 8 + pr p < size b
  · rw [if_pos h3, if_pos h3]
  · rw [if_neg h3, if_neg h3, if_neg (by omega), if_neg (show ¬ b.length < size b + 6 by omega)]
theorem get_p {b : List UInt8} {p e : Int} (h0 : 0 ≤ p) (h1 : p ≤ 64) (hs : b.length ≤ 1 ∨ (size b : Int) ≤ 8 + p) (h : get b 64 = none_ e) (he : e = 13 ∨ e = 7 ∨ e = 6) : get b p = none_ e := by
  unfold Rec.get at h ⊢
  rw [pr_is h0 h1]
  rw [pr_is (by omega) (by omega)] at h
  by_cases q0 : b.length = 0
  · rw [if_pos q0] at h ⊢; exact h
  · rw [if_neg q0] at h ⊢
    by_cases q1 : b.length = 1
    · rw [if_pos q1] at h ⊢; exact h
    · rw [if_neg q1] at h ⊢
      by_cases q2 : size b < 8 ∨ (8 : Int) + 64 < size b
      · rw [if_pos q2] at h
        have : (2 : Int) = e := congrArg (fun x : Rec.Got => x.2.2) h
        omega
      · rw [if_neg q2] at h
        rw [if_neg (by omega)]
        by_cases q3 : b.length < size b + 6
        · rw [if_pos q3] at h ⊢; exact h
        · rw [if_neg q3] at h ⊢
          split at h
          · rename_i r hr
            simpa [hr] using h
          · rename_i r hr
            split at h
            · have : (0 : Int) = e := congrArg (fun x : Rec.Got => x.2.2) h
              omega
            · have : (9 : Int) = e := congrArg (fun x : Rec.Got => x.2.2) h
              omega
/-- A front of a record is short, whatever its bytes: none is the end. -/
theorem get_short {t : Int} {l : List Int} {p : Int} (k : Nat) (h0 : 0 ≤ p) (h1 : p ≤ 64) (h : rises l p = true) (hk : k < 14 + l.length) : get ((rec_ t l).take k) p = if k = 0 then none_ 13 else none_ 7 := by
  have h64 := rises_mono h h1
  have hg := get_front t l k h64 hk
  have hl := rises_len h0 h
  have hlen : ((rec_ t l).take k).length = k := by rw [List.length_take, rec_len]; omega
  have hs : ((rec_ t l).take k).length ≤ 1 ∨ (size ((rec_ t l).take k) : Int) ≤ 8 + p := by
    rw [hlen]
    by_cases hk1 : k ≤ 1
    · exact Or.inl hk1
    · refine Or.inr ?_
      have : size ((rec_ t l).take k) = 8 + l.length := by
        rw [← size_enc t l [] h64, List.append_nil]
        unfold size
        simp only [List.getD_eq_getElem?_getD]
        rw [List.getElem?_take_of_lt (by omega), List.getElem?_take_of_lt (by omega)]
      omega
  by_cases hk0 : k = 0
  · rw [if_pos hk0] at hg ⊢
    exact get_p h0 h1 hs hg (by omega)
  · rw [if_neg hk0] at hg ⊢
    exact get_p h0 h1 hs hg (by omega)
/-- One byte of a record changed, behind its length; whatever stands behind the record. -/
theorem get_spoilt {t : Int} {l : List Int} {p : Int} (i : Nat) (y z : UInt8) (rest : List UInt8) (h0 : 0 ≤ p) (h1 : p ≤ 64) (h : rises l p = true) (hi : 2 ≤ i) (hil : i < 14 + l.length) (hy : (rec_ t l)[i]? = some y) (hz : z ≠ y) :
    get ((rec_ t l).set i z ++ rest) p = none_ 6 := by
  have h64 := rises_mono h h1
  have hl := rises_len h0 h
  have hlen : ((rec_ t l).set i z).length = 14 + l.length := by rw [List.length_set, rec_len]
  have hs : size ((rec_ t l).set i z) = 8 + l.length := by
    rw [← size_enc t l [] h64, List.append_nil]
    unfold size
    simp only [List.getD_eq_getElem?_getD]
    rw [List.getElem?_set_ne (by omega), List.getElem?_set_ne (by omega)]
  rw [get_app rest (by omega) (by omega)]
  exact get_p h0 h1 (Or.inr (by omega)) (LgP.get_flip t l i y z h64 hi hil hy hz) (by omega)
theorem get_whole {t : Int} {l : List Int} {p : Int} (rest : List UInt8) (h0 : 0 ≤ p) (h1 : p ≤ 64) (ht0 : 0 ≤ t) (ht1 : t < 18446744073709551616) (h : rises l p = true) :
    get (rec_ t l ++ rest) p = ((t, l), ((14 + l.length : Nat) : Int), 0) := by
  have hl := rises_len h0 h
  rw [get_rec t l rest p ht0 ht1 (rises_mono h h1), pr_is h0 h1, if_neg (by omega), if_pos h]
theorem get_end {b : List UInt8} {p : Int} {x : Int × List Int} {n : Int} (h : get b p = (x, n, 13)) : b = [] := by
  by_cases h0 : b.length = 0
  · exact List.eq_nil_of_length_eq_zero h0
  · exfalso
    have := congrArg (fun x : Rec.Got => x.2.2) h
    unfold Rec.get at this
    rw [if_neg h0] at this
    split at this
    · exact absurd this (show ¬ ((7 : Int) = 13) by decide)
    split at this
    · exact absurd this (show ¬ ((2 : Int) = 13) by decide)
    split at this
    · exact absurd this (show ¬ ((7 : Int) = 13) by decide)
    split at this
    · exact absurd this (show ¬ ((6 : Int) = 13) by decide)
    split at this
    · exact absurd this (show (0 : Int) ≠ 13 by decide)
    · exact absurd this (show (9 : Int) ≠ 13 by decide)
theorem get_not5 {b : List UInt8} {p : Int} {x : Int × List Int} {n e : Int} (h : get b p = (x, n, e)) : e ≠ 5 := by
  have := congrArg (fun x : Rec.Got => x.2.2) h
  dsimp only at this
  rw [← this]
  unfold Rec.get none_
  repeat' split
  all_goals first | exact (show (13 : Int) ≠ 5 by decide) | exact (show (7 : Int) ≠ 5 by decide) | exact (show (2 : Int) ≠ 5 by decide) | exact (show (6 : Int) ≠ 5 by decide) | exact (show (0 : Int) ≠ 5 by decide) | exact (show (9 : Int) ≠ 5 by decide)
/-- What is got of any bytes is a record there. -/
theorem get_inv {b : List UInt8} {p : Int} {t n : Int} {l : List Int} (h0 : 0 ≤ p) (h1 : p ≤ 64) (h : get b p = ((t, l), n, 0)) : ∃ rest, b = rec_ t l ++ rest ∧ n = ((14 + l.length : Nat) : Int) ∧ rises l p = true ∧ 0 ≤ t ∧ t < 18446744073709551616 := by
  obtain ⟨m, rfl, h2, h3, h4, h5, h6⟩ := Rec.get_canon b p (t, l) n h
  dsimp only at h3 h4 h5 h6
  unfold Rec.putE at h3
  rw [if_pos h6, List.nil_append] at h3
  have e : b = rec_ t l ++ b.drop m := by rw [h3, List.take_append_drop]
  have hm : m = 14 + l.length := by
    have := congrArg List.length h3
    rw [rec_len, List.length_take] at this
    omega
  refine ⟨b.drop m, e, by rw [hm], ?_, h4, h5⟩
  have h7 := get_rec t l (b.drop m) p h4 h5 h6
  rw [← e, h, pr_is h0 h1] at h7
  split at h7
  · exact absurd (congrArg (fun x : Rec.Got => x.2.2) h7) (show (0 : Int) ≠ 2 by decide)
  · split at h7
    · assumption
    · exact absurd (congrArg (fun x : Rec.Got => x.2.2) h7) (show (0 : Int) ≠ 9 by decide)
/-! ### Headers -/
theorem parse_nms (b : List UInt8) : ∀ (l acc : List ByteArray) (i : Nat) (rest : List UInt8), b.drop i = nms l ++ rest → (∀ s ∈ l, s.size < 256) → i ≤ b.length → parse b l.length i acc = some (acc ++ l, i + (nms l).length)
  | [], acc, i, rest, _, _, _ => by simp [parse, nms]
  | s :: r, acc, i, rest, h, hs, hi => by
    have hs0 := hs s (by simp)
    have e0 : b.drop i = byte (s.size : Int) :: (s.data.toList ++ (nms r ++ rest)) := by rw [h]; simp [nms, nm]
    have hlen := congrArg List.length e0
    rw [List.length_drop, List.length_cons, List.length_append] at hlen
    have hsd : s.data.toList.length = s.size := Array.length_toList
    have hz : sz b i = s.size := by
      unfold sz
      have : b.getD i 0 = byte (s.size : Int) := by
        have h2 := congrArg (fun x : List UInt8 => x[0]?) e0
        simp only [List.getElem?_drop, Nat.add_zero, List.getElem?_cons_zero] at h2
        rw [List.getD_eq_getElem?_getD, h2]; rfl
      rw [this]
      have := byte_val (s.size : Int) (by omega) (by omega)
      omega
    have e1 : b.drop (i + 1) = s.data.toList ++ (nms r ++ rest) := by rw [← List.drop_drop, e0]; rfl
    have ec : cutS b (i + 1) s.size = s := by
      unfold cutS
      rw [e1, List.take_left' hsd]
      rfl
    have e2 : b.drop (i + 1 + s.size) = nms r ++ rest := by
      rw [← List.drop_drop, e1, List.drop_left' hsd]
    have en : (nms (s :: r)).length = 1 + s.size + (nms r).length := by
      show (nm s ++ nms r).length = _
      rw [List.length_append, nm_len]; omega
    show parse b (r.length + 1) i acc = _
    rw [parse, hz, if_neg (by omega), ec, parse_nms b r (acc ++ [s]) (i + 1 + s.size) rest e2 (fun q hq => hs q (by simp [hq])) (by omega), en]
    rw [List.append_assoc, List.singleton_append]
    congr 2
    omega
theorem parse_inv (b : List UInt8) : ∀ (k i : Nat) (acc l : List ByteArray) (j : Nat), parse b k i acc = some (l, j) → i ≤ b.length → ∃ r, l = acc ++ r ∧ r.length = k ∧ b.drop i = nms r ++ b.drop j ∧ j = i + (nms r).length ∧ j ≤ b.length
  | 0, i, acc, l, j, h, hi => by
    simp only [parse, Option.some.injEq, Prod.mk.injEq] at h
    obtain ⟨rfl, rfl⟩ := h
    exact ⟨[], by simp, rfl, by simp [nms], by simp [nms], hi⟩
  | k + 1, i, acc, l, j, h, hi => by
    unfold parse at h
    split at h
    · cases h
    · rename_i hle
      obtain ⟨r, h1, h2, h3, h4, h5⟩ := parse_inv b k _ _ _ _ h (by omega)
      have hz := sz_lt b i
      have hf := cutS_full b (i + 1) (sz b i) (by omega)
      have hx : b.drop i = nm (cutS b (i + 1) (sz b i)) ++ b.drop (i + 1 + sz b i) := by
        unfold nm
        rw [hf, show (i + 1 + sz b i) = (i + 1) + sz b i from rfl, ← List.drop_drop (i := sz b i) (j := i + 1)]
        have e1 : (cutS b (i + 1) (sz b i)).data.toList = (b.drop (i + 1)).take (sz b i) := by simp [cutS, str]
        rw [e1, List.cons_append, List.take_append_drop]
        have e2 : byte (sz b i : Int) = b.getD i 0 := byte_nat _
        rw [e2, List.getD_eq_getElem?_getD]
        rw [List.getElem?_eq_getElem (by omega)]
        exact List.drop_eq_getElem_cons (by omega)
      refine ⟨cutS b (i + 1) (sz b i) :: r, by simp [h1], by simp [h2], ?_, ?_, h5⟩
      · rw [hx, h3]
        show _ = (nm _ ++ nms r) ++ _
        rw [List.append_assoc]
      · show j = i + (nm _ ++ nms r).length
        rw [List.length_append, nm_len, hf]
        omega
theorem header_len (l : List ByteArray) : (headerP l).length = (nms l).length + 9 := by
  unfold headerP
  rw [put_len]
  simp only [headX, preX, List.length_append, List.length_cons, List.length_nil]
  omega
theorem head_enc (l : List ByteArray) (rest : List UInt8) (h : namesP l = true) : headL (headerP l ++ rest) = (l, ((headerP l).length : Int), 0) := by
  have h64 := names_le h
  have hsm := names_small h
  have hlen := header_len l
  have hb : headerP l ++ rest = [87, 71, 76, 1] ++ (byte (l.length : Int) :: (nms l ++ (be4 (more 1 (headX l)) ++ rest))) := by
    simp [headerP, put, headX, preX]
  have hz : sz (headerP l ++ rest) 4 = l.length := by
    rw [hb]
    show (byte (l.length : Int)).toNat = _
    have := byte_val (l.length : Int) (by omega) (by omega)
    omega
  have h5 : ¬ (headerP l ++ rest).length < 5 := by rw [List.length_append]; omega
  have h4 : (headerP l ++ rest).take 4 = mark := by rw [hb]; rfl
  have hp := parse_nms (headerP l ++ rest) l [] 5 (be4 (more 1 (headX l)) ++ rest) (by rw [hb]; rfl) (fun s hs => by have := hsm s hs; omega) (by omega)
  unfold headL
  rw [if_neg h5, if_neg (by rw [hz, h4]; rintro (q | q); exact q rfl; omega), hz, hp]
  dsimp only
  have hj : 5 + (nms l).length + 4 = (headerP l).length := by omega
  rw [List.nil_append, if_neg (by rw [List.length_append, h]; rintro (q | q); omega; cases q)]
  unfold headE
  rw [hj, List.take_left' rfl, show right (headerP l) = some (headX l) from right_put _]
  simp only [Option.isSome_some, if_true, Prod.mk.injEq, true_and, and_true]
  omega
theorem head_inv {b : List UInt8} {l : List ByteArray} {i : Int} (h : headL b = (l, i, 0)) : ∃ rest, b = headerP l ++ rest ∧ i = ((headerP l).length : Int) ∧ namesP l = true := by
  unfold headL at h
  split at h
  · cases h
  rename_i h5
  split at h
  · cases h
  rename_i hm
  split at h
  · cases h
  rename_i l' j hp
  split at h
  · cases h
  rename_i hn
  unfold headE at h
  split at h
  · rename_i hr
    simp only [Prod.mk.injEq, and_true] at h
    obtain ⟨rfl, rfl⟩ := h
    have hm4 : b.take 4 = mark := by
      by_cases q : b.take 4 = mark
      · exact q
      · exact absurd (Or.inl q) hm
    have hz64 : sz b 4 ≤ 64 := by omega
    obtain ⟨r, e1, e2, e3, e4, e5⟩ := parse_inv b _ _ _ _ _ hp (by omega)
    rw [List.nil_append] at e1
    subst e1
    obtain ⟨x, hx⟩ := Option.isSome_iff_exists.1 hr
    have hput := right_some hx
    have hb5 : b = preX l'.length ++ b.drop 5 := by
      have q1 : b = b.take 4 ++ b.drop 4 := (List.take_append_drop 4 b).symm
      have q2 : b.drop 4 = b.getD 4 0 :: b.drop 5 := by
        rw [List.getD_eq_getElem?_getD, List.getElem?_eq_getElem (by omega)]
        exact List.drop_eq_getElem_cons (by omega)
      have q3 : byte (l'.length : Int) = b.getD 4 0 := by rw [e2]; exact byte_nat _
      rw [q2, hm4, ← q3] at q1
      exact q1
    have hbj : b = headX l' ++ b.drop j := by
      rw [e3] at hb5
      unfold headX
      rw [List.append_assoc]
      exact hb5
    have hxl : (headX l').length = j := by
      unfold headX preX
      rw [List.length_append]
      simp only [List.length_cons, List.length_nil]
      omega
    have hxe : x = headX l' := by
      have q1 := congrArg List.length hput
      rw [put_len, List.length_take] at q1
      have q2 := congrArg (List.take j) hput
      unfold put at q2
      rw [List.take_left' (show x.length = j by omega), List.take_take, Nat.min_eq_left (by omega)] at q2
      rw [q2]
      conv => lhs; rw [hbj]
      exact List.take_left' hxl
    have hh : headerP l' = b.take (j + 4) := by rw [← hput, hxe]; rfl
    refine ⟨b.drop (j + 4), by rw [hh, List.take_append_drop], ?_, ?_⟩
    · rw [hh, List.length_take]; omega
    · cases hb : namesP l' with
      | true => rfl
      | false => exact absurd (Or.inr hb) hn
  · cases h
/-! ### Records -/
def Fine (p : Int) (es0 es : Es) : Prop := ∀ j, es0.length ≤ j → j < es.length → eOk p es j = true ∧ 0 ≤ tm es j ∧ tm es j < 18446744073709551616
theorem eOk_iff {p : Int} {es : Es} {i : Nat} : eOk p es i = true ↔ rises (ids es i) p = true ∧ (i = 0 ∨ ¬ tm es i < tm es (i - 1)) := by
  unfold Tr.eOk
  simp only [Bool.and_eq_true, Bool.or_eq_true, decide_eq_true_eq, Bool.not_eq_true', decide_eq_false_iff_not]
theorem recs_step {b : List UInt8} {p : Int} {f i : Nat} {es : Es} {t : Int} {l : List Int} {rest : List UInt8} (h0 : 0 ≤ p) (h1 : p ≤ 64) (hb : b.drop i = rec_ t l ++ rest) (hr : rises l p = true) (ht0 : 0 ≤ t) (ht1 : t < 18446744073709551616) (hlast : es.length = 0 ∨ ¬ t < tm es (es.length - 1)) :
    recs b p (f + 1) i es = recs b p f (i + (rec_ t l).length) (es ++ [(t, l)]) := by
  rw [recs, hb, get_whole rest h0 h1 ht0 ht1 hr, rec_len]
  dsimp only
  rw [if_neg (by decide), if_neg (by omega), Int.toNat_natCast]
theorem recs_many (b : List UInt8) (p : Int) (h0 : 0 ≤ p) (h1 : p ≤ 64) : ∀ (es es0 : Es) (i f : Nat) (rest : List UInt8), b.drop i = recsX es ++ rest → Fine p es0 (es0 ++ es) → recs b p (f + es.length) i es0 = recs b p f (i + (recsX es).length) (es0 ++ es)
  | [], es0, i, f, rest, _, _ => by simp [recsX]
  | (t, l) :: r, es0, i, f, rest, hb, hf => by
    have e0 : b.drop i = rec_ t l ++ (recsX r ++ rest) := by rw [hb]; simp [recsX]
    have hj := hf es0.length (Nat.le_refl _) (by simp)
    rw [eOk_iff] at hj
    have et : tm (es0 ++ (t, l) :: r) es0.length = t := by simp [tm, List.getD_eq_getElem?_getD]
    have ei : ids (es0 ++ (t, l) :: r) es0.length = l := by simp [ids, List.getD_eq_getElem?_getD]
    rw [et, ei] at hj
    have hlast : es0.length = 0 ∨ ¬ t < tm es0 (es0.length - 1) := by
      rcases hj.1.2 with q | q
      · exact Or.inl q
      · by_cases hz : es0.length = 0
        · exact Or.inl hz
        · refine Or.inr ?_
          have : tm (es0 ++ (t, l) :: r) (es0.length - 1) = tm es0 (es0.length - 1) := by simp [tm, List.getD_eq_getElem?_getD, List.getElem?_append_left (show es0.length - 1 < es0.length by omega)]
          rwa [this] at q
    have ea : es0 ++ (t, l) :: r = (es0 ++ [(t, l)]) ++ r := by simp
    have ef : f + ((t, l) :: r).length = (f + r.length) + 1 := by simp; omega
    rw [ef, recs_step h0 h1 e0 hj.1.1 hj.2.1 hj.2.2 hlast]
    have e1 : b.drop (i + (rec_ t l).length) = recsX r ++ rest := by rw [← List.drop_drop, e0, List.drop_left' rfl]
    rw [recs_many b p h0 h1 r (es0 ++ [(t, l)]) _ f rest e1 (fun j hj1 hj2 => by
      rw [← ea]
      exact hf j (by simp at hj1; omega) (by rw [ea]; exact hj2)), ← ea]
    congr 1
    show _ = i + (rec_ t l ++ recsX r).length
    rw [List.length_append]; omega
theorem recs_inv (b : List UInt8) (p : Int) (h0 : 0 ≤ p) (h1 : p ≤ 64) : ∀ (f i : Nat) (es0 es : Es) (e : Int), recs b p f i es0 = (es, e) → b.length + 1 ≤ i + f → i ≤ b.length →
    ∃ new rest, es = es0 ++ new ∧ b.drop i = recsX new ++ rest ∧ Fine p es0 es ∧ (e = 13 → rest = []) ∧ e ≠ 0 ∧ e ≠ 5
  | 0, i, es0, es, e, _, hf, hi => by omega
  | f + 1, i, es0, es, e, h, hf, hi => by
    obtain ⟨x, n, g, hg⟩ : ∃ x n g, get (b.drop i) p = (x, n, g) := ⟨_, _, _, rfl⟩
    rw [recs, hg] at h
    dsimp only at h
    split at h
    · rename_i hne
      simp only [Prod.mk.injEq] at h
      obtain ⟨rfl, rfl⟩ := h
      exact ⟨[], b.drop i, by simp, by simp [recsX], fun j hj1 hj2 => by omega, fun he => get_end (by rw [hg, he]), hne, get_not5 hg⟩
    · rename_i hne
      have hg0 : g = 0 := by omega
      subst hg0
      obtain ⟨t, l⟩ := x
      obtain ⟨rest, e1, rfl, h3, h4, h5⟩ := get_inv h0 h1 hg
      split at h
      · simp only [Prod.mk.injEq] at h
        obtain ⟨rfl, rfl⟩ := h
        exact ⟨[], b.drop i, by simp, by simp [recsX], fun j hj1 hj2 => by omega, fun he => absurd he (by decide), by decide, by decide⟩
      · rename_i hlast
        rw [Int.toNat_natCast] at h
        have hlen := congrArg List.length e1
        rw [List.length_drop, List.length_append, rec_len] at hlen
        obtain ⟨new, rest2, e2, e3, e4, e5, e6⟩ := recs_inv b p h0 h1 f _ _ _ _ h (by omega) (by omega)
        refine ⟨(t, l) :: new, rest2, by simp [e2], ?_, ?_, e5, e6⟩
        · have e7 : b.drop (i + (14 + l.length)) = rest := by rw [← List.drop_drop, e1, List.drop_left' (by rw [rec_len])]
          rw [e7] at e3
          rw [e1, e3]
          simp [recsX]
        · intro j hj1 hj2
          by_cases hjl : j = es0.length
          · subst hjl
            have et : tm es es0.length = t := by rw [e2]; simp [tm, List.getD_eq_getElem?_getD]
            have ei : ids es es0.length = l := by rw [e2]; simp [ids, List.getD_eq_getElem?_getD]
            refine ⟨eOk_iff.2 ⟨by rw [ei]; exact h3, ?_⟩, by rw [et]; exact h4, by rw [et]; exact h5⟩
            by_cases hz : es0.length = 0
            · exact Or.inl hz
            · refine Or.inr ?_
              have : tm es (es0.length - 1) = tm es0 (es0.length - 1) := by rw [e2]; simp [tm, List.getD_eq_getElem?_getD, List.getElem?_append_left (show es0.length - 1 < es0.length by omega)]
              rw [et, this]
              exact fun q => hlast ⟨by omega, q⟩
          · exact e4 j (by simp; omega) hj2
/-! ### The laws -/
/-- Times are 64 bits. -/
def Times (t : T) : Prop := ∀ i, i < t.evs.length → 0 ≤ tm t.evs i ∧ tm t.evs i < 18446744073709551616
theorem may_fine {t : T} (h : mayP t = true) (ht : Times t) : Fine t.names.length [] t.evs := by
  unfold Tr.mayP Tr.evsP Tr.mayTo at h
  rw [Bool.and_eq_true, List.all_eq_true] at h
  exact fun j _ hj => ⟨h.2 j (List.mem_range.2 hj), ht j hj⟩
theorem fine_take {p : Int} {es : Es} (h : Fine p [] es) (k : Nat) : Fine p [] (es.take k) := by
  intro j hj1 hj2
  rw [List.length_take] at hj2
  have := h j hj1 (by omega)
  rw [eOk_iff] at this ⊢
  rw [Tr.ids_take _ _ _ (by omega), Tr.tm_take _ _ _ (by omega), Tr.tm_take _ _ _ (show j - 1 < k by omega)]
  exact this
theorem recsX_len (es : Es) : es.length ≤ (recsX es).length := by
  induction es with
  | nil => simp [recsX]
  | cons x r ih =>
    show r.length + 1 ≤ (rec_ x.1 x.2 ++ recsX r).length
    rw [List.length_append, rec_len]
    omega
/-- A header, right records, and what stands behind them, of which nothing is got. -/
theorem dec_is {l : List ByteArray} {es : Es} {rest : List UInt8} {x : Int × List Int} {n e : Int} (hn : namesP l = true) (hf : Fine l.length [] es) (hg : get rest l.length = (x, n, e)) (he : e ≠ 0) :
    decP (headerP l ++ (recsX es ++ rest)) = ((⟨l, es⟩ : T), ((es.length : Int), if e = 13 then 0 else e)) := by
  have h64 := names_le hn
  have hH := head_enc l (recsX es ++ rest) hn
  have hd : (headerP l ++ (recsX es ++ rest)).drop (headerP l).length = recsX es ++ rest := List.drop_left' rfl
  have hrl := recsX_len es
  have hlen : (headerP l ++ (recsX es ++ rest)).length = (headerP l).length + ((recsX es).length + rest.length) := by rw [List.length_append, List.length_append]
  generalize hbb : headerP l ++ (recsX es ++ rest) = b at *
  obtain ⟨f, hfu⟩ : ∃ f, b.length + 1 = f + 1 + es.length := ⟨b.length - es.length, by omega⟩
  have hm := recs_many b l.length (by omega) (by omega) es [] (headerP l).length (f + 1) rest hd (by simpa using hf)
  have hd2 : b.drop ((headerP l).length + (recsX es).length) = rest := by rw [← List.drop_drop, hd, List.drop_left' rfl]
  have hR : recs b l.length (b.length + 1) (headerP l).length [] = (es, e) := by
    rw [hfu, hm, List.nil_append, recs, hd2, hg]
    exact if_pos he
  unfold decP recsP
  rw [hH]
  dsimp only
  rw [if_neg (by decide), Int.toNat_natCast, hR]
theorem get_nil (p : Int) : get [] p = none_ 13 := rfl
/-- Decode of Encode is the trace. -/
theorem back {t : T} (h : mayP t = true) (ht : Times t) : decP (encP t) = (t, ((t.evs.length : Int), (0 : Int))) ∧ headL (encP t) = (t.names, ((headerP t.names).length : Int), 0) ∧ (headerP t.names).length ≤ (encP t).length := by
  unfold encP
  rw [if_pos h]
  have := dec_is (l := t.names) (es := t.evs) (rest := []) (may_names h) (may_fine h ht) (get_nil _) (by decide)
  rw [List.append_nil] at this
  exact ⟨this, head_enc _ _ (may_names h), by rw [List.length_append]; omega⟩
theorem fine_may {l : List ByteArray} {es : Es} (hn : namesP l = true) (hf : Fine l.length [] es) : mayP ⟨l, es⟩ = true := by
  unfold Tr.mayP Tr.evsP Tr.mayTo
  rw [Bool.and_eq_true, List.all_eq_true]
  exact ⟨hn, fun j hj => (hf j (Nat.zero_le _) (List.mem_range.1 hj)).1⟩
/-- What is told of any bytes. -/
theorem dec_inv (b : List UInt8) : decP b = ((⟨[], []⟩ : T), ((0 : Int), (5 : Int))) ∨ ∃ l es rest e, b = headerP l ++ (recsX es ++ rest) ∧ namesP l = true ∧ Fine l.length [] es ∧ decP b = ((⟨l, es⟩ : T), ((es.length : Int), e)) ∧ e ≠ 5 ∧ (e = 0 → rest = []) := by
  obtain ⟨l, i, e, hH⟩ : ∃ l i e, headL b = (l, i, e) := ⟨_, _, _, rfl⟩
  by_cases he : e = 0
  · subst he
    obtain ⟨rest, hb, rfl, hn⟩ := head_inv hH
    have h64 := names_le hn
    obtain ⟨es, f, hR⟩ : ∃ es f, recs b l.length (b.length + 1) (headerP l).length [] = (es, f) := ⟨_, _, rfl⟩
    have hlen := congrArg List.length hb
    rw [List.length_append] at hlen
    obtain ⟨new, rest2, e1, e2, e3, e4, e5, e6⟩ := recs_inv b l.length (by omega) (by omega) _ _ _ _ _ hR (by omega) (by omega)
    rw [List.nil_append] at e1
    subst e1
    have ed : b.drop (headerP l).length = rest := by rw [hb, List.drop_left' rfl]
    rw [ed] at e2
    refine Or.inr ⟨l, es, rest2, if f = 13 then 0 else f, by rw [hb, e2], hn, e3, ?_, ?_, ?_⟩
    · unfold decP recsP
      rw [hH]
      dsimp only
      rw [if_neg (by decide), Int.toNat_natCast, hR]
    · split
      · decide
      · exact e6
    · intro hz
      split at hz
      · exact e4 (by assumption)
      · exact absurd hz e5
  · refine Or.inl ?_
    have : headL b = noHd 5 := by
      rcases head_err b with q | q
      · exact q
      · rw [hH] at q; exact absurd q he
    unfold decP
    rw [this]
    rfl
/-- What is told OK of is what is encoded; and how many events are told. -/
theorem canon (b : List UInt8) : ((decP b).2.2 = 0 → encP (decP b).1 = b ∧ (decP b).2.1 = (decP b).1.evs.length) ∧ ((decP b).2.2 ≠ 5 → (decP b).2.1 = (decP b).1.evs.length) := by
  rcases dec_inv b with h | ⟨l, es, rest, e, hb, hn, hf, h, h5, h0⟩
  · rw [h]
    exact ⟨fun q => absurd q (show (5 : Int) ≠ 0 by decide), fun q => absurd rfl q⟩
  · rw [h]
    refine ⟨fun q => ⟨?_, rfl⟩, fun _ => rfl⟩
    have := h0 q
    subst this
    unfold encP
    rw [if_pos (fine_may hn hf), hb, List.append_nil]
theorem recsX_app (a b : Es) : recsX (a ++ b) = recsX a ++ recsX b := by simp [recsX]
theorem recsX_at {es : Es} {k : Nat} (h : k < es.length) : recsX es = recsX (es.take k) ++ (rec_ (tm es k) (ids es k) ++ recsX (es.drop (k + 1))) := by
  conv => lhs; rw [← List.take_append_drop (k + 1) es]
  rw [recsX_app, recs_snoc es k h, List.append_assoc]
theorem recsX_step {es : Es} {k : Nat} (h : k < es.length) : (recsX (es.take (k + 1))).length = (recsX (es.take k)).length + (14 + (ids es k).length) := by
  rw [recs_snoc es k h, List.length_append, rec_len]
/-- A log that is cut off behind its header. -/
theorem cut_dec {l : List ByteArray} {es : Es} {k j : Nat} (hn : namesP l = true) (hf : Fine l.length [] es) (h0 : (headerP l).length + (recsX (es.take j)).length ≤ k) (hk : k ≤ (headerP l ++ recsX es).length) (hj : j ≤ es.length) (hj2 : j = es.length ∨ k < (headerP l).length + (recsX (es.take (j + 1))).length) :
    decP ((headerP l ++ recsX es).take k) = ((⟨l, es.take j⟩ : T), ((j : Int), if k = (headerP l).length + (recsX (es.take j)).length then (0 : Int) else 7)) := by
  have h64 := names_le hn
  rw [List.length_append] at hk
  obtain ⟨m, hm⟩ : ∃ m, k = (headerP l).length + ((recsX (es.take j)).length + m) := ⟨k - ((headerP l).length + (recsX (es.take j)).length), by omega⟩
  have hlen : (es.take j).length = j := by rw [List.length_take]; omega
  by_cases hje : j = es.length
  · have e1 : es.take j = es := by rw [hje, List.take_length]
    rw [e1] at h0 hm ⊢
    have hm0 : m = 0 := by omega
    subst hm0
    have := dec_is (rest := []) hn hf (get_nil _) (by decide)
    rw [List.append_nil] at this
    rw [List.take_of_length_le (by rw [List.length_append]; omega), this, if_pos rfl, if_pos (by omega), hje]
  · have hjl : j < es.length := by omega
    have hst := recsX_step hjl
    have hlt : m < 14 + (ids es j).length := by omega
    have hfj := hf j (Nat.zero_le _) hjl
    rw [eOk_iff] at hfj
    have ex : (headerP l ++ recsX es).take k = headerP l ++ (recsX (es.take j) ++ (rec_ (tm es j) (ids es j)).take m) := by
      rw [recsX_at hjl, hm]
      rw [List.take_append, List.take_of_length_le (by omega), Nat.add_sub_cancel_left]
      rw [List.take_append, List.take_of_length_le (by omega), Nat.add_sub_cancel_left]
      rw [List.take_append_of_le_length (by rw [rec_len]; omega)]
    have hg := get_short m (by omega) (by omega) hfj.1.1 hlt (t := tm es j)
    by_cases hm0 : m = 0
    · rw [if_pos hm0] at hg
      rw [ex, dec_is hn (fine_take hf j) hg (by decide), hlen, if_pos rfl, if_pos (by omega)]
    · rw [if_neg hm0] at hg
      rw [ex, dec_is hn (fine_take hf j) hg (by decide), hlen, if_neg (by decide), if_neg (by omega)]
/-- A log that is cut off in its header. -/
theorem cut_head {l : List ByteArray} {x : List UInt8} {k : Nat} (hn : namesP l = true) (hk : k < (headerP l).length) : decP ((headerP l ++ x).take k) = ((⟨[], []⟩ : T), ((0 : Int), (5 : Int))) := by
  have hH : headL ((headerP l ++ x).take k) = noHd 5 := by
    rcases head_err ((headerP l ++ x).take k) with q | q
    · exact q
    · exfalso
      obtain ⟨l', i, e, hH⟩ : ∃ l' i e, headL ((headerP l ++ x).take k) = (l', i, e) := ⟨_, _, _, rfl⟩
      rw [hH] at q
      obtain rfl : e = 0 := q
      obtain ⟨rest, hb, rfl, hn'⟩ := head_inv hH
      have h1 : headL (headerP l ++ x) = (l', ((headerP l').length : Int), 0) := by
        rw [← List.take_append_drop k (headerP l ++ x), hb, List.append_assoc]
        exact head_enc l' _ hn'
      rw [head_enc l x hn] at h1
      have h2 : ((headerP l).length : Int) = (headerP l').length := congrArg (fun x : Hd => x.2.1) h1
      have h3 := congrArg List.length hb
      rw [List.length_take, List.length_append, List.length_append] at h3
      omega
  unfold decP
  rw [hH]
  rfl
/-- One byte of a record is changed. -/
theorem tells_dec {l : List ByteArray} {es : Es} {k m : Nat} {z : UInt8} (hn : namesP l = true) (hf : Fine l.length [] es) (hk : k < es.length) (hm : m < 12 + (ids es k).length) (hz : ∀ y, (headerP l ++ recsX es)[(headerP l).length + (recsX (es.take k)).length + 2 + m]? = some y → z ≠ y) :
    decP ((headerP l ++ recsX es).set ((headerP l).length + (recsX (es.take k)).length + 2 + m) z) = ((⟨l, es.take k⟩ : T), ((k : Int), (6 : Int))) := by
  have h64 := names_le hn
  have hfj := hf k (Nat.zero_le _) hk
  rw [eOk_iff] at hfj
  have hlen : (es.take k).length = k := by rw [List.length_take]; omega
  have hrl := rec_len (tm es k) (ids es k)
  have ei : (headerP l).length + (recsX (es.take k)).length + 2 + m = (headerP l).length + ((recsX (es.take k)).length + (2 + m)) := by omega
  rw [ei, recsX_at hk] at hz ⊢
  have hget : (headerP l ++ (recsX (es.take k) ++ (rec_ (tm es k) (ids es k) ++ recsX (es.drop (k + 1)))))[(headerP l).length + ((recsX (es.take k)).length + (2 + m))]? = (rec_ (tm es k) (ids es k))[2 + m]? := by
    rw [List.getElem?_append_right (by omega), Nat.add_sub_cancel_left, List.getElem?_append_right (by omega), Nat.add_sub_cancel_left, List.getElem?_append_left (by omega)]
  have hset : (headerP l ++ (recsX (es.take k) ++ (rec_ (tm es k) (ids es k) ++ recsX (es.drop (k + 1))))).set ((headerP l).length + ((recsX (es.take k)).length + (2 + m))) z = headerP l ++ (recsX (es.take k) ++ ((rec_ (tm es k) (ids es k)).set (2 + m) z ++ recsX (es.drop (k + 1)))) := by
    rw [List.set_append_right _ _ (by omega), Nat.add_sub_cancel_left, List.set_append_right _ _ (by omega), Nat.add_sub_cancel_left, List.set_append_left _ _ (by omega)]
  have hy : (rec_ (tm es k) (ids es k))[2 + m]? = some ((rec_ (tm es k) (ids es k))[2 + m]'(by omega)) := List.getElem?_eq_getElem (by omega)
  have hg := get_spoilt (p := l.length) (t := tm es k) (l := ids es k) (2 + m) _ z (recsX (es.drop (k + 1))) (by omega) (by omega) hfj.1.1 (by omega) (by omega) hy (hz _ (by rw [hget]; exact hy))
  rw [hset, dec_is hn (fine_take hf k) hg (by decide), hlen, if_neg (by decide)]
end Lg
end Go.Proofs.Ytdihoedehmfgfaa
