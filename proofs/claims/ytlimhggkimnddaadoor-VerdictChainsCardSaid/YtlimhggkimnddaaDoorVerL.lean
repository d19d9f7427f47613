/- The contract of the reference's Parse. No condition but the length that any string has. -/
import Derived.Test.YtlimhggkimnddaaDoorVerK
set_option linter.unusedSimpArgs false
set_option linter.unusedVariables false
namespace Go.Proofs.YtlimhggkimnddaaDoor
open Go.ChangeShapes Go.WideShapes Go.ChangeAt Go.RowKit
namespace Vd
def piece (s : List UInt8) (f k : Nat) : List UInt8 := (s.drop f).take (k - f)
theorem ext_piece (s : List UInt8) (f k : Nat) : (⟨s.toArray⟩ : ByteArray).extract f k = ⟨(piece s f k).toArray⟩ := by
  rw [ByteArray.extract_mk]
  simp [piece]
theorem piece_nil (s : List UInt8) (k : Nat) : piece s k k = [] := by unfold piece; rw [Nat.sub_self, List.take_zero]
theorem piece_snoc {s : List UInt8} {f k : Nat} {x : UInt8} (hx : s[k]? = some x) (hf : f ≤ k) : piece s f (k + 1) = piece s f k ++ [x] := by
  unfold piece
  rw [show k + 1 - f = (k - f) + 1 by omega, List.take_add_one, List.getElem?_drop, show f + (k - f) = k by omega, hx]
  rfl
theorem piece_end (s : List UInt8) (f : Nat) : piece s f s.length = s.drop f := by
  unfold piece
  exact List.take_of_length_le (by rw [List.length_drop]; exact Nat.le_refl _)
theorem drop_at {s : List UInt8} {k : Nat} {x : UInt8} (hx : s[k]? = some x) : s.drop k = x :: s.drop (k + 1) := by
  obtain ⟨hk, e⟩ := List.getElem?_eq_some_iff.1 hx
  rw [List.drop_eq_getElem_cons hk, e]
theorem go_on {cur : List UInt8} {acc : List It} {x : UInt8} {r : List UInt8} (h : x ≠ 10) : go cur acc (x :: r) = go (cur ++ [x]) acc r := by rw [go, if_neg h]
theorem go_no {cur : List UInt8} {acc : List It} {r : List UInt8} (h : item cur = none) : go cur acc (10 :: r) = bad acc := by rw [go, if_pos rfl, h]
theorem go_yes {cur : List UInt8} {acc : List It} {r : List UInt8} {y : It} (h : item cur = some y) : go cur acc (10 :: r) = go [] (acc ++ [y]) r := by rw [go, if_pos rfl, h]
set_option maxRecDepth 20000 in
set_option maxHeartbeats 2000000 in
theorem rparse_c (s : List UInt8) (w : World) (hs : s.length ≤ 1000000000) : Calls Tryd.prog 22 #[.string ⟨s.toArray⟩] w (HandsP w (parse s)) := by
  go_enter Tryd.func22, Tryd.ntmps22
  go_wp2
  go_loopw [5, 6, 7, 8, 9, 10, 13] (fun o ln fr _ _ _ i wr => ∃ (k f : Nat) (acc : List It), k ≤ s.length ∧ i = .int .i64 k ∧ f ≤ k ∧ fr = .int .i64 f ∧ ln = .int .i64 ((acc.length : Int) + 1) ∧ IOwn wr w.heap.size o acc ∧ Hid (go (piece s f k) acc (s.drop k) = parse s) ∧ acc.length ≤ k ∧ Nw w wr) (fun _ _ _ _ _ _ i _ => s.length - (intOf i).toNat)
  case atStart => exact ⟨0, 0, [], Nat.zero_le _, rfl, Nat.le_refl _, rfl, rfl, IOwn.nil _ _, hid rfl, Nat.le_refl _, Nw.refl _⟩
  case round =>
    obtain ⟨k, f, acc, hk, rfl, hf, rfl, rfl, ho, hg, hl, hnr⟩ := hrel
    obtain ⟨q, cq, rfl, _⟩ := ho.its.open rfl
    have hla : acc.length ≤ 1000000000 := by omega
    by_cases hlt : k < s.length
    · have hdk : decide (k < s.length) = true := decide_eq_true hlt
      obtain ⟨x, hx⟩ : ∃ x, s[k]? = some x := ⟨s[k], by rw [List.getElem?_eq_getElem]⟩
      obtain ⟨hgb, hgx⟩ := str_at hx
      have hd := drop_at hx
      rw [hd] at hg
      clear hd
      by_cases h10 : x = 10
      · subst h10
        have hE := ext_piece s f k
        have hPL : (piece s f k).length ≤ 1000000000 := by unfold piece; rw [List.length_take, List.length_drop]; omega
        have HI := hid (fun w' => ritem_c (piece s f k) w' hPL)
        unfold HandsI itv at HI
        have hfi : (f : Int) ≤ k := by omega
        have hni := piece_nil s (k + 1)
        clear hx hPL
        generalize piece s f k = P at *
        cases hi : item P with
        | none =>
          have HB := hid ((go_no hi).symm.trans hg.out)
          rw [hi] at HI
          clear hg hi
          go_wp2_with (first
            | (go_at_call 31; refine (HI.out _).mono ?_; rintro e w2 ⟨⟨x0, x1, x2, x3⟩, rfl, _, hn2⟩)
            | fail)
          go_ret3
          exact handsP_bad HB.out rfl (by repeat (first | assumption | exact Nw.refl _ | refine Nw.alloc ?_ _ | refine Nw.drew ?_ | refine Nw.drewN2 ?_ _ | (refine Nw.trans ?_ (by assumption))))
        | some y =>
          obtain ⟨y0, y1, y2, y3⟩ := y
          have HG := hid ((go_yes hi).symm.trans hg.out)
          rw [hi] at HI
          have HI2 := hid (fun w' => show Calls Tryd.prog 31 #[.string ⟨P.toArray⟩] w' (Gives (.tuple #[.agg #[.int .i64 y0, .int .i64 y1, .bool y2, .int .i64 y3], .bool true]) w') from
            (HI.out w').mono fun e w'' ⟨x, he, hx, hn⟩ => by
              have := hx _ rfl
              subst this
              exact ⟨he, hn⟩)
          have HO := hid ho
          clear hg hi HI ho
          go_wp2_with (first
            | (go_at_call 31; refine (HI2.out _).mono ?_; rintro e w2 ⟨rfl, hn2⟩; have hz2 := hn2.size; have hz1 := hnr.size)
            | (at_builtin; refine appI rfl _ _ _ rfl Tryd.underlying22 (y0, y1, y2, y3) rfl (IOwn.nw HO.out (hn2.alloc _)) (Nat.le_trans hz1 (Nat.le_trans hz2 ((Nw.refl w2).alloc _).size)) rfl rfl (by simp) ?_ (by omega); intro v4 w4 ho4 hm4)
            | fail)
          have hn4 : Nw w w4 := Nw.ofMods (hnr.trans (hn2.alloc _)) hm4 (fun k hk => hk)
          obtain ⟨q4, c4, e4, _⟩ := ho4.its.open rfl
          go_roundw
          case rel => exact ⟨k + 1, k + 1, acc ++ [(y0, y1, y2, y3)], by omega, by go_num, Nat.le_refl _, by go_num, by rw [List.length_append, List.length_singleton]; push_cast; rfl, ho4, by rw [hni]; exact HG, by rw [List.length_append, List.length_singleton]; omega, hn4⟩
          case measure => simp [intOf]; omega
      · have hq : ((x.toNat : Int) == 10) = false := by
          have : x.toNat ≠ 10 := fun e => h10 (by rw [← UInt8.ofNat_toNat (x := x), e]; rfl)
          simpa using (by omega : ¬ (x.toNat : Int) = 10)
        have HG := hid (by have := (go_on (r := s.drop (k + 1)) (acc := acc) (cur := piece s f k) h10).symm.trans hg.out; rw [← piece_snoc hx hf] at this; exact this)
        clear hx h10 hg
        go_wp2
        go_roundw
        case rel => exact ⟨k + 1, f, acc, by omega, by go_num, by omega, rfl, rfl, ho, HG, by omega, hnr⟩
        case measure => simp [intOf]; omega
    · obtain rfl : k = s.length := by omega
      have hdk : decide (s.length < s.length) = false := decide_eq_false (Nat.lt_irrefl _)
      rw [piece_end, List.drop_length, go] at hg
      by_cases hfl : f < s.length
      · have d1 : decide (f < s.length) = true := decide_eq_true hfl
        have d2 : decide ((f : Int) < s.length) = true := decide_eq_true (by omega)
        have HB := hid ((if_neg (by intro e; have := congrArg List.length e; rw [List.length_drop, List.length_nil] at this; omega)).symm.trans hg.out)
        clear hfl hg
        go_wp2
        go_ret3
        exact handsP_bad HB.out rfl hnr
      · have d1 : decide (f < s.length) = false := decide_eq_false hfl
        have d2 : decide ((f : Int) < s.length) = false := decide_eq_false (by omega)
        have HB := hid ((if_pos (by rw [List.drop_of_length_le (by omega)])).symm.trans hg.out)
        clear hfl hg
        generalize parse s = PS at *
        obtain rfl := HB.out
        go_wp2
        go_ret3
        exact ⟨_, rfl, ho, hnr⟩
end Vd
end Go.Proofs.YtlimhggkimnddaaDoor
