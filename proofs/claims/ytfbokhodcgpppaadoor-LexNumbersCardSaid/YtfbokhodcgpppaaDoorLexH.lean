/- The contract of lex.token: signs, and what is none. No condition but lengths. -/
import Derived.Test.YtfbokhodcgpppaaDoorLexG
namespace Go.Proofs.YtfbokhodcgpppaaDoor
open Go.ChangeShapes Go.WideShapes Go.ChangeAt Go.RowKit
namespace Lx
/-- Begins a text with '->'? -/
def arrow (l : List UInt8) : Bool := match l with | a :: b :: _ => decide (a = 45) && decide (b = 62) | _ => false
set_option maxRecDepth 20000 in
theorem prefix_c (l : List UInt8) (w : World) : Calls Tryd.prog 15 #[.string ⟨l.toArray⟩, .string ⟨#[45, 62]⟩] w (Gives (.bool (arrow l)) w) := by
  match l with
  | [] =>
    go_enter Tryd.func15, Tryd.ntmps15
    go_wp2
    go_ret
    exact Gives.b rfl (by repeat (first | assumption | exact Nw.refl _ | refine Nw.alloc ?_ _ | refine Nw.drew ?_ | refine Nw.drewN2 ?_ _ | (refine Nw.trans ?_ (by assumption))))
  | [a] =>
    go_enter Tryd.func15, Tryd.ntmps15
    go_wp2
    go_ret
    exact Gives.b rfl (by repeat (first | assumption | exact Nw.refl _ | refine Nw.alloc ?_ _ | refine Nw.drew ?_ | refine Nw.drewN2 ?_ _ | (refine Nw.trans ?_ (by assumption))))
  | a :: b :: r =>
    have hcs := cut_str (a :: b :: r) 0 2
    rw [show cut (a :: b :: r) 0 2 = [a, b] from rfl] at hcs
    have HA := hid (show arrow (a :: b :: r) = (decide (a = 45) && decide (b = 62)) from rfl)
    have hln : (2 : Int) ≤ ((a :: b :: r).length : Int) := by simp; omega
    generalize a :: b :: r = l at *
    go_enter Tryd.func15, Tryd.ntmps15
    go_wp2
    go_ret
    exact Gives.b (by rw [HA.out, Bool.eq_iff_iff]; simp) (by repeat (first | assumption | exact Nw.refl _ | refine Nw.alloc ?_ _ | refine Nw.drew ?_ | refine Nw.drewN2 ?_ _ | (refine Nw.trans ?_ (by assumption))))
theorem arrow_drop (bs : List UInt8) (k : Nat) (x : UInt8) (hx : bs[k]? = some x) : arrow (bs.drop k) = (decide (x = 45) && decide (bs[k + 1]? = some 62)) := by
  obtain ⟨hk, rfl⟩ := List.getElem?_eq_some_iff.1 hx
  rw [List.drop_eq_getElem_cons hk]
  by_cases h : k + 1 < bs.length
  · rw [List.drop_eq_getElem_cons h]
    unfold arrow
    rw [List.getElem?_eq_getElem h]
    simp
  · rw [List.drop_of_length_le (by omega), List.getElem?_eq_none (by omega)]
    simp [arrow]
set_option maxRecDepth 20000 in
set_option maxHeartbeats 1600000 in
theorem token_sign (bs : List UInt8) (k : Nat) (x : UInt8) (w : World) (hx : bs[k]? = some x) (hb : bs.length ≤ 1000000000) (hs : sm x = false) (hdg : dg x = false) (hsg : x ∈ signs) :
    Calls Tryd.prog 8 #[.string ⟨bs.toArray⟩, .int .i64 (k : Int)] w (HandsT w (tokAt bs k x)) := by
  obtain ⟨hk, _⟩ := List.getElem?_eq_some_iff.1 hx
  obtain ⟨hgb, hgx⟩ := str_at hx
  have HL := hid (fun w => letter_c x w)
  rw [hs] at HL
  have HD := hid (fun w => digit_c x w)
  rw [hdg] at HD
  have HR := hid (show tokAt bs k x = some (⟨3, [x], 0, k⟩, 1) by unfold tokAt; rw [if_neg (by rw [hs]; decide), if_neg (by rw [hdg]; decide), if_pos hsg])
  have HSG := hid hsg
  have hcx : cut bs k (k + 1) = [x] := by
    unfold cut
    obtain ⟨_, e⟩ := List.getElem?_eq_some_iff.1 hx
    rw [List.drop_eq_getElem_cons hk, e, Nat.add_sub_cancel_left]; rfl
  have hcs := cut_str bs k (k + 1)
  rw [hcx] at hcs
  clear hsg hcx
  go_enter Tryd.func8, Tryd.ntmps8
  go_upto_region 20 with (first
    | (go_at_call 10; refine (HL.out _).mono ?_; rintro e w1 ⟨rfl, hn1⟩)
    | (go_at_call 13; refine (HD.out _).mono ?_; rintro e w2 ⟨rfl, hn2⟩)
    | (go_at_call 14; refine (idxs_c x _).mono ?_; rintro e w3 ⟨i, rfl, hi, hn3⟩; have hi2 := hi.out; rw [decide_eq_true HSG.out] at hi2)
    | fail)
  have hst := (TkSt.new w k).nw (hn1.trans (hn2.trans hn3))
  have g0 := heap_cell (hst).1 0
  have g1 := heap_cell (hst).1 1
  have g2 := heap_cell (hst).1 2
  have g3 := heap_cell (hst).1 3
  have gf0 := heap_frozen (hst).1 0
  have gf1 := heap_frozen (hst).1 1
  have gf2 := heap_frozen (hst).1 2
  have z0 := heap_cell (hst).2.1 0
  have z1 := heap_cell (hst).2.1 1
  have z2 := heap_cell (hst).2.1 2
  have z3 := heap_cell (hst).2.1 3
  have zf0 := heap_frozen (hst).2.1 0
  have zf1 := heap_frozen (hst).2.1 1
  have zf2 := heap_frozen (hst).2.1 2
  have zf3 := heap_frozen (hst).2.1 3
  have zlt := lt_of_heap (hst).1
  simp at g0 g1 g2 g3 z0 z1 z2 z3
  go_region
  have hst4 := ((hst.set 3 [x]).nw (show Nw _ _ from (Nw.refl _).drew))
  generalize ((w3.setCell ⟨w.heap.size + 1, 0, none⟩ (.int .i64 3)).setCell ⟨w.heap.size + 1, 1, none⟩ (.string ⟨[x].toArray⟩)).drew = w4 at *
  clear g0 g1 g2 g3 gf0 gf1 gf2 z0 z1 z2 z3 zf0 zf1 zf2 zf3 zlt hst
  try dsimp only at hst4
  have g0 := heap_cell (hst4).1 0
  have g1 := heap_cell (hst4).1 1
  have g2 := heap_cell (hst4).1 2
  have g3 := heap_cell (hst4).1 3
  have gf0 := heap_frozen (hst4).1 0
  have gf1 := heap_frozen (hst4).1 1
  have gf2 := heap_frozen (hst4).1 2
  have z0 := heap_cell (hst4).2.1 0
  have z1 := heap_cell (hst4).2.1 1
  have z2 := heap_cell (hst4).2.1 2
  have z3 := heap_cell (hst4).2.1 3
  have zf0 := heap_frozen (hst4).2.1 0
  have zf1 := heap_frozen (hst4).2.1 1
  have zf2 := heap_frozen (hst4).2.1 2
  have zf3 := heap_frozen (hst4).2.1 3
  have zlt := lt_of_heap (hst4).1
  simp at g0 g1 g2 g3 z0 z1 z2 z3
  have hfin := hst4.hand (r := some (⟨3, [x], 0, k⟩, 1)) (n := 1) 1 rfl ⟨rfl, rfl⟩ rfl
  go_wp2
  ((try simp only [Exit.inBlock, Exit.then]); refine bodyPost_ret (results_cell2 rfl _ _ _ _ _ _ _ rfl hfin.1 Tryd.underlying29 rfl (by kernel_rfl)) rfl ?_)
  rw [HR.out]
  exact hfin.2
set_option maxRecDepth 20000 in
set_option maxHeartbeats 1600000 in
theorem token_rest (bs : List UInt8) (k : Nat) (x : UInt8) (w : World) (hx : bs[k]? = some x) (hb : bs.length ≤ 1000000000) (hs : sm x = false) (hdg : dg x = false) (hsg : x ∉ signs) :
    Calls Tryd.prog 8 #[.string ⟨bs.toArray⟩, .int .i64 (k : Int)] w (HandsT w (tokAt bs k x)) := by
  obtain ⟨hk, _⟩ := List.getElem?_eq_some_iff.1 hx
  obtain ⟨hgb, hgx⟩ := str_at hx
  have HL := hid (fun w => letter_c x w)
  rw [hs] at HL
  have HD := hid (fun w => digit_c x w)
  rw [hdg] at HD
  have HT := hid (show tokAt bs k x = if x = 45 ∧ bs[k + 1]? = some 62 then some (⟨3, [45, 62], 0, k⟩, 2) else none by unfold tokAt; rw [if_neg (by rw [hs]; decide), if_neg (by rw [hdg]; decide), if_neg hsg])
  have HSG := hid hsg
  have harr := arrow_drop bs k x hx
  have hds : (ByteArray.mk bs.toArray).extract k bs.length = ⟨(bs.drop k).toArray⟩ := by
    rw [cut_str]
    unfold cut
    rw [List.take_of_length_le (by rw [List.length_drop]; exact Nat.le_refl _)]
  have HP := hid (fun w => prefix_c (bs.drop k) w)
  rw [harr] at HP
  clear hsg harr
  by_cases ha : x = 45 ∧ bs[k + 1]? = some 62
  · have HR := hid (HT.out.trans (if_pos ha))
    rw [decide_eq_true ha.1, decide_eq_true ha.2] at HP
    clear ha HT
    go_enter Tryd.func8, Tryd.ntmps8
    go_upto_region 22 with (first
      | (go_at_call 10; refine (HL.out _).mono ?_; rintro e w1 ⟨rfl, hn1⟩)
      | (go_at_call 13; refine (HD.out _).mono ?_; rintro e w2 ⟨rfl, hn2⟩)
      | (go_at_call 14; refine (idxs_c x _).mono ?_; rintro e w3 ⟨i, rfl, hi, hn3⟩; have hi2 := hi.out; rw [decide_eq_false HSG.out] at hi2)
      | fail)
    go_upto_region 23 with (first
      | (go_at_call 15; refine (HP.out _).mono ?_; rintro e w4 ⟨rfl, hn4⟩)
      | fail)
    have hst := (TkSt.new w k).nw (hn1.trans (hn2.trans (hn3.trans hn4)))
    have g0 := heap_cell (hst).1 0
    have g1 := heap_cell (hst).1 1
    have g2 := heap_cell (hst).1 2
    have g3 := heap_cell (hst).1 3
    have gf0 := heap_frozen (hst).1 0
    have gf1 := heap_frozen (hst).1 1
    have gf2 := heap_frozen (hst).1 2
    have z0 := heap_cell (hst).2.1 0
    have z1 := heap_cell (hst).2.1 1
    have z2 := heap_cell (hst).2.1 2
    have z3 := heap_cell (hst).2.1 3
    have zf0 := heap_frozen (hst).2.1 0
    have zf1 := heap_frozen (hst).2.1 1
    have zf2 := heap_frozen (hst).2.1 2
    have zf3 := heap_frozen (hst).2.1 3
    have zlt := lt_of_heap (hst).1
    simp at g0 g1 g2 g3 z0 z1 z2 z3
    go_upto_region 24 with fail
    have hst4 := hst.set 3 [45, 62]
    generalize ((w4.setCell ⟨w.heap.size + 1, 0, none⟩ (.int .i64 3)).setCell ⟨w.heap.size + 1, 1, none⟩ (.string ⟨[45, 62].toArray⟩)) = w5 at *
    clear g0 g1 g2 g3 gf0 gf1 gf2 z0 z1 z2 z3 zf0 zf1 zf2 zf3 zlt hst
    try dsimp only at hst4
    have g0 := heap_cell (hst4).1 0
    have g1 := heap_cell (hst4).1 1
    have g2 := heap_cell (hst4).1 2
    have g3 := heap_cell (hst4).1 3
    have gf0 := heap_frozen (hst4).1 0
    have gf1 := heap_frozen (hst4).1 1
    have gf2 := heap_frozen (hst4).1 2
    have z0 := heap_cell (hst4).2.1 0
    have z1 := heap_cell (hst4).2.1 1
    have z2 := heap_cell (hst4).2.1 2
    have z3 := heap_cell (hst4).2.1 3
    have zf0 := heap_frozen (hst4).2.1 0
    have zf1 := heap_frozen (hst4).2.1 1
    have zf2 := heap_frozen (hst4).2.1 2
    have zf3 := heap_frozen (hst4).2.1 3
    have zlt := lt_of_heap (hst4).1
    simp at g0 g1 g2 g3 z0 z1 z2 z3
    have hfin := hst4.hand (r := some (⟨3, [45, 62], 0, k⟩, 2)) (n := 2) 2 rfl ⟨rfl, rfl⟩ rfl
    go_wp2
    ((try simp only [Exit.inBlock, Exit.then]); refine bodyPost_ret (results_cell2 rfl _ _ _ _ _ _ _ rfl hfin.1 Tryd.underlying29 rfl (by kernel_rfl)) rfl ?_)
    rw [HR.out]
    exact hfin.2
  · have HR := hid (HT.out.trans (if_neg ha))
    have hfa : (decide (x = 45) && decide (bs[k + 1]? = some 62)) = false := by
      rw [Bool.and_eq_false_iff, decide_eq_false_iff_not, decide_eq_false_iff_not]
      exact Classical.not_and_iff_not_or_not.1 ha
    rw [hfa] at HP
    clear ha HT hfa
    go_enter Tryd.func8, Tryd.ntmps8
    go_upto_region 22 with (first
      | (go_at_call 10; refine (HL.out _).mono ?_; rintro e w1 ⟨rfl, hn1⟩)
      | (go_at_call 13; refine (HD.out _).mono ?_; rintro e w2 ⟨rfl, hn2⟩)
      | (go_at_call 14; refine (idxs_c x _).mono ?_; rintro e w3 ⟨i, rfl, hi, hn3⟩; have hi2 := hi.out; rw [decide_eq_false HSG.out] at hi2)
      | fail)
    go_upto_region 25 with (first
      | (go_at_call 15; refine (HP.out _).mono ?_; rintro e w4 ⟨rfl, hn4⟩)
      | fail)
    have hst := (TkSt.new w k).nw (hn1.trans (hn2.trans (hn3.trans hn4)))
    have g0 := heap_cell (hst).1 0
    have g1 := heap_cell (hst).1 1
    have g2 := heap_cell (hst).1 2
    have g3 := heap_cell (hst).1 3
    have gf0 := heap_frozen (hst).1 0
    have gf1 := heap_frozen (hst).1 1
    have gf2 := heap_frozen (hst).1 2
    have z0 := heap_cell (hst).2.1 0
    have z1 := heap_cell (hst).2.1 1
    have z2 := heap_cell (hst).2.1 2
    have z3 := heap_cell (hst).2.1 3
    have zf0 := heap_frozen (hst).2.1 0
    have zf1 := heap_frozen (hst).2.1 1
    have zf2 := heap_frozen (hst).2.1 2
    have zf3 := heap_frozen (hst).2.1 3
    have zlt := lt_of_heap (hst).1
    simp at g0 g1 g2 g3 z0 z1 z2 z3
    have hfin := hst.hand (r := none) (n := 0) 0 rfl rfl rfl
    go_wp2
    ((try simp only [Exit.inBlock, Exit.then]); refine bodyPost_ret (results_cell2 rfl _ _ _ _ _ _ _ rfl hfin.1 Tryd.underlying29 rfl (by kernel_rfl)) rfl ?_)
    rw [HR.out]
    exact hfin.2
theorem token_c (bs : List UInt8) (k : Nat) (x : UInt8) (w : World) (hx : bs[k]? = some x) (hb : bs.length ≤ 1000000000) :
    Calls Tryd.prog 8 #[.string ⟨bs.toArray⟩, .int .i64 (k : Int)] w (HandsT w (tokAt bs k x)) := by
  cases hs : sm x with
  | true => exact token_word bs k x w hx hb hs
  | false =>
    cases hd : dg x with
    | true => exact token_num bs k x w hx hb hs hd
    | false =>
      by_cases hsg : x ∈ signs
      · exact token_sign bs k x w hx hb hs hd hsg
      · exact token_rest bs k x w hx hb hs hd hsg
end Lx
end Go.Proofs.YtfbokhodcgpppaaDoor
