/- The contracts of Some, Cells (both), SameBuckets. No condition but lengths. -/
import Derived.Test.YthellicimicieaaWinG
set_option linter.unusedSimpArgs false
set_option linter.unusedVariables false
namespace Go.Proofs.Ythellicimicieaa
open Go.ChangeShapes Go.WideShapes Go.ChangeAt Go.RowKit
namespace Wn
open Ival Words
theorem take_snoc (bs : Bs) (k : Nat) (h : k < bs.length) : bs.take (k + 1) = bs.take k ++ [(off bs k, st bs k)] := by
  rw [List.take_add_one, List.getElem?_eq_getElem h]
  congr 1
  simp [off, st, List.getD_eq_getElem?_getD, h]
theorem cells_snoc (bs : Bs) (k : Nat) (h : k < bs.length) : cellsP (bs.take (k + 1)) = cellsP (bs.take k) + (1 + (trim (st bs k)).length) := by
  rw [take_snoc bs k h]
  simp [cellsP]
theorem cells_bd {n m : Nat} {bs : Bs} (h : ∀ b ∈ bs, b.2.length ≤ m) : cellsP bs ≤ bs.length * (1 + m) := by
  induction bs with
  | nil => simp [cellsP]
  | cons b r ih =>
    have h1 := ih fun x hx => h x (List.mem_cons_of_mem _ hx)
    have h2 := trim_len b.2
    have h3 := h b List.mem_cons_self
    have e : cellsP (b :: r) = 1 + (trim b.2).length + cellsP r := by simp [cellsP]
    rw [e, List.length_cons, Nat.add_mul, Nat.one_mul]
    omega
theorem cells_le {bs : Bs} (h : Sm 1000000 1000000 bs) (k : Nat) : cellsP (bs.take k) ≤ 1000001000000 := by
  have h1 := cells_bd (n := 0) (m := 1000000) (bs := bs.take k) fun b hb => h.m b (List.mem_of_mem_take hb)
  have h2 : (bs.take k).length ≤ 1000000 := (take_sm h k).n
  calc cellsP (bs.take k) ≤ (bs.take k).length * (1 + 1000000) := h1
    _ ≤ 1000000 * (1 + 1000000) := Nat.mul_le_mul_right _ h2
    _ = 1000001000000 := by decide
set_option maxRecDepth 20000 in
set_option maxHeartbeats 1600000 in
theorem cells_w (vl : Value) (bs : Bs) (w : World) (hv : Bks w vl bs) (hsm : Sm 1000000 1000000 bs) : Calls Try.prog 37 #[vl] w (Gives (.int .i64 (cellsP bs : Int)) w) := by
  obtain ⟨p, cap, rfl, hcap, hmx, hp0, hbc⟩ := hv
  unfold maxLen at hmx
  have HB := hid hbc
  have hln := hsm.n
  have HCS := hid (fun k hk => cells_snoc bs k hk)
  have HCL := hid (fun k => cells_le hsm k)
  clear hbc
  go_enter Try.func37, Try.ntmps37
  go_wp2
  go_loopw [3, 5, 8] (fun n _ i wr => ∃ k : Nat, k ≤ bs.length ∧ i = .int .i64 k ∧ n = .int .i64 (cellsP (bs.take k) : Int) ∧ Nw w wr) (fun _ _ i _ => bs.length - (intOf i).toNat)
  case atStart => exact ⟨0, Nat.zero_le _, rfl, rfl, Nw.refl _⟩
  case round =>
    obtain ⟨k, hk, rfl, rfl, hnr⟩ := hrel
    by_cases hlt : k < bs.length
    · have hdk : decide (k < bs.length) = true := decide_eq_true hlt
      obtain ⟨b1, o1, vi, rfl, c0, c1, hsl⟩ := (HB.out.nw hnr) k hlt
      obtain ⟨q, c', rfl⟩ := set_shape hsl
      have HT := hid (HCS.out k hlt)
      have hcl := HCL.out (k + 1)
      rw [HT.out] at hcl
      have HPL := hid (fun w' (h : Nw wr w') => plain_c _ (st bs k) w' (hsl.nw h) (Nat.le_trans (hsm.at k hlt) (by decide)))
      clear hsl
      generalize st bs k = s at *
      generalize off bs k = ok at *
      generalize cellsP (bs.take k) = cp at *
      generalize trim s = ts at *
      go_wp2_with (first
        | (go_at_call 46; refine (HPL.out _ (by repeat (first | assumption | exact Nw.refl _ | refine Nw.alloc ?_ _ | refine Nw.drew ?_ | refine Nw.drewN2 ?_ _ | (refine Nw.trans ?_ (by assumption))))).mono ?_; rintro e w5 ⟨v5, rfl, hs5, hk5, hn5⟩; obtain ⟨q5, c5, rfl⟩ := set_shape hs5)
        | fail)
      go_roundw
      case rel => exact ⟨k + 1, by omega, by go_num, by rw [HT.out]; go_num, hnr.trans (by repeat (first | assumption | exact Nw.refl _ | refine Nw.alloc ?_ _ | refine Nw.drew ?_ | refine Nw.drewN2 ?_ _ | (refine Nw.trans ?_ (by assumption))))⟩
      case measure => simp [intOf]; omega
    · obtain rfl : k = bs.length := by omega
      have hdk : decide (bs.length < bs.length) = false := decide_eq_false (by omega)
      rw [List.take_length]
      go_wp2
      go_ret
      exact ⟨rfl, hnr⟩

set_option maxRecDepth 20000 in
set_option maxHeartbeats 1600000 in
theorem rcells_w (vl : Value) (bs : Bs) (w : World) (hv : Bks w vl bs) (hsm : Sm 1000000 1000000 bs) : Calls Try.prog 63 #[vl] w (Gives (.int .i64 (cellsP bs : Int)) w) := by
  obtain ⟨p, cap, rfl, hcap, hmx, hp0, hbc⟩ := hv
  unfold maxLen at hmx
  have HB := hid hbc
  have hln := hsm.n
  have HCS := hid (fun k hk => cells_snoc bs k hk)
  have HCL := hid (fun k => cells_le hsm k)
  clear hbc
  go_enter Try.func63, Try.ntmps63
  go_wp2
  go_loopw [3, 5, 8] (fun n _ i wr => ∃ k : Nat, k ≤ bs.length ∧ i = .int .i64 k ∧ n = .int .i64 (cellsP (bs.take k) : Int) ∧ Nw w wr) (fun _ _ i _ => bs.length - (intOf i).toNat)
  case atStart => exact ⟨0, Nat.zero_le _, rfl, rfl, Nw.refl _⟩
  case round =>
    obtain ⟨k, hk, rfl, rfl, hnr⟩ := hrel
    by_cases hlt : k < bs.length
    · have hdk : decide (k < bs.length) = true := decide_eq_true hlt
      obtain ⟨b1, o1, vi, rfl, c0, c1, hsl⟩ := (HB.out.nw hnr) k hlt
      obtain ⟨q, c', rfl⟩ := set_shape hsl
      have HT := hid (HCS.out k hlt)
      have hcl := HCL.out (k + 1)
      rw [HT.out] at hcl
      have HPL := hid (fun w' (h : Nw wr w') => rtrim_c _ (st bs k) w' (hsl.nw h) (Nat.le_trans (hsm.at k hlt) (by decide)))
      clear hsl
      generalize st bs k = s at *
      generalize off bs k = ok at *
      generalize cellsP (bs.take k) = cp at *
      generalize trim s = ts at *
      go_wp2_with (first
        | (go_at_call 27; refine (HPL.out _ (by repeat (first | assumption | exact Nw.refl _ | refine Nw.alloc ?_ _ | refine Nw.drew ?_ | refine Nw.drewN2 ?_ _ | (refine Nw.trans ?_ (by assumption))))).mono ?_; rintro e w5 ⟨v5, rfl, hs5, hk5, hn5⟩; obtain ⟨q5, c5, rfl⟩ := set_shape hs5)
        | fail)
      go_roundw
      case rel => exact ⟨k + 1, by omega, by go_num, by rw [HT.out]; go_num, hnr.trans (by repeat (first | assumption | exact Nw.refl _ | refine Nw.alloc ?_ _ | refine Nw.drew ?_ | refine Nw.drewN2 ?_ _ | (refine Nw.trans ?_ (by assumption))))⟩
      case measure => simp [intOf]; omega
    · obtain rfl : k = bs.length := by omega
      have hdk : decide (bs.length < bs.length) = false := decide_eq_false (by omega)
      rw [List.take_length]
      go_wp2
      go_ret
      exact ⟨rfl, hnr⟩

/-- A call hands back a set. -/
def HandsS (w : World) (s : List Wd) (e : Ending) (w' : World) : Prop := ∃ v, e = .returned v ∧ Words.Set w' v s ∧ Nw w w'
theorem ors_snoc (lo hi : Int) (bs : Bs) (k : Nat) (h : k < bs.length) : ors lo hi [] (bs.take (k + 1)) = if inn lo hi (off bs k) = true then or (ors lo hi [] (bs.take k)) (st bs k) else ors lo hi [] (bs.take k) := by
  rw [take_snoc bs k h]
  unfold ors
  rw [List.foldl_append]
  rfl
set_option maxRecDepth 20000 in
set_option maxHeartbeats 1600000 in
theorem some_w (lo hi : Int) (vl : Value) (bs : Bs) (w : World) (hv : Bks w vl bs) (hsm : Sm 1000000 1000000 bs) : Calls Try.prog 39 #[span lo hi, vl] w (HandsS w (someP lo hi bs)) := by
  have HM := hid (fun w' (h : Nw w w') => may_w lo hi vl bs w' (hv.nw h) hsm)
  obtain ⟨p, cap, rfl, hcap, hmx, hp0, hbc⟩ := hv
  unfold maxLen at hmx
  have HB := hid hbc
  have hln := hsm.n
  clear hbc
  by_cases hN : mayW lo hi bs = true
  · rw [hN] at HM
    have HOK := hid ((mayW_iff _ _ _).1 hN)
    have HR := hid (show someP lo hi bs = ors lo hi [] (bs.take bs.length) by unfold someP; rw [if_pos hN, List.take_length])
    clear hN
    go_enter Try.func39, Try.ntmps39
    unfold span at *
    go_wp2_with (first
      | (go_at_call 33; refine (HM.out _ (by repeat (first | assumption | exact Nw.refl _ | refine Nw.alloc ?_ _ | refine Nw.drew ?_ | refine Nw.drewN2 ?_ _ | (refine Nw.trans ?_ (by assumption))))).mono ?_; rintro e w1 ⟨rfl, hn1⟩)
      | fail)
    have x0 := hn1.cell (box2 w (.int .i64 lo) (.int .i64 hi) 26).1
    have x1 := hn1.cell (box2 w (.int .i64 lo) (.int .i64 hi) 26).2
    have hn : Nw w w1 := (by repeat (first | assumption | exact Nw.refl _ | refine Nw.alloc ?_ _ | refine Nw.drew ?_ | refine Nw.drewN2 ?_ _ | (refine Nw.trans ?_ (by assumption))))
    have hzw := World.block_lt_of_cell? w1 _ x0
    simp only at hzw
    clear hn1
    go_loopw [5, 7, 14] (fun v _ i wr => ∃ k : Nat, k ≤ bs.length ∧ i = .int .i64 k ∧ Words.Set wr v (ors lo hi [] (bs.take k)) ∧ Nw w1 wr) (fun _ _ i _ => bs.length - (intOf i).toNat)
    case atStart => exact ⟨0, Nat.zero_le _, rfl, Words.Set.nil _, Nw.refl _⟩
    case round =>
      obtain ⟨k, hk, rfl, hset, hnr⟩ := hrel
      have y0 := hnr.cell x0
      have y1 := hnr.cell x1
      have hz := World.block_lt_of_cell? wr _ y0
      simp only at hz
      by_cases hlt : k < bs.length
      · have hdk : decide (k < bs.length) = true := decide_eq_true hlt
        obtain ⟨b1, o1, vi, rfl, c0, c1, hsl⟩ := (HB.out.nw (hn.trans hnr)) k hlt
        obtain ⟨q, c', rfl⟩ := set_shape hsl
        have HT := hid (ors_snoc lo hi bs k hlt)
        have hol : (ors lo hi [] (bs.take k)).length ≤ 1000000 := ors_len _ _ (Nat.zero_le _) (take_sm hsm k).m
        have hsn := hsm.at k hlt
        have HIN := hid (fun w' => inn_c lo hi (off bs k) w')
        generalize st bs k = s at *
        generalize off bs k = ok at *
        generalize inn lo hi ok = b at *
        generalize ors lo hi [] (bs.take k) = so at *
        have HOR := hid (fun vo w' (h : Nw wr w') (hvo : Words.Set wr vo so) => or_c vo _ so s w' (hvo.nw h) (hsl.nw h) (Nat.le_trans hol (by decide)) (Nat.le_trans hsn (by decide)))
        obtain ⟨qo, co, rfl⟩ := set_shape hset
        clear hsl
        have hnz := (Nw.refl wr).alloc (.cells #[.int .i64 ok, .slice q s.length c'] 60)
        cases b with
        | false =>
          go_wp2_with (first
            | (go_at_call 35; refine (HIN.out _).mono ?_; rintro e w5 ⟨rfl, hn5⟩)
            | fail)
          go_roundw
          case rel => exact ⟨k + 1, by omega, by go_num, by rw [HT.out]; exact hset.nw (by repeat (first | assumption | exact Nw.refl _ | refine Nw.alloc ?_ _ | refine Nw.drew ?_ | refine Nw.drewN2 ?_ _ | (refine Nw.trans ?_ (by assumption)))), (by repeat (first | assumption | exact Nw.refl _ | refine Nw.alloc ?_ _ | refine Nw.drew ?_ | refine Nw.drewN2 ?_ _ | (refine Nw.trans ?_ (by assumption))))⟩
          case measure => simp [intOf]; omega
        | true =>
          go_wp2_with (first
            | (go_at_call 35; refine (HIN.out _).mono ?_; rintro e w5 ⟨rfl, hn5⟩; have z1 := hn5.cell (box2 wr (.int .i64 ok) (.slice q s.length c') 60).2)
            | (go_at_call 36; refine (HOR.out _ _ (hnz.trans hn5) hset).mono ?_; rintro e w6 ⟨v6, rfl, hs6, hk6, hn6⟩)
            | fail)
          go_roundw
          case rel => exact ⟨k + 1, by omega, by go_num, by rw [HT.out]; exact hs6, hnr.trans (hnz.trans (hn5.trans hn6))⟩
          case measure => simp [intOf]; omega
      · obtain rfl : k = bs.length := by omega
        have hdk : decide (bs.length < bs.length) = false := decide_eq_false (by omega)
        go_wp2
        go_ret
        exact ⟨_, rfl, by rw [HR.out]; exact hset, hn.trans hnr⟩
  · have HR := hid (show someP lo hi bs = [] by unfold someP; rw [if_neg hN])
    rw [Bool.not_eq_true] at hN
    rw [hN] at HM
    go_enter Try.func39, Try.ntmps39
    unfold span at *
    go_wp2_with (first
      | (go_at_call 33; refine (HM.out _ (by repeat (first | assumption | exact Nw.refl _ | refine Nw.alloc ?_ _ | refine Nw.drew ?_ | refine Nw.drewN2 ?_ _ | (refine Nw.trans ?_ (by assumption))))).mono ?_; rintro e w1 ⟨rfl, hn1⟩)
      | fail)
    go_ret
    exact ⟨_, rfl, by rw [HR.out]; exact Words.Set.nil _, (by repeat (first | assumption | exact Nw.refl _ | refine Nw.alloc ?_ _ | refine Nw.drew ?_ | refine Nw.drewN2 ?_ _ | (refine Nw.trans ?_ (by assumption))))⟩

set_option maxRecDepth 20000 in
set_option maxHeartbeats 1600000 in
theorem rsome_w (lo hi : Int) (vl : Value) (bs : Bs) (w : World) (hv : Bks w vl bs) (hsm : Sm 1000000 1000000 bs) : Calls Try.prog 62 #[span lo hi, vl] w (HandsS w (someP lo hi bs)) := by
  have HM := hid (fun w' (h : Nw w w') => rmay_w lo hi vl bs w' (hv.nw h) hsm)
  obtain ⟨p, cap, rfl, hcap, hmx, hp0, hbc⟩ := hv
  unfold maxLen at hmx
  have HB := hid hbc
  have hln := hsm.n
  clear hbc
  by_cases hN : mayW lo hi bs = true
  · rw [hN] at HM
    have HOK := hid ((mayW_iff _ _ _).1 hN)
    have HR := hid (show someP lo hi bs = ors lo hi [] (bs.take bs.length) by unfold someP; rw [if_pos hN, List.take_length])
    clear hN
    go_enter Try.func62, Try.ntmps62
    unfold span at *
    go_wp2_with (first
      | (go_at_call 60; refine (HM.out _ (by repeat (first | assumption | exact Nw.refl _ | refine Nw.alloc ?_ _ | refine Nw.drew ?_ | refine Nw.drewN2 ?_ _ | (refine Nw.trans ?_ (by assumption))))).mono ?_; rintro e w1 ⟨rfl, hn1⟩)
      | fail)
    have x0 := hn1.cell (box2 w (.int .i64 lo) (.int .i64 hi) 26).1
    have x1 := hn1.cell (box2 w (.int .i64 lo) (.int .i64 hi) 26).2
    have hn : Nw w w1 := (by repeat (first | assumption | exact Nw.refl _ | refine Nw.alloc ?_ _ | refine Nw.drew ?_ | refine Nw.drewN2 ?_ _ | (refine Nw.trans ?_ (by assumption))))
    have hzw := World.block_lt_of_cell? w1 _ x0
    simp only at hzw
    clear hn1
    go_loopw [5, 7, 14] (fun v _ i wr => ∃ k : Nat, k ≤ bs.length ∧ i = .int .i64 k ∧ Words.Set wr v (ors lo hi [] (bs.take k)) ∧ Nw w1 wr) (fun _ _ i _ => bs.length - (intOf i).toNat)
    case atStart => exact ⟨0, Nat.zero_le _, rfl, Words.Set.nil _, Nw.refl _⟩
    case round =>
      obtain ⟨k, hk, rfl, hset, hnr⟩ := hrel
      have y0 := hnr.cell x0
      have y1 := hnr.cell x1
      have hz := World.block_lt_of_cell? wr _ y0
      simp only at hz
      by_cases hlt : k < bs.length
      · have hdk : decide (k < bs.length) = true := decide_eq_true hlt
        obtain ⟨b1, o1, vi, rfl, c0, c1, hsl⟩ := (HB.out.nw (hn.trans hnr)) k hlt
        obtain ⟨q, c', rfl⟩ := set_shape hsl
        have HT := hid (ors_snoc lo hi bs k hlt)
        have hol : (ors lo hi [] (bs.take k)).length ≤ 1000000 := ors_len _ _ (Nat.zero_le _) (take_sm hsm k).m
        have hsn := hsm.at k hlt
        have HIN := hid (fun w' => rinn_c lo hi (off bs k) w')
        generalize st bs k = s at *
        generalize off bs k = ok at *
        generalize inn lo hi ok = b at *
        generalize ors lo hi [] (bs.take k) = so at *
        have HOR := hid (fun vo w' (h : Nw wr w') (hvo : Words.Set wr vo so) => ror_c vo _ so s w' (hvo.nw h) (hsl.nw h) (Nat.le_trans hol (by decide)) (Nat.le_trans hsn (by decide)))
        obtain ⟨qo, co, rfl⟩ := set_shape hset
        clear hsl
        have hnz := (Nw.refl wr).alloc (.cells #[.int .i64 ok, .slice q s.length c'] 60)
        cases b with
        | false =>
          go_wp2_with (first
            | (go_at_call 72; refine (HIN.out _).mono ?_; rintro e w5 ⟨rfl, hn5⟩)
            | fail)
          go_roundw
          case rel => exact ⟨k + 1, by omega, by go_num, by rw [HT.out]; exact hset.nw (by repeat (first | assumption | exact Nw.refl _ | refine Nw.alloc ?_ _ | refine Nw.drew ?_ | refine Nw.drewN2 ?_ _ | (refine Nw.trans ?_ (by assumption)))), (by repeat (first | assumption | exact Nw.refl _ | refine Nw.alloc ?_ _ | refine Nw.drew ?_ | refine Nw.drewN2 ?_ _ | (refine Nw.trans ?_ (by assumption))))⟩
          case measure => simp [intOf]; omega
        | true =>
          go_wp2_with (first
            | (go_at_call 72; refine (HIN.out _).mono ?_; rintro e w5 ⟨rfl, hn5⟩; have z1 := hn5.cell (box2 wr (.int .i64 ok) (.slice q s.length c') 60).2)
            | (go_at_call 68; refine (HOR.out _ _ (hnz.trans hn5) hset).mono ?_; rintro e w6 ⟨v6, rfl, hs6, hk6, hn6⟩)
            | fail)
          go_roundw
          case rel => exact ⟨k + 1, by omega, by go_num, by rw [HT.out]; exact hs6, hnr.trans (hnz.trans (hn5.trans hn6))⟩
          case measure => simp [intOf]; omega
      · obtain rfl : k = bs.length := by omega
        have hdk : decide (bs.length < bs.length) = false := decide_eq_false (by omega)
        go_wp2
        go_ret
        exact ⟨_, rfl, by rw [HR.out]; exact hset, hn.trans hnr⟩
  · have HR := hid (show someP lo hi bs = [] by unfold someP; rw [if_neg hN])
    rw [Bool.not_eq_true] at hN
    rw [hN] at HM
    go_enter Try.func62, Try.ntmps62
    unfold span at *
    go_wp2_with (first
      | (go_at_call 60; refine (HM.out _ (by repeat (first | assumption | exact Nw.refl _ | refine Nw.alloc ?_ _ | refine Nw.drew ?_ | refine Nw.drewN2 ?_ _ | (refine Nw.trans ?_ (by assumption))))).mono ?_; rintro e w1 ⟨rfl, hn1⟩)
      | fail)
    go_ret
    exact ⟨_, rfl, by rw [HR.out]; exact Words.Set.nil _, (by repeat (first | assumption | exact Nw.refl _ | refine Nw.alloc ?_ _ | refine Nw.drew ?_ | refine Nw.drewN2 ?_ _ | (refine Nw.trans ?_ (by assumption))))⟩

end Wn
end Go.Proofs.Ythellicimicieaa
