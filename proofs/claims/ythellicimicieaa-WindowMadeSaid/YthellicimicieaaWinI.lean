/- The contracts of SameBuckets and of the reference's Shift. No condition but lengths. -/
import Derived.Test.YthellicimicieaaWinH
set_option linter.unusedSimpArgs false
set_option linter.unusedVariables false
namespace Go.Proofs.Ythellicimicieaa
open Go.ChangeShapes Go.WideShapes Go.ChangeAt Go.RowKit
namespace Wn
open Ival Words
theorem same_next {a b : Bs} {k : Nat} (h : a.take k = b.take k) (h1 : k < a.length) (h2 : k < b.length) (ho : off a k = off b k) (hs : st a k = st b k) : a.take (k + 1) = b.take (k + 1) := by
  rw [take_snoc a k h1, take_snoc b k h2, h, ho, hs]
theorem same_no {a b : Bs} {k : Nat} (h : off a k ≠ off b k ∨ st a k ≠ st b k) : decide (a = b) = false := decide_eq_false fun e => by subst e; rcases h with h | h <;> exact h rfl
theorem bc_shape {w : World} {p : Option Addr} {bs : Bs} (h : BC w p bs) (k : Nat) (hk : k < bs.length) : ∃ b oo q c, p = some ⟨b, oo, none⟩ ∧ w.cell? ⟨b, oo + k * 2, none⟩ = some (.int .i64 (off bs k)) ∧ w.cell? ⟨b, oo + k * 2 + 1, none⟩ = some (.slice q (st bs k).length c) ∧ Words.Set w (.slice q (st bs k).length c) (st bs k) := by
  obtain ⟨b, oo, vi, e, h1, h2, h3⟩ := h k hk
  obtain ⟨q, c, rfl⟩ := set_shape h3
  exact ⟨b, oo, q, c, e, h1, h2, h3⟩
set_option maxRecDepth 20000 in
set_option maxHeartbeats 3200000 in
theorem sameb_w (u v : Value) (a b : Bs) (w : World) (hu : Bks w u a) (hv : Bks w v b) (hla : a.length ≤ 1000000) (hlb : b.length ≤ 1000000) : Calls Try.prog 16 #[u, v] w (Gives (.bool (decide (a = b))) w) := by
  obtain ⟨p, cap, rfl, hcap, hmx, hp0, hbc⟩ := hu
  obtain ⟨p2, cap2, rfl, hcap2, hmx2, hp02, hbc2⟩ := hv
  unfold maxLen at hmx hmx2
  have HA := hid hbc
  have HB := hid hbc2
  clear hbc hbc2
  by_cases hll : a.length = b.length
  · have hd0 : ((a.length : Int) != (b.length : Int)) = false := by rw [hll]; simp
    have HLL := hid hll
    clear hll
    go_enter Try.func16, Try.ntmps16
    go_wp2
    go_loopw [5, 13] (fun _ i wr => ∃ k : Nat, k ≤ a.length ∧ i = .int .i64 k ∧ Hid (a.take k = b.take k) ∧ Nw w wr) (fun _ i _ => a.length - (intOf i).toNat)
    case atStart => exact ⟨0, Nat.zero_le _, rfl, hid rfl, Nw.refl _⟩
    case round =>
      obtain ⟨k, hk, rfl, hu, hnr⟩ := hrel
      by_cases hlt : k < a.length
      · have hdk : decide (k < a.length) = true := decide_eq_true hlt
        have hlt2 : k < b.length := by rw [← HLL.out]; exact hlt
        obtain ⟨b1, o1, q1, c1, rfl, d0, d1, hs1⟩ := bc_shape (HA.out.nw hnr) k hlt
        obtain ⟨b2, o2, q2, c2, rfl, e0, e1, hs2⟩ := bc_shape (HB.out.nw hnr) k hlt2
        have g1 := World.block_lt_of_cell? wr _ d0
        have g2 := World.block_lt_of_cell? wr _ e0
        simp only at g1 g2
        have HNO := hid (fun h => same_no (a := a) (b := b) (k := k) h)
        have HYE := hid (fun h1 h2 => same_next (a := a) (b := b) (k := k) hu.out hlt hlt2 h1 h2)
        have HSW := hid (fun w' (h : Nw wr w') => samewords_c _ _ (st a k) (st b k) w' (hs1.nw h) (hs2.nw h))
        clear hs1 hs2 hu
        by_cases h1 : off a k = off b k
        · have hd1 : (off a k != off b k) = false := by rw [h1]; simp
          by_cases h2 : st a k = st b k
          · rw [decide_eq_true h2] at HSW
            have HF := hid (HYE.out h1 h2)
            clear h2 HYE HNO
            rw [← h1] at e0 hd1
            clear h1
            generalize off a k = oa at *
            generalize st a k = sa at *
            generalize st b k = sb at *
            go_upto_region 6 with fail
            refine wp_region_stairs (by kernel_rfl) (by kernel_rfl) (by kernel_rfl) ?_
            iterate 25
              refine Stairs.is ?_ ?_ ?_
              rotate_left 1
              · intro x wR hR hd K hK
                simp only [Act.put, List.setIfInBounds_toArray, List.set_cons_zero, List.set_cons_succ, Nat.reduceAdd, List.length_nil, List.length_cons, List.nil_append, List.cons_append, Say.ok] at hK ⊢
                clear hd
                change Hid _ at hK
                obtain ⟨hcR, hfR, hzR⟩ := nwc hR
                first | (refine wanted_yes ?_ ?_; rfl) | (refine wanted_no ?_ ?_; rfl)
                go_wp2_with (first 
              | (go_at_call 26; refine (HSW.out _ (by repeat (first | assumption | exact Nw.refl _ | refine Nw.alloc ?_ _ | refine Nw.drew ?_ | refine Nw.drewN2 ?_ _ | (refine Nw.trans ?_ (by assumption))))).mono ?_; rintro e w5 ⟨rfl, hn5⟩))
                all_goals (refine hK.out _ _ ?_ ?_ <;> first | (solve | (repeat (first | assumption | exact Nw.refl _ | refine Nw.alloc ?_ _ | refine Nw.drew ?_ | refine Nw.drewN2 ?_ _ | (refine Nw.trans ?_ (by assumption))))) | exact rfl)
              try simp only [Act.put, List.setIfInBounds_toArray, List.set_cons_zero, List.set_cons_succ, Nat.reduceAdd, List.length_nil, List.length_cons, List.nil_append, List.cons_append]
            refine Stairs.nil ?_
            intro x wR hR hx
            clear hx
            obtain ⟨hcR, hfR, hzR⟩ := nwc hR
            go_wp2
            go_roundw
            case rel => exact ⟨k + 1, by omega, by go_num, HF, hnr.trans hR⟩
            case measure => simp [intOf]; omega
          · rw [decide_eq_false h2] at HSW
            have HF := hid (HNO.out (Or.inr h2))
            clear h2 HYE HNO
            rw [← h1] at e0 hd1
            clear h1
            generalize off a k = oa at *
            generalize st a k = sa at *
            generalize st b k = sb at *
            go_upto_region 6 with fail
            refine wp_region_stairs (by kernel_rfl) (by kernel_rfl) (by kernel_rfl) ?_
            iterate 25
              refine Stairs.is ?_ ?_ ?_
              rotate_left 1
              · intro x wR hR hd K hK
                simp only [Act.put, List.setIfInBounds_toArray, List.set_cons_zero, List.set_cons_succ, Nat.reduceAdd, List.length_nil, List.length_cons, List.nil_append, List.cons_append, Say.ok] at hK ⊢
                clear hd
                change Hid _ at hK
                obtain ⟨hcR, hfR, hzR⟩ := nwc hR
                first | (refine wanted_yes ?_ ?_; rfl) | (refine wanted_no ?_ ?_; rfl)
                go_wp2_with (first 
              | (go_at_call 26; refine (HSW.out _ (by repeat (first | assumption | exact Nw.refl _ | refine Nw.alloc ?_ _ | refine Nw.drew ?_ | refine Nw.drewN2 ?_ _ | (refine Nw.trans ?_ (by assumption))))).mono ?_; rintro e w5 ⟨rfl, hn5⟩))
                all_goals (refine hK.out _ _ ?_ ?_ <;> first | (solve | (repeat (first | assumption | exact Nw.refl _ | refine Nw.alloc ?_ _ | refine Nw.drew ?_ | refine Nw.drewN2 ?_ _ | (refine Nw.trans ?_ (by assumption))))) | exact rfl)
              try simp only [Act.put, List.setIfInBounds_toArray, List.set_cons_zero, List.set_cons_succ, Nat.reduceAdd, List.length_nil, List.length_cons, List.nil_append, List.cons_append]
            refine Stairs.nil ?_
            intro x wR hR hx
            clear hx
            obtain ⟨hcR, hfR, hzR⟩ := nwc hR
            go_wp2
            go_ret
            exact Gives.b HF.out.symm (hnr.trans hR)
        · have hd1 : (off a k != off b k) = true := by simpa using h1
          have HF := hid (HNO.out (Or.inl h1))
          clear h1 HYE HNO
          generalize off a k = oa at *
          generalize off b k = ob at *
          generalize st a k = sa at *
          generalize st b k = sb at *
          go_upto_region 6 with fail
          refine wp_region_stairs (by kernel_rfl) (by kernel_rfl) (by kernel_rfl) ?_
          iterate 25
            refine Stairs.is ?_ ?_ ?_
            rotate_left 1
            · intro x wR hR hd K hK
              simp only [Act.put, List.setIfInBounds_toArray, List.set_cons_zero, List.set_cons_succ, Nat.reduceAdd, List.length_nil, List.length_cons, List.nil_append, List.cons_append, Say.ok] at hK ⊢
              clear hd
              change Hid _ at hK
              obtain ⟨hcR, hfR, hzR⟩ := nwc hR
              first | (refine wanted_yes ?_ ?_; rfl) | (refine wanted_no ?_ ?_; rfl)
              go_wp2_with (first 
            | (go_at_call 26; refine (HSW.out _ (by repeat (first | assumption | exact Nw.refl _ | refine Nw.alloc ?_ _ | refine Nw.drew ?_ | refine Nw.drewN2 ?_ _ | (refine Nw.trans ?_ (by assumption))))).mono ?_; rintro e w5 ⟨rfl, hn5⟩))
              all_goals (refine hK.out _ _ ?_ ?_ <;> first | (solve | (repeat (first | assumption | exact Nw.refl _ | refine Nw.alloc ?_ _ | refine Nw.drew ?_ | refine Nw.drewN2 ?_ _ | (refine Nw.trans ?_ (by assumption))))) | exact rfl)
            try simp only [Act.put, List.setIfInBounds_toArray, List.set_cons_zero, List.set_cons_succ, Nat.reduceAdd, List.length_nil, List.length_cons, List.nil_append, List.cons_append]
          refine Stairs.nil ?_
          intro x wR hR hx
          clear hx
          obtain ⟨hcR, hfR, hzR⟩ := nwc hR
          go_wp2
          go_ret
          exact Gives.b HF.out.symm (hnr.trans hR)
      · obtain rfl : k = a.length := by omega
        have hdk : decide (a.length < a.length) = false := decide_eq_false (by omega)
        have HF := hid (show decide (a = b) = true from decide_eq_true (by
          have := hu.out
          rwa [List.take_length, List.take_of_length_le (by rw [HLL.out]; exact Nat.le_refl _)] at this))
        go_wp2
        go_ret
        exact Gives.b HF.out.symm hnr
  · have hd0 : ((a.length : Int) != (b.length : Int)) = true := by simp; omega
    have HF := hid (show decide (a = b) = false from decide_eq_false fun e => hll (by rw [e]))
    clear hll
    go_enter Try.func16, Try.ntmps16
    go_wp2
    go_ret
    exact Gives.b HF.out.symm (by repeat (first | assumption | exact Nw.refl _ | refine Nw.alloc ?_ _ | refine Nw.drew ?_ | refine Nw.drewN2 ?_ _ | (refine Nw.trans ?_ (by assumption))))
/-! ### The reference's Shift -/
theorem up_at {lo hi d : Int} (hd : 0 ≤ d) {bs : Bs} (h : Ok lo hi bs) : ∀ k, k ≤ bs.length → Up lo hi d (pushes lo hi d [] (bs.take k)) (bs.drop k)
  | 0, _ => by rw [List.take_zero, List.drop_zero]; exact Up.start h.may
  | k + 1, hk => by
    have ih := up_at hd h k (by omega)
    have e : bs.drop k = (off bs k, st bs k) :: bs.drop (k + 1) := by
      rw [List.drop_eq_getElem_cons (show k < bs.length by omega)]
      congr 1
      simp [off, st, List.getD_eq_getElem?_getD, show k < bs.length by omega]
    rw [e] at ih
    rw [pushes_snoc lo hi d bs k (by omega)]
    have hr := h.ris.drop (i := k)
    rw [e] at hr
    exact ih.step hd (List.pairwise_cons.1 hr).1 (h.bd _ (off_mem (by omega))).2.2
theorem add_at {lo hi d : Int} (hd : 0 ≤ d) {bs : Bs} (h : Ok lo hi bs) (k : Nat) (hk : k < bs.length) (hc : 0 ≤ later lo hi (off bs k) d) : addP lo hi (pushes lo hi d [] (bs.take k)) (later lo hi (off bs k) d) (st bs k) = pushes lo hi d [] (bs.take (k + 1)) := by
  have ih := up_at hd h k (by omega)
  have e : bs.drop k = (off bs k, st bs k) :: bs.drop (k + 1) := by
    rw [List.drop_eq_getElem_cons hk]
    congr 1
    simp [off, st, List.getD_eq_getElem?_getD, hk]
  rw [e] at ih
  rw [pushes_snoc lo hi d bs k hk]
  exact add_push ih hd hc (h.bd _ (off_mem hk)).2.2
set_option maxRecDepth 20000 in
set_option maxHeartbeats 3200000 in
theorem rshift_w (lo hi d : Int) (vl : Value) (bs : Bs) (w : World) (hv : Bks w vl bs) (hsm : Sm 1000000 1000000 bs) (hd : 0 ≤ d ∧ d ≤ 18446744073709551615) (hlo : -9223372036854775808 ≤ lo ∧ lo ≤ 9223372036854775807) :
    Calls Try.prog 61 #[span lo hi, vl, .int .u64 d] w (HandsB w (shiftP lo hi bs d)) := by
  have HM := hid (fun w' (h : Nw w w') => rmay_w lo hi vl bs w' (hv.nw h) hsm)
  obtain ⟨p, cap, rfl, hcap, hmx, hp0, hbc⟩ := hv
  unfold maxLen at hmx
  have HB := hid hbc
  have hln := hsm.n
  clear hbc
  by_cases hN : mayW lo hi bs = true
  · rw [hN] at HM
    have HOK := hid ((mayW_iff _ _ _).1 hN)
    have HR := hid (show shiftP lo hi bs d = pushes lo hi d [] (bs.take bs.length) by unfold shiftP; rw [if_pos hN, List.take_length])
    clear hN
    go_enter Try.func61, Try.ntmps61
    unfold span at *
    go_wp2_with (first
      | (go_at_call 60; refine (HM.out _ (by repeat (first | assumption | exact Nw.refl _ | refine Nw.alloc ?_ _ | refine Nw.drew ?_ | refine Nw.drewN2 ?_ _ | (refine Nw.trans ?_ (by assumption))))).mono ?_; rintro e w1 ⟨rfl, hn1⟩)
      | fail)
    have x0 := hn1.cell (box2 w (.int .i64 lo) (.int .i64 hi) 26).1
    have x1 := hn1.cell (box2 w (.int .i64 lo) (.int .i64 hi) 26).2
    have hn : Nw w w1 := (by repeat (first | assumption | exact Nw.refl _ | refine Nw.alloc ?_ _ | refine Nw.drew ?_ | refine Nw.drewN2 ?_ _ | (refine Nw.trans ?_ (by assumption))))
    have hzw := World.block_lt_of_cell? w1 _ x0
    simp only at hzw
    clear hn1
    go_loopw [7, 9, 10, 17] (fun v _ _ i wr => ∃ k : Nat, k ≤ bs.length ∧ i = .int .i64 k ∧ BkOwn wr w1.heap.size v (pushes lo hi d [] (bs.take k)) ∧ Nw w1 wr) (fun _ _ _ i _ => bs.length - (intOf i).toNat)
    case atStart => exact ⟨0, Nat.zero_le _, rfl, BkOwn.nil _ _, Nw.refl _⟩
    case round =>
      obtain ⟨k, hk, rfl, ho, hnr⟩ := hrel
      have hnw := hn.trans hnr
      have y0 := hnr.cell x0
      have y1 := hnr.cell x1
      have hz := World.block_lt_of_cell? wr _ y0
      simp only at hz
      by_cases hlt : k < bs.length
      · have hdk : decide (k < bs.length) = true := decide_eq_true hlt
        obtain ⟨b1, o1, q, c', rfl, c0, c1', hsl⟩ := bc_shape (HB.out.nw hnw) k hlt
        have HT := hid (pushes_snoc lo hi d bs k hlt)
        have HAT := hid (fun h => add_at hd.1 HOK.out k hlt h)
        have hsn := hsm.at k hlt
        have hso := (pushes_sm' (lo := lo) (hi := hi) (d := d) hsm k)
        have hob := (HOK.out.bd _ (off_mem hlt))
        dsimp only at hob
        have HLT := hid (fun w' => rlater_c lo hi (off bs k) d w' (by have := wide_bd lo hi; omega) hd hlo)
        have HSL := hid hsl
        clear hsl hob
        generalize hg2 : pushes lo hi d [] (bs.take (k + 1)) = out2 at *
        have HG2 := hid hg2
        clear hg2
        generalize st bs k = s at *
        generalize off bs k = ok at *
        generalize later lo hi ok d = c at *
        generalize pushes lo hi d [] (bs.take k) = out at *
        have hnz := (Nw.refl wr).alloc (.cells #[.int .i64 ok, .slice q s.length c'] 60)
        obtain ⟨z0, z1⟩ := box2 wr (.int .i64 ok) (.slice q s.length c') 60
        have HAD := hid (fun v w' (h : Nw wr w') (hv : BkOwn wr w1.heap.size v out) => radd_w lo hi c v _ out s w' (hv.bks.nw h) hso (HSL.out.nw h) hsn)
        obtain ⟨qo, co, rfl⟩ := ho.shape rfl
        by_cases hc0 : c < 0
        · have hd1 : decide (0 ≤ c) = false := decide_eq_false (by omega)
          have HP := hid (show push out c s = out from if_pos hc0)
          clear hc0
          go_wp2_with (first
            | (go_at_call 71; refine (HLT.out _).mono ?_; rintro e w2 ⟨rfl, hn2⟩)
            | fail)
          go_roundw
          case rel => exact ⟨k + 1, by omega, by go_num, by rw [HG2.out, HT.out, HP.out]; exact ho.nw (by repeat (first | assumption | exact Nw.refl _ | refine Nw.alloc ?_ _ | refine Nw.drew ?_ | refine Nw.drewN2 ?_ _ | (refine Nw.trans ?_ (by assumption)))), (by repeat (first | assumption | exact Nw.refl _ | refine Nw.alloc ?_ _ | refine Nw.drew ?_ | refine Nw.drewN2 ?_ _ | (refine Nw.trans ?_ (by assumption))))⟩
          case measure => simp [intOf]; omega
        · have hd1 : decide (0 ≤ c) = true := decide_eq_true (by omega)
          have HP := hid (HAT.out (by omega))
          rw [HP.out] at HAD
          clear hc0 HAT HP HT
          go_wp2_with (first
            | (go_at_call 71; refine (HLT.out _).mono ?_; rintro e w2 ⟨rfl, hn2⟩; have y0 := (hnz.trans hn2).cell y0; have y1 := (hnz.trans hn2).cell y1; have z1 := hn2.cell z1)
            | (go_at_call 45; refine (HAD.out _ _ (hnz.trans hn2) ho).mono ?_; rintro e w3 ⟨v3, rfl, ho3, hn3⟩)
            | fail)
          go_roundw
          case rel => exact ⟨k + 1, by omega, by go_num, by rw [HG2.out]; exact ho3.mono (Nat.le_trans hnr.size (hnz.trans hn2).size), hnr.trans ((hnz.trans hn2).trans hn3)⟩
          case measure => simp [intOf]; omega
      · obtain rfl : k = bs.length := by omega
        have hdk : decide (bs.length < bs.length) = false := decide_eq_false (by omega)
        go_wp2
        go_ret
        exact ⟨_, rfl, by rw [HR.out]; exact ho.mono hn.size, hnw⟩
  · have HR := hid (show shiftP lo hi bs d = [] by unfold shiftP; rw [if_neg hN])
    rw [Bool.not_eq_true] at hN
    rw [hN] at HM
    go_enter Try.func61, Try.ntmps61
    unfold span at *
    go_wp2_with (first
      | (go_at_call 60; refine (HM.out _ (by repeat (first | assumption | exact Nw.refl _ | refine Nw.alloc ?_ _ | refine Nw.drew ?_ | refine Nw.drewN2 ?_ _ | (refine Nw.trans ?_ (by assumption))))).mono ?_; rintro e w1 ⟨rfl, hn1⟩)
      | fail)
    go_ret
    exact ⟨_, rfl, by rw [HR.out]; exact BkOwn.nil _ _, (by repeat (first | assumption | exact Nw.refl _ | refine Nw.alloc ?_ _ | refine Nw.drew ?_ | refine Nw.drewN2 ?_ _ | (refine Nw.trans ?_ (by assumption))))⟩
end Wn
end Go.Proofs.Ythellicimicieaa
