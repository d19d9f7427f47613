/- The contracts of May and MayWindow. No condition but lengths. -/
import Derived.Test.YthellicimicieaaWinC
set_option linter.unusedSimpArgs false
set_option linter.unusedVariables false
namespace Go.Proofs.Ythellicimicieaa
open Go.ChangeShapes Go.WideShapes Go.ChangeAt Go.RowKit
namespace Wn
open Ival Words
theorem to_succ (p : Nat → Bool) (k : Nat) : (List.range (k + 1)).all p = ((List.range k).all p && p k) := by
  rw [List.range_succ, List.all_append]; simp
theorem to_no (p : Nat → Bool) (n i : Nat) (h : i < n) (hn : p i = false) : (List.range n).all p = false := by
  cases hb : (List.range n).all p with
  | false => rfl
  | true => rw [List.all_eq_true] at hb; have := hb i (by simpa using h); rw [hn] at this; cases this
def lastO (bs : Bs) (k : Nat) : Int := if k = 0 then -1 else off bs (k - 1)
theorem lastO_succ (bs : Bs) (k : Nat) : lastO bs (k + 1) = off bs k := by unfold lastO; rw [if_neg (by omega), Nat.add_sub_cancel]
theorem mayTo_prev {lo hi : Int} {bs : Bs} {k : Nat} (h : mayTo lo hi bs k = true) : -1 ≤ lastO bs k := by
  unfold lastO
  by_cases h0 : k = 0
  · rw [if_pos h0]; omega
  · rw [if_neg h0]
    unfold mayTo at h
    rw [List.all_eq_true] at h
    have := h (k - 1) (List.mem_range.2 (by omega))
    unfold bOk at this
    rw [Bool.and_eq_true, decide_eq_true_eq] at this
    omega
theorem bOk_lo {lo hi : Int} {bs : Bs} {k : Nat} (h : mayTo lo hi bs k = true) (h1 : off bs k ≤ lastO bs k) : bOk lo hi bs k = false := by
  unfold bOk
  unfold lastO at h1
  by_cases h0 : k = 0
  · rw [if_pos h0] at h1; rw [decide_eq_false (by omega)]; rfl
  · rw [if_neg h0] at h1
    rw [decide_eq_false h0, decide_eq_false (show ¬ off bs (k - 1) < off bs k by omega)]
    simp
theorem bOk_neg {lo hi : Int} {bs : Bs} {k : Nat} (h1 : off bs k < 0) : bOk lo hi bs k = false := by
  unfold bOk; rw [decide_eq_false (by omega)]; rfl
theorem bOk_hi {lo hi : Int} {bs : Bs} {k : Nat} (h1 : wide lo hi ≤ off bs k) : bOk lo hi bs k = false := by
  unfold bOk; rw [decide_eq_false (show ¬ off bs k < wide lo hi by omega)]; simp
theorem bOk_st {lo hi : Int} {bs : Bs} {k : Nat} (h1 : trim (st bs k) = []) : bOk lo hi bs k = false := by
  unfold bOk; rw [decide_eq_true h1]; simp
theorem bOk_pr {lo hi : Int} {bs : Bs} {k : Nat} (h0 : 0 < k) (h1 : off bs k ≤ off bs (k - 1)) : bOk lo hi bs k = false := by
  unfold bOk; rw [decide_eq_false (show ¬ k = 0 by omega), decide_eq_false (show ¬ off bs (k - 1) < off bs k by omega)]; simp
theorem bOk_yes {lo hi : Int} {bs : Bs} {k : Nat} (h0 : 0 ≤ off bs k) (h1 : off bs k < wide lo hi) (h2 : trim (st bs k) ≠ []) (h3 : k = 0 ∨ off bs (k - 1) < off bs k) : bOk lo hi bs k = true := by
  unfold bOk
  rw [decide_eq_true h0, decide_eq_true h1, decide_eq_false h2]
  rcases h3 with h3 | h3
  · rw [decide_eq_true h3]; rfl
  · rw [decide_eq_true h3]; simp
theorem bOk_yes' {lo hi : Int} {bs : Bs} {k : Nat} (h : mayTo lo hi bs k = true) (h0 : ¬ off bs k ≤ lastO bs k) (h1 : off bs k < wide lo hi) (h2 : trim (st bs k) ≠ []) : bOk lo hi bs k = true := by
  have hp := mayTo_prev h
  refine bOk_yes (by omega) h1 h2 ?_
  unfold lastO at h0
  by_cases hk : k = 0
  · exact Or.inl hk
  · rw [if_neg hk] at h0; exact Or.inr (by omega)
theorem may_fail {lo hi : Int} {bs : Bs} {k : Nat} (h : k < bs.length) (hn : bOk lo hi bs k = false) : mayW lo hi bs = false := by
  unfold mayW mayTo; rw [to_no _ _ _ h hn, Bool.and_false]
def SetS (s : List Wd) : Says := fun w v => ∃ q c, v = .slice q s.length c ∧ Words.Set w (.slice q s.length c) s
theorem SetS.stab (s : List Wd) : Stab (SetS s) := fun _ _ _ ⟨q, c, e, h⟩ hn => ⟨q, c, e, h.nw hn⟩
theorem set_shape {w : World} {v : Value} {s : List Wd} (h : Words.Set w v s) : ∃ q c, v = .slice q s.length c := by
  obtain ⟨q, c, e, _⟩ := h.open
  exact ⟨q, c, e⟩
set_option maxRecDepth 20000 in
set_option maxHeartbeats 1600000 in
theorem may_w (lo hi : Int) (vl : Value) (bs : Bs) (w : World) (hv : Bks w vl bs) (hsm : Sm 1000000 1000000 bs) : Calls Try.prog 33 #[span lo hi, vl] w (Gives (.bool (mayW lo hi bs)) w) := by
  obtain ⟨p, cap, rfl, hcap, hmx, hp0, hbc⟩ := hv
  unfold maxLen at hmx
  have HB := hid hbc
  have HM := hid (fun w' => may_c lo hi w')
  have HW := hid (fun w' => wide_c lo hi w')
  have hln := hsm.n
  clear hbc
  by_cases hN : may lo hi = true
  · rw [hN] at HM
    go_enter Try.func33, Try.ntmps33
    unfold span at *
    go_wp2_with (first
      | (go_at_call 55; refine (HM.out _).mono ?_; rintro e w1 ⟨rfl, hn1⟩; obtain ⟨hc1, hf1, hz1⟩ := nwc hn1)
      | fail)
    have x0 := hn1.cell (box2 w (.int .i64 lo) (.int .i64 hi) 26).1
    have x1 := hn1.cell (box2 w (.int .i64 lo) (.int .i64 hi) 26).2
    have hn : Nw w w1 := (by repeat (first | assumption | exact Nw.refl _ | refine Nw.alloc ?_ _ | refine Nw.drew ?_ | refine Nw.drewN2 ?_ _ | (refine Nw.trans ?_ (by assumption))))
    clear hc1 hf1 hz1 hn1
    go_loopw [5, 7, 13] (fun la _ i wr => ∃ k : Nat, k ≤ bs.length ∧ i = .int .i64 k ∧ la = .int .i64 (lastO bs k) ∧ Hid (mayTo lo hi bs k = true) ∧ Nw w1 wr) (fun _ _ i _ => bs.length - (intOf i).toNat)
    case atStart => exact ⟨0, Nat.zero_le _, rfl, rfl, hid rfl, Nw.refl _⟩
    case round =>
      obtain ⟨k, hk, rfl, rfl, hu, hnr⟩ := hrel
      rename_i K3 a3
      have A3 := hid a3
      clear a3
      have hnw := hn.trans hnr
      have y0 := hnr.cell x0
      have y1 := hnr.cell x1
      have hz := World.block_lt_of_cell? wr _ y0
      simp only at hz
      by_cases hlt : k < bs.length
      · have hdk : decide (k < bs.length) = true := decide_eq_true hlt
        obtain ⟨b1, o1, vi, rfl, c0, c1, hsl⟩ := (HB.out.nw hnw) k hlt
        obtain ⟨q, c, rfl⟩ := set_shape hsl
        have HL2 := hid (lastO_succ bs k)
        have HNO := hid (show bOk lo hi bs k = false → mayW lo hi bs = false from fun h => may_fail hlt h)
        have HYE := hid (show bOk lo hi bs k = true → mayTo lo hi bs (k + 1) = true from fun h => by rw [mayTo, to_succ]; rw [h, Bool.and_true]; exact hu.out)
        have HSL := hid (fun w' (h : Nw wr w') => plain_c _ (st bs k) w' (hsl.nw h) (Nat.le_trans (hsm.at k hlt) (by decide)))
        clear hsl
        by_cases h1 : off bs k ≤ lastO bs k
        · have HF := hid (HNO.out (bOk_lo hu.out h1))
          have hd1 : decide (off bs k ≤ lastO bs k) = true := decide_eq_true h1
          clear h1 hu
          clear HNO HYE
          generalize hl : st bs k = s at *
          generalize off bs k = ok at *
          generalize lastO bs k = la at *
          generalize wide lo hi = W at *
          clear hl
          generalize trim s = ts at *
          go_upto_region 7 with fail
          rename_i Q' K2 a2 K1 a1
          have A1 := hid a1
          have A2 := hid a2
          clear a1 a2
          have hnz := (Nw.refl wr).alloc (.cells #[.int .i64 ok, .slice q s.length c] 60)
          obtain ⟨z0, z1⟩ := box2 wr (.int .i64 ok) (.slice q s.length c) 60
          have x0 := hnz.cell y0
          have x1 := hnz.cell y1
          clear y0 y1 c0 c1
          generalize wr.alloc (.cells #[.int .i64 ok, .slice q s.length c] 60) = wz at *
          have g0 := World.block_lt_of_cell? wz _ x0
          have g1 := World.block_lt_of_cell? wz _ z0
          simp only at g0 g1
          refine wp_region_stairs (by kernel_rfl) (by kernel_rfl) (by kernel_rfl) ?_
          iterate 18
            refine Stairs.is ?_ ?_ ?_
            rotate_left 1
            · intro x wR hR hd K hK
              simp only [Act.put, List.setIfInBounds_toArray, List.set_cons_zero, List.set_cons_succ, Nat.reduceAdd, List.length_nil, List.length_cons, List.nil_append, List.cons_append, Say.ok] at hK ⊢
              clear hd
              change Hid _ at hK
              obtain ⟨hcR, hfR, hzR⟩ := nwc hR
              first | (refine wanted_yes ?_ ?_; rfl) | (refine wanted_no ?_ ?_; rfl)
              go_wp2_with (first 
            | (go_at_call 34; refine (HW.out _).mono ?_; rintro e w5 ⟨rfl, hn5⟩; obtain ⟨hc5, hf5, hz5⟩ := nwc hn5))
              all_goals (refine hK.out _ _ ?_ ?_ <;> first | (solve | (repeat (first | assumption | exact Nw.refl _ | refine Nw.alloc ?_ _ | refine Nw.drew ?_ | refine Nw.drewN2 ?_ _ | (refine Nw.trans ?_ (by assumption))))) | exact rfl)
            try simp only [Act.put, List.setIfInBounds_toArray, List.set_cons_zero, List.set_cons_succ, Nat.reduceAdd, List.length_nil, List.length_cons, List.nil_append, List.cons_append]
          refine Stairs.nil ?_
          intro x wR hR hx
          clear hx
          obtain ⟨hcR, hfR, hzR⟩ := nwc hR
          have a1 := A1.out
          have a2 := A2.out
          go_wp2
          go_ret
          exact Gives.b HF.out.symm (hnw.trans (hnz.trans hR))
        · have hd1 : decide (off bs k ≤ lastO bs k) = false := decide_eq_false h1
          by_cases h2 : wide lo hi ≤ off bs k
          · have HF := hid (HNO.out (bOk_hi h2))
            have hd2 : decide (wide lo hi ≤ off bs k) = true := decide_eq_true h2
            clear h1 h2 hu
            clear HNO HYE
            generalize hl : st bs k = s at *
            generalize off bs k = ok at *
            generalize lastO bs k = la at *
            generalize wide lo hi = W at *
            clear hl
            generalize trim s = ts at *
            go_upto_region 7 with fail
            rename_i Q' K2 a2 K1 a1
            have A1 := hid a1
            have A2 := hid a2
            clear a1 a2
            have hnz := (Nw.refl wr).alloc (.cells #[.int .i64 ok, .slice q s.length c] 60)
            obtain ⟨z0, z1⟩ := box2 wr (.int .i64 ok) (.slice q s.length c) 60
            have x0 := hnz.cell y0
            have x1 := hnz.cell y1
            clear y0 y1 c0 c1
            generalize wr.alloc (.cells #[.int .i64 ok, .slice q s.length c] 60) = wz at *
            have g0 := World.block_lt_of_cell? wz _ x0
            have g1 := World.block_lt_of_cell? wz _ z0
            simp only at g0 g1
            refine wp_region_stairs (by kernel_rfl) (by kernel_rfl) (by kernel_rfl) ?_
            iterate 18
              refine Stairs.is ?_ ?_ ?_
              rotate_left 1
              · intro x wR hR hd K hK
                simp only [Act.put, List.setIfInBounds_toArray, List.set_cons_zero, List.set_cons_succ, Nat.reduceAdd, List.length_nil, List.length_cons, List.nil_append, List.cons_append, Say.ok] at hK ⊢
                clear hd
                change Hid _ at hK
                obtain ⟨hcR, hfR, hzR⟩ := nwc hR
                first | (refine wanted_yes ?_ ?_; rfl) | (refine wanted_no ?_ ?_; rfl)
                go_wp2_with (first 
              | (go_at_call 34; refine (HW.out _).mono ?_; rintro e w5 ⟨rfl, hn5⟩; obtain ⟨hc5, hf5, hz5⟩ := nwc hn5))
                all_goals (refine hK.out _ _ ?_ ?_ <;> first | (solve | (repeat (first | assumption | exact Nw.refl _ | refine Nw.alloc ?_ _ | refine Nw.drew ?_ | refine Nw.drewN2 ?_ _ | (refine Nw.trans ?_ (by assumption))))) | exact rfl)
              try simp only [Act.put, List.setIfInBounds_toArray, List.set_cons_zero, List.set_cons_succ, Nat.reduceAdd, List.length_nil, List.length_cons, List.nil_append, List.cons_append]
            refine Stairs.nil ?_
            intro x wR hR hx
            clear hx
            obtain ⟨hcR, hfR, hzR⟩ := nwc hR
            have a1 := A1.out
            have a2 := A2.out
            go_wp2
            go_ret
            exact Gives.b HF.out.symm (hnw.trans (hnz.trans hR))
          · have hd2 : decide (wide lo hi ≤ off bs k) = false := decide_eq_false h2
            by_cases h3 : trim (st bs k) = []
            · have HF := hid (HNO.out (bOk_st h3))
              have hd3 : (((trim (st bs k)).length : Int) == 0) = true := by rw [h3]; rfl
              clear h1 h2 h3 hu
              clear HNO HYE
              generalize hl : st bs k = s at *
              generalize off bs k = ok at *
              generalize lastO bs k = la at *
              generalize wide lo hi = W at *
              clear hl
              generalize trim s = ts at *
              go_upto_region 7 with fail
              rename_i Q' K2 a2 K1 a1
              have A1 := hid a1
              have A2 := hid a2
              clear a1 a2
              have hnz := (Nw.refl wr).alloc (.cells #[.int .i64 ok, .slice q s.length c] 60)
              obtain ⟨z0, z1⟩ := box2 wr (.int .i64 ok) (.slice q s.length c) 60
              have x0 := hnz.cell y0
              have x1 := hnz.cell y1
              clear y0 y1 c0 c1
              generalize wr.alloc (.cells #[.int .i64 ok, .slice q s.length c] 60) = wz at *
              have g0 := World.block_lt_of_cell? wz _ x0
              have g1 := World.block_lt_of_cell? wz _ z0
              simp only at g0 g1
              have stL := SetS.stab ts
              refine wp_region_stairs (by kernel_rfl) (by kernel_rfl) (by kernel_rfl) ?_
              iterate 14
                refine Stairs.is ?_ ?_ ?_
                rotate_left 1
                · intro x wR hR hd K hK
                  simp only [Act.put, List.setIfInBounds_toArray, List.set_cons_zero, List.set_cons_succ, Nat.reduceAdd, List.length_nil, List.length_cons, List.nil_append, List.cons_append, Say.ok] at hK ⊢
                  clear hd
                  change Hid _ at hK
                  obtain ⟨hcR, hfR, hzR⟩ := nwc hR
                  first | (refine wanted_yes ?_ ?_; rfl) | (refine wanted_no ?_ ?_; rfl)
                  go_wp2_with (first 
                | (go_at_call 34; refine (HW.out _).mono ?_; rintro e w5 ⟨rfl, hn5⟩; obtain ⟨hc5, hf5, hz5⟩ := nwc hn5)
                | (go_at_call 46; refine (HSL.out _ (hnz.trans (by repeat (first | assumption | exact Nw.refl _ | refine Nw.alloc ?_ _ | refine Nw.drew ?_ | refine Nw.drewN2 ?_ _ | (refine Nw.trans ?_ (by assumption)))))).mono ?_; rintro e w5 ⟨v5, rfl, hs5, hk5, hn5⟩; obtain ⟨p5, c5, rfl⟩ := set_shape hs5; obtain ⟨hc5, hf5, hz5⟩ := nwc hn5))
                  all_goals (refine hK.out _ _ ?_ ?_ <;> first | (solve | (repeat (first | assumption | exact Nw.refl _ | refine Nw.alloc ?_ _ | refine Nw.drew ?_ | refine Nw.drewN2 ?_ _ | (refine Nw.trans ?_ (by assumption))))) | exact rfl | exact ⟨_, _, rfl, hs5⟩)
                try simp only [Act.put, List.setIfInBounds_toArray, List.set_cons_zero, List.set_cons_succ, Nat.reduceAdd, List.length_nil, List.length_cons, List.nil_append, List.cons_append]
              iterate 1
                refine Stairs.that (SetS ts) (by first | assumption | simp) ?_ ?_
                · intro x wR hR hd K hK
                  simp only [Act.put, List.setIfInBounds_toArray, List.set_cons_zero, List.set_cons_succ, Nat.reduceAdd, List.length_nil, List.length_cons, List.nil_append, List.cons_append, Say.ok] at hK ⊢
                  clear hd
                  change Hid _ at hK
                  obtain ⟨hcR, hfR, hzR⟩ := nwc hR
                  first | (refine wanted_yes ?_ ?_; rfl) | (refine wanted_no ?_ ?_; rfl)
                  go_wp2_with (first 
                | (go_at_call 34; refine (HW.out _).mono ?_; rintro e w5 ⟨rfl, hn5⟩; obtain ⟨hc5, hf5, hz5⟩ := nwc hn5)
                | (go_at_call 46; refine (HSL.out _ (hnz.trans (by repeat (first | assumption | exact Nw.refl _ | refine Nw.alloc ?_ _ | refine Nw.drew ?_ | refine Nw.drewN2 ?_ _ | (refine Nw.trans ?_ (by assumption)))))).mono ?_; rintro e w5 ⟨v5, rfl, hs5, hk5, hn5⟩; obtain ⟨p5, c5, rfl⟩ := set_shape hs5; obtain ⟨hc5, hf5, hz5⟩ := nwc hn5))
                  all_goals (refine hK.out _ _ ?_ ?_ <;> first | (solve | (repeat (first | assumption | exact Nw.refl _ | refine Nw.alloc ?_ _ | refine Nw.drew ?_ | refine Nw.drewN2 ?_ _ | (refine Nw.trans ?_ (by assumption))))) | exact rfl | exact ⟨_, _, rfl, hs5⟩)
                try simp only [Act.put, List.setIfInBounds_toArray, List.set_cons_zero, List.set_cons_succ, Nat.reduceAdd, List.length_nil, List.length_cons, List.nil_append, List.cons_append]
              iterate 3
                refine Stairs.is ?_ ?_ ?_
                rotate_left 1
                · intro x wR hR hd K hK
                  simp only [Act.put, List.setIfInBounds_toArray, List.set_cons_zero, List.set_cons_succ, Nat.reduceAdd, List.length_nil, List.length_cons, List.nil_append, List.cons_append, Say.ok] at hK ⊢
                  try simp [Region.binds, sayAt, List.getD_cons_zero, List.getD_cons_succ, Say.ok, Vl] at hd
                  try ((first | (have hz9 : (SetS ts) wR (x 14) := hd; obtain ⟨q9, c9, h9, _⟩ := hz9) | (have hz9 : (SetS ts) wR (x 14) := hd.1; obtain ⟨q9, c9, h9, _⟩ := hz9) | (have hz9 : (SetS ts) wR (x 14) := hd.2; obtain ⟨q9, c9, h9, _⟩ := hz9) | (have hz9 : (SetS ts) wR (x 14) := hd.2.1; obtain ⟨q9, c9, h9, _⟩ := hz9) | (have hz9 : (SetS ts) wR (x 14) := hd.2.2; obtain ⟨q9, c9, h9, _⟩ := hz9)); simp only [h9] at hK ⊢)
                  change Hid _ at hK
                  obtain ⟨hcR, hfR, hzR⟩ := nwc hR
                  first | (refine wanted_yes ?_ ?_; rfl) | (refine wanted_no ?_ ?_; rfl)
                  go_wp2_with (first 
                | (go_at_call 34; refine (HW.out _).mono ?_; rintro e w5 ⟨rfl, hn5⟩; obtain ⟨hc5, hf5, hz5⟩ := nwc hn5)
                | (go_at_call 46; refine (HSL.out _ (hnz.trans (by repeat (first | assumption | exact Nw.refl _ | refine Nw.alloc ?_ _ | refine Nw.drew ?_ | refine Nw.drewN2 ?_ _ | (refine Nw.trans ?_ (by assumption)))))).mono ?_; rintro e w5 ⟨v5, rfl, hs5, hk5, hn5⟩; obtain ⟨p5, c5, rfl⟩ := set_shape hs5; obtain ⟨hc5, hf5, hz5⟩ := nwc hn5))
                  all_goals (refine hK.out _ _ ?_ ?_ <;> first | (solve | (repeat (first | assumption | exact Nw.refl _ | refine Nw.alloc ?_ _ | refine Nw.drew ?_ | refine Nw.drewN2 ?_ _ | (refine Nw.trans ?_ (by assumption))))) | exact rfl | exact ⟨_, _, rfl, hs5⟩)
                try simp only [Act.put, List.setIfInBounds_toArray, List.set_cons_zero, List.set_cons_succ, Nat.reduceAdd, List.length_nil, List.length_cons, List.nil_append, List.cons_append]
              refine Stairs.nil ?_
              intro x wR hR hx
              have h14 := hx 14 (by decide)
              simp only [sayAt, List.getD_cons_zero, List.getD_cons_succ, Say.ok, Vl] at h14
              clear hx
              obtain ⟨hcR, hfR, hzR⟩ := nwc hR
              have a1 := A1.out
              have a2 := A2.out
              go_wp2
              go_ret
              exact Gives.b HF.out.symm (hnw.trans (hnz.trans hR))
            · have HF := hid (HYE.out (bOk_yes' hu.out h1 (by omega) h3))
              have hd3 : (((trim (st bs k)).length : Int) == 0) = false := beq_eq_false_iff_ne.2 (fun q => h3 (List.length_eq_zero_iff.1 (by omega)))
              clear h1 h2 h3 hu
              clear HNO HYE
              generalize hl : st bs k = s at *
              generalize off bs k = ok at *
              generalize lastO bs k = la at *
              generalize wide lo hi = W at *
              clear hl
              generalize trim s = ts at *
              go_upto_region 7 with fail
              rename_i Q' K2 a2 K1 a1
              have A1 := hid a1
              have A2 := hid a2
              clear a1 a2
              have hnz := (Nw.refl wr).alloc (.cells #[.int .i64 ok, .slice q s.length c] 60)
              obtain ⟨z0, z1⟩ := box2 wr (.int .i64 ok) (.slice q s.length c) 60
              have x0 := hnz.cell y0
              have x1 := hnz.cell y1
              clear y0 y1 c0 c1
              generalize wr.alloc (.cells #[.int .i64 ok, .slice q s.length c] 60) = wz at *
              have g0 := World.block_lt_of_cell? wz _ x0
              have g1 := World.block_lt_of_cell? wz _ z0
              simp only at g0 g1
              have stL := SetS.stab ts
              refine wp_region_stairs (by kernel_rfl) (by kernel_rfl) (by kernel_rfl) ?_
              iterate 14
                refine Stairs.is ?_ ?_ ?_
                rotate_left 1
                · intro x wR hR hd K hK
                  simp only [Act.put, List.setIfInBounds_toArray, List.set_cons_zero, List.set_cons_succ, Nat.reduceAdd, List.length_nil, List.length_cons, List.nil_append, List.cons_append, Say.ok] at hK ⊢
                  clear hd
                  change Hid _ at hK
                  obtain ⟨hcR, hfR, hzR⟩ := nwc hR
                  first | (refine wanted_yes ?_ ?_; rfl) | (refine wanted_no ?_ ?_; rfl)
                  go_wp2_with (first 
                | (go_at_call 34; refine (HW.out _).mono ?_; rintro e w5 ⟨rfl, hn5⟩; obtain ⟨hc5, hf5, hz5⟩ := nwc hn5)
                | (go_at_call 46; refine (HSL.out _ (hnz.trans (by repeat (first | assumption | exact Nw.refl _ | refine Nw.alloc ?_ _ | refine Nw.drew ?_ | refine Nw.drewN2 ?_ _ | (refine Nw.trans ?_ (by assumption)))))).mono ?_; rintro e w5 ⟨v5, rfl, hs5, hk5, hn5⟩; obtain ⟨p5, c5, rfl⟩ := set_shape hs5; obtain ⟨hc5, hf5, hz5⟩ := nwc hn5))
                  all_goals (refine hK.out _ _ ?_ ?_ <;> first | (solve | (repeat (first | assumption | exact Nw.refl _ | refine Nw.alloc ?_ _ | refine Nw.drew ?_ | refine Nw.drewN2 ?_ _ | (refine Nw.trans ?_ (by assumption))))) | exact rfl | exact ⟨_, _, rfl, hs5⟩)
                try simp only [Act.put, List.setIfInBounds_toArray, List.set_cons_zero, List.set_cons_succ, Nat.reduceAdd, List.length_nil, List.length_cons, List.nil_append, List.cons_append]
              iterate 1
                refine Stairs.that (SetS ts) (by first | assumption | simp) ?_ ?_
                · intro x wR hR hd K hK
                  simp only [Act.put, List.setIfInBounds_toArray, List.set_cons_zero, List.set_cons_succ, Nat.reduceAdd, List.length_nil, List.length_cons, List.nil_append, List.cons_append, Say.ok] at hK ⊢
                  clear hd
                  change Hid _ at hK
                  obtain ⟨hcR, hfR, hzR⟩ := nwc hR
                  first | (refine wanted_yes ?_ ?_; rfl) | (refine wanted_no ?_ ?_; rfl)
                  go_wp2_with (first 
                | (go_at_call 34; refine (HW.out _).mono ?_; rintro e w5 ⟨rfl, hn5⟩; obtain ⟨hc5, hf5, hz5⟩ := nwc hn5)
                | (go_at_call 46; refine (HSL.out _ (hnz.trans (by repeat (first | assumption | exact Nw.refl _ | refine Nw.alloc ?_ _ | refine Nw.drew ?_ | refine Nw.drewN2 ?_ _ | (refine Nw.trans ?_ (by assumption)))))).mono ?_; rintro e w5 ⟨v5, rfl, hs5, hk5, hn5⟩; obtain ⟨p5, c5, rfl⟩ := set_shape hs5; obtain ⟨hc5, hf5, hz5⟩ := nwc hn5))
                  all_goals (refine hK.out _ _ ?_ ?_ <;> first | (solve | (repeat (first | assumption | exact Nw.refl _ | refine Nw.alloc ?_ _ | refine Nw.drew ?_ | refine Nw.drewN2 ?_ _ | (refine Nw.trans ?_ (by assumption))))) | exact rfl | exact ⟨_, _, rfl, hs5⟩)
                try simp only [Act.put, List.setIfInBounds_toArray, List.set_cons_zero, List.set_cons_succ, Nat.reduceAdd, List.length_nil, List.length_cons, List.nil_append, List.cons_append]
              iterate 3
                refine Stairs.is ?_ ?_ ?_
                rotate_left 1
                · intro x wR hR hd K hK
                  simp only [Act.put, List.setIfInBounds_toArray, List.set_cons_zero, List.set_cons_succ, Nat.reduceAdd, List.length_nil, List.length_cons, List.nil_append, List.cons_append, Say.ok] at hK ⊢
                  try simp [Region.binds, sayAt, List.getD_cons_zero, List.getD_cons_succ, Say.ok, Vl] at hd
                  try ((first | (have hz9 : (SetS ts) wR (x 14) := hd; obtain ⟨q9, c9, h9, _⟩ := hz9) | (have hz9 : (SetS ts) wR (x 14) := hd.1; obtain ⟨q9, c9, h9, _⟩ := hz9) | (have hz9 : (SetS ts) wR (x 14) := hd.2; obtain ⟨q9, c9, h9, _⟩ := hz9) | (have hz9 : (SetS ts) wR (x 14) := hd.2.1; obtain ⟨q9, c9, h9, _⟩ := hz9) | (have hz9 : (SetS ts) wR (x 14) := hd.2.2; obtain ⟨q9, c9, h9, _⟩ := hz9)); simp only [h9] at hK ⊢)
                  change Hid _ at hK
                  obtain ⟨hcR, hfR, hzR⟩ := nwc hR
                  first | (refine wanted_yes ?_ ?_; rfl) | (refine wanted_no ?_ ?_; rfl)
                  go_wp2_with (first 
                | (go_at_call 34; refine (HW.out _).mono ?_; rintro e w5 ⟨rfl, hn5⟩; obtain ⟨hc5, hf5, hz5⟩ := nwc hn5)
                | (go_at_call 46; refine (HSL.out _ (hnz.trans (by repeat (first | assumption | exact Nw.refl _ | refine Nw.alloc ?_ _ | refine Nw.drew ?_ | refine Nw.drewN2 ?_ _ | (refine Nw.trans ?_ (by assumption)))))).mono ?_; rintro e w5 ⟨v5, rfl, hs5, hk5, hn5⟩; obtain ⟨p5, c5, rfl⟩ := set_shape hs5; obtain ⟨hc5, hf5, hz5⟩ := nwc hn5))
                  all_goals (refine hK.out _ _ ?_ ?_ <;> first | (solve | (repeat (first | assumption | exact Nw.refl _ | refine Nw.alloc ?_ _ | refine Nw.drew ?_ | refine Nw.drewN2 ?_ _ | (refine Nw.trans ?_ (by assumption))))) | exact rfl | exact ⟨_, _, rfl, hs5⟩)
                try simp only [Act.put, List.setIfInBounds_toArray, List.set_cons_zero, List.set_cons_succ, Nat.reduceAdd, List.length_nil, List.length_cons, List.nil_append, List.cons_append]
              refine Stairs.nil ?_
              intro x wR hR hx
              have h14 := hx 14 (by decide)
              simp only [sayAt, List.getD_cons_zero, List.getD_cons_succ, Say.ok, Vl] at h14
              clear hx
              obtain ⟨hcR, hfR, hzR⟩ := nwc hR
              have a1 := A1.out
              have a2 := A2.out
              go_wp2
              have z0R := hR.cell z0
              go_roundw
              case rel => exact ⟨k + 1, by omega, by go_num, by rw [HL2.out], HF, hnr.trans (hnz.trans hR)⟩
              case measure => simp [intOf]; omega
      · obtain rfl : k = bs.length := by omega
        have hdk : decide (bs.length < bs.length) = false := decide_eq_false (by omega)
        have HF := hid (show mayW lo hi bs = true by unfold mayW; rw [hN]; exact hu.out)
        have a3 := A3.out
        go_wp2
        go_ret
        exact Gives.b HF.out.symm hnw
  · rw [Bool.not_eq_true] at hN
    have HF := hid (show mayW lo hi bs = false by unfold mayW; rw [hN]; rfl)
    rw [hN] at HM
    go_enter Try.func33, Try.ntmps33
    unfold span at *
    go_wp2_with (first
      | (go_at_call 55; refine (HM.out _).mono ?_; rintro e w1 ⟨rfl, hn1⟩)
      | fail)
    go_ret
    exact Gives.b HF.out.symm (by repeat (first | assumption | exact Nw.refl _ | refine Nw.alloc ?_ _ | refine Nw.drew ?_ | refine Nw.drewN2 ?_ _ | (refine Nw.trans ?_ (by assumption))))
end Wn
end Go.Proofs.Ythellicimicieaa
