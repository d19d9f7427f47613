/- The contract of the reference's MayWindow. No condition but lengths. -/
import Derived.Test.YthellicimicieaaWinD
set_option linter.unusedSimpArgs false
set_option linter.unusedVariables false
namespace Go.Proofs.Ythellicimicieaa
open Go.ChangeShapes Go.WideShapes Go.ChangeAt Go.RowKit
namespace Wn
open Ival Words
set_option maxRecDepth 20000 in
set_option maxHeartbeats 3200000 in
theorem rmay_w (lo hi : Int) (vl : Value) (bs : Bs) (w : World) (hv : Bks w vl bs) (hsm : Sm 1000000 1000000 bs) : Calls Try.prog 60 #[span lo hi, vl] w (Gives (.bool (mayW lo hi bs)) w) := by
  obtain ⟨p, cap, rfl, hcap, hmx, hp0, hbc⟩ := hv
  unfold maxLen at hmx
  have HB := hid hbc
  have HM := hid (fun w' => rmay_c lo hi w')
  have HW := hid (fun w' => rwide_c lo hi w')
  have hln := hsm.n
  clear hbc
  by_cases hN : may lo hi = true
  · rw [hN] at HM
    go_enter Try.func60, Try.ntmps60
    unfold span at *
    go_wp2_with (first
      | (go_at_call 64; refine (HM.out _).mono ?_; rintro e w1 ⟨rfl, hn1⟩; obtain ⟨hc1, hf1, hz1⟩ := nwc hn1)
      | fail)
    have x0 := hn1.cell (box2 w (.int .i64 lo) (.int .i64 hi) 26).1
    have x1 := hn1.cell (box2 w (.int .i64 lo) (.int .i64 hi) 26).2
    have hn : Nw w w1 := (by repeat (first | assumption | exact Nw.refl _ | refine Nw.alloc ?_ _ | refine Nw.drew ?_ | refine Nw.drewN2 ?_ _ | (refine Nw.trans ?_ (by assumption))))
    clear hc1 hf1 hz1 hn1
    go_loopw [5, 6, 12] (fun _ _ i wr => ∃ k : Nat, k ≤ bs.length ∧ i = .int .i64 k ∧ Hid (mayTo lo hi bs k = true) ∧ Nw w1 wr) (fun _ _ i _ => bs.length - (intOf i).toNat)
    case atStart => exact ⟨0, Nat.zero_le _, rfl, hid rfl, Nw.refl _⟩
    case round =>
      obtain ⟨k, hk, rfl, hu, hnr⟩ := hrel
      rename_i K3 a3
      have A3 := hid a3
      clear a3
      have hnw := hn.trans hnr
      have y0 := hnr.cell x0
      have y1 := hnr.cell x1
      have hz := World.block_lt_of_cell? wr _ y0
      simp only at hz
      by_cases hlt : k < bs.length
      · have hdk : decide (k < bs.length) = true := decide_eq_true hlt
        obtain ⟨b1, o1, vi, rfl, c0, c1, hsl⟩ := (HB.out.nw hnw) k hlt
        obtain ⟨q, c, rfl⟩ := set_shape hsl
        have HNO := hid (show bOk lo hi bs k = false → mayW lo hi bs = false from fun h => may_fail hlt h)
        have HYE := hid (show bOk lo hi bs k = true → mayTo lo hi bs (k + 1) = true from fun h => by rw [mayTo, to_succ]; rw [h, Bool.and_true]; exact hu.out)
        have HSL := hid (fun w' (h : Nw wr w') => rtrim_c _ (st bs k) w' (hsl.nw h) (Nat.le_trans (hsm.at k hlt) (by decide)))
        clear hsl
        by_cases h1 : off bs k < 0
        · have HF := hid (HNO.out (bOk_neg h1))
          have hd1 : decide (off bs k < 0) = true := decide_eq_true h1
          have d0 := c0
          clear h1 hu
          clear HNO HYE
          generalize hl : st bs k = s at *
          generalize off bs k = ok at *
          generalize off bs (k - 1) = pk at *
          generalize wide lo hi = W at *
          clear hl
          generalize trim s = ts at *
          go_upto_region 6 with fail
          rename_i Q' K2 a2 K1 a1
          have A1 := hid a1
          have A2 := hid a2
          clear a1 a2
          have hnz := (Nw.refl wr).alloc (.cells #[.int .i64 ok, .slice q s.length c] 60)
          obtain ⟨z0, z1⟩ := box2 wr (.int .i64 ok) (.slice q s.length c) 60
          have x0 := hnz.cell y0
          have x1 := hnz.cell y1
          have e0 := hnz.cell d0
          clear y0 y1 c0 c1 d0
          generalize wr.alloc (.cells #[.int .i64 ok, .slice q s.length c] 60) = wz at *
          have g0 := World.block_lt_of_cell? wz _ x0
          have g1 := World.block_lt_of_cell? wz _ z0
          have g2 := World.block_lt_of_cell? wz _ e0
          simp only at g0 g1 g2
          refine wp_region_stairs (by kernel_rfl) (by kernel_rfl) (by kernel_rfl) ?_
          iterate 32
            refine Stairs.is ?_ ?_ ?_
            rotate_left 1
            · intro x wR hR hd K hK
              simp only [Act.put, List.setIfInBounds_toArray, List.set_cons_zero, List.set_cons_succ, Nat.reduceAdd, List.length_nil, List.length_cons, List.nil_append, List.cons_append, Say.ok] at hK ⊢
              clear hd
              change Hid _ at hK
              obtain ⟨hcR, hfR, hzR⟩ := nwc hR
              first | (refine wanted_yes ?_ ?_; rfl) | (refine wanted_no ?_ ?_; rfl)
              go_wp2_with (first 
            | (go_at_call 42; refine (HW.out _).mono ?_; rintro e w5 ⟨rfl, hn5⟩; obtain ⟨hc5, hf5, hz5⟩ := nwc hn5))
              all_goals (refine hK.out _ _ ?_ ?_ <;> first | (solve | (repeat (first | assumption | exact Nw.refl _ | refine Nw.alloc ?_ _ | refine Nw.drew ?_ | refine Nw.drewN2 ?_ _ | (refine Nw.trans ?_ (by assumption))))) | exact rfl)
            try simp only [Act.put, List.setIfInBounds_toArray, List.set_cons_zero, List.set_cons_succ, Nat.reduceAdd, List.length_nil, List.length_cons, List.nil_append, List.cons_append]
          refine Stairs.nil ?_
          intro x wR hR hx
          clear hx
          obtain ⟨hcR, hfR, hzR⟩ := nwc hR
          have a1 := A1.out
          have a2 := A2.out
          go_wp2
          go_ret
          exact Gives.b HF.out.symm (hnw.trans (hnz.trans hR))
        · have hd1 : decide (off bs k < 0) = false := decide_eq_false h1
          by_cases h2 : wide lo hi ≤ off bs k
          · have HF := hid (HNO.out (bOk_hi h2))
            have hd2 : decide (wide lo hi ≤ off bs k) = true := decide_eq_true h2
            have d0 := c0
            clear h1 h2 hu
            clear HNO HYE
            generalize hl : st bs k = s at *
            generalize off bs k = ok at *
            generalize off bs (k - 1) = pk at *
            generalize wide lo hi = W at *
            clear hl
            generalize trim s = ts at *
            go_upto_region 6 with fail
            rename_i Q' K2 a2 K1 a1
            have A1 := hid a1
            have A2 := hid a2
            clear a1 a2
            have hnz := (Nw.refl wr).alloc (.cells #[.int .i64 ok, .slice q s.length c] 60)
            obtain ⟨z0, z1⟩ := box2 wr (.int .i64 ok) (.slice q s.length c) 60
            have x0 := hnz.cell y0
            have x1 := hnz.cell y1
            have e0 := hnz.cell d0
            clear y0 y1 c0 c1 d0
            generalize wr.alloc (.cells #[.int .i64 ok, .slice q s.length c] 60) = wz at *
            have g0 := World.block_lt_of_cell? wz _ x0
            have g1 := World.block_lt_of_cell? wz _ z0
            have g2 := World.block_lt_of_cell? wz _ e0
            simp only at g0 g1 g2
            refine wp_region_stairs (by kernel_rfl) (by kernel_rfl) (by kernel_rfl) ?_
            iterate 32
              refine Stairs.is ?_ ?_ ?_
              rotate_left 1
              · intro x wR hR hd K hK
                simp only [Act.put, List.setIfInBounds_toArray, List.set_cons_zero, List.set_cons_succ, Nat.reduceAdd, List.length_nil, List.length_cons, List.nil_append, List.cons_append, Say.ok] at hK ⊢
                clear hd
                change Hid _ at hK
                obtain ⟨hcR, hfR, hzR⟩ := nwc hR
                first | (refine wanted_yes ?_ ?_; rfl) | (refine wanted_no ?_ ?_; rfl)
                go_wp2_with (first 
              | (go_at_call 42; refine (HW.out _).mono ?_; rintro e w5 ⟨rfl, hn5⟩; obtain ⟨hc5, hf5, hz5⟩ := nwc hn5))
                all_goals (refine hK.out _ _ ?_ ?_ <;> first | (solve | (repeat (first | assumption | exact Nw.refl _ | refine Nw.alloc ?_ _ | refine Nw.drew ?_ | refine Nw.drewN2 ?_ _ | (refine Nw.trans ?_ (by assumption))))) | exact rfl)
              try simp only [Act.put, List.setIfInBounds_toArray, List.set_cons_zero, List.set_cons_succ, Nat.reduceAdd, List.length_nil, List.length_cons, List.nil_append, List.cons_append]
            refine Stairs.nil ?_
            intro x wR hR hx
            clear hx
            obtain ⟨hcR, hfR, hzR⟩ := nwc hR
            have a1 := A1.out
            have a2 := A2.out
            go_wp2
            go_ret
            exact Gives.b HF.out.symm (hnw.trans (hnz.trans hR))
          · have hd2 : decide (wide lo hi ≤ off bs k) = false := decide_eq_false h2
            by_cases h0 : 0 < k
            · have hd0 : decide ((0 : Int) < k) = true := decide_eq_true (by omega)
              have hd0n : decide (0 < k) = true := decide_eq_true h0
              obtain ⟨b2, o2, vj, e2, d0, _, _⟩ := (HB.out.nw hnw) (k - 1) (by omega)
              cases e2
              have ek : ((k : Int) - 1).toNat = k - 1 := by omega
              by_cases h4 : off bs k ≤ off bs (k - 1)
              · have HF := hid (HNO.out (bOk_pr h0 h4))
                have hd4 : decide (off bs k ≤ off bs (k - 1)) = true := decide_eq_true h4
                clear h1 h2 h4 hu
                clear HNO HYE
                generalize hl : st bs k = s at *
                generalize off bs k = ok at *
                generalize off bs (k - 1) = pk at *
                generalize wide lo hi = W at *
                clear hl
                generalize trim s = ts at *
                go_upto_region 6 with fail
                rename_i Q' K2 a2 K1 a1
                have A1 := hid a1
                have A2 := hid a2
                clear a1 a2
                have hnz := (Nw.refl wr).alloc (.cells #[.int .i64 ok, .slice q s.length c] 60)
                obtain ⟨z0, z1⟩ := box2 wr (.int .i64 ok) (.slice q s.length c) 60
                have x0 := hnz.cell y0
                have x1 := hnz.cell y1
                have e0 := hnz.cell d0
                clear y0 y1 c0 c1 d0
                generalize wr.alloc (.cells #[.int .i64 ok, .slice q s.length c] 60) = wz at *
                have g0 := World.block_lt_of_cell? wz _ x0
                have g1 := World.block_lt_of_cell? wz _ z0
                have g2 := World.block_lt_of_cell? wz _ e0
                simp only at g0 g1 g2
                refine wp_region_stairs (by kernel_rfl) (by kernel_rfl) (by kernel_rfl) ?_
                iterate 32
                  refine Stairs.is ?_ ?_ ?_
                  rotate_left 1
                  · intro x wR hR hd K hK
                    simp only [Act.put, List.setIfInBounds_toArray, List.set_cons_zero, List.set_cons_succ, Nat.reduceAdd, List.length_nil, List.length_cons, List.nil_append, List.cons_append, Say.ok] at hK ⊢
                    clear hd
                    change Hid _ at hK
                    obtain ⟨hcR, hfR, hzR⟩ := nwc hR
                    first | (refine wanted_yes ?_ ?_; rfl) | (refine wanted_no ?_ ?_; rfl)
                    go_wp2_with (first 
                  | (go_at_call 42; refine (HW.out _).mono ?_; rintro e w5 ⟨rfl, hn5⟩; obtain ⟨hc5, hf5, hz5⟩ := nwc hn5))
                    all_goals (refine hK.out _ _ ?_ ?_ <;> first | (solve | (repeat (first | assumption | exact Nw.refl _ | refine Nw.alloc ?_ _ | refine Nw.drew ?_ | refine Nw.drewN2 ?_ _ | (refine Nw.trans ?_ (by assumption))))) | exact rfl)
                  try simp only [Act.put, List.setIfInBounds_toArray, List.set_cons_zero, List.set_cons_succ, Nat.reduceAdd, List.length_nil, List.length_cons, List.nil_append, List.cons_append]
                refine Stairs.nil ?_
                intro x wR hR hx
                clear hx
                obtain ⟨hcR, hfR, hzR⟩ := nwc hR
                have a1 := A1.out
                have a2 := A2.out
                go_wp2
                go_ret
                exact Gives.b HF.out.symm (hnw.trans (hnz.trans hR))
              · have hd4 : decide (off bs k ≤ off bs (k - 1)) = false := decide_eq_false h4
                by_cases h3 : trim (st bs k) = []
                · have HF := hid (HNO.out (bOk_st h3))
                  have hd3 : (((trim (st bs k)).length : Int) == 0) = true := by rw [h3]; rfl
                  clear h1 h2 h3 hu
                  try clear h4
                  clear HNO HYE
                  generalize hl : st bs k = s at *
                  generalize off bs k = ok at *
                  generalize off bs (k - 1) = pk at *
                  generalize wide lo hi = W at *
                  clear hl
                  generalize trim s = ts at *
                  go_upto_region 6 with fail
                  rename_i Q' K2 a2 K1 a1
                  have A1 := hid a1
                  have A2 := hid a2
                  clear a1 a2
                  have hnz := (Nw.refl wr).alloc (.cells #[.int .i64 ok, .slice q s.length c] 60)
                  obtain ⟨z0, z1⟩ := box2 wr (.int .i64 ok) (.slice q s.length c) 60
                  have x0 := hnz.cell y0
                  have x1 := hnz.cell y1
                  have e0 := hnz.cell d0
                  clear y0 y1 c0 c1 d0
                  generalize wr.alloc (.cells #[.int .i64 ok, .slice q s.length c] 60) = wz at *
                  have g0 := World.block_lt_of_cell? wz _ x0
                  have g1 := World.block_lt_of_cell? wz _ z0
                  have g2 := World.block_lt_of_cell? wz _ e0
                  simp only at g0 g1 g2
                  have stL := SetS.stab ts
                  refine wp_region_stairs (by kernel_rfl) (by kernel_rfl) (by kernel_rfl) ?_
                  iterate 28
                    refine Stairs.is ?_ ?_ ?_
                    rotate_left 1
                    · intro x wR hR hd K hK
                      simp only [Act.put, List.setIfInBounds_toArray, List.set_cons_zero, List.set_cons_succ, Nat.reduceAdd, List.length_nil, List.length_cons, List.nil_append, List.cons_append, Say.ok] at hK ⊢
                      clear hd
                      change Hid _ at hK
                      obtain ⟨hcR, hfR, hzR⟩ := nwc hR
                      first | (refine wanted_yes ?_ ?_; rfl) | (refine wanted_no ?_ ?_; rfl)
                      go_wp2_with (first 
                    | (go_at_call 42; refine (HW.out _).mono ?_; rintro e w5 ⟨rfl, hn5⟩; obtain ⟨hc5, hf5, hz5⟩ := nwc hn5)
                    | (go_at_call 27; refine (HSL.out _ (hnz.trans (by repeat (first | assumption | exact Nw.refl _ | refine Nw.alloc ?_ _ | refine Nw.drew ?_ | refine Nw.drewN2 ?_ _ | (refine Nw.trans ?_ (by assumption)))))).mono ?_; rintro e w5 ⟨v5, rfl, hs5, hk5, hn5⟩; obtain ⟨p5, c5, rfl⟩ := set_shape hs5; obtain ⟨hc5, hf5, hz5⟩ := nwc hn5))
                      all_goals (refine hK.out _ _ ?_ ?_ <;> first | (solve | (repeat (first | assumption | exact Nw.refl _ | refine Nw.alloc ?_ _ | refine Nw.drew ?_ | refine Nw.drewN2 ?_ _ | (refine Nw.trans ?_ (by assumption))))) | exact rfl | exact ⟨_, _, rfl, hs5⟩)
                    try simp only [Act.put, List.setIfInBounds_toArray, List.set_cons_zero, List.set_cons_succ, Nat.reduceAdd, List.length_nil, List.length_cons, List.nil_append, List.cons_append]
                  iterate 1
                    refine Stairs.that (SetS ts) (by first | assumption | simp) ?_ ?_
                    · intro x wR hR hd K hK
                      simp only [Act.put, List.setIfInBounds_toArray, List.set_cons_zero, List.set_cons_succ, Nat.reduceAdd, List.length_nil, List.length_cons, List.nil_append, List.cons_append, Say.ok] at hK ⊢
                      clear hd
                      change Hid _ at hK
                      obtain ⟨hcR, hfR, hzR⟩ := nwc hR
                      first | (refine wanted_yes ?_ ?_; rfl) | (refine wanted_no ?_ ?_; rfl)
                      go_wp2_with (first 
                    | (go_at_call 42; refine (HW.out _).mono ?_; rintro e w5 ⟨rfl, hn5⟩; obtain ⟨hc5, hf5, hz5⟩ := nwc hn5)
                    | (go_at_call 27; refine (HSL.out _ (hnz.trans (by repeat (first | assumption | exact Nw.refl _ | refine Nw.alloc ?_ _ | refine Nw.drew ?_ | refine Nw.drewN2 ?_ _ | (refine Nw.trans ?_ (by assumption)))))).mono ?_; rintro e w5 ⟨v5, rfl, hs5, hk5, hn5⟩; obtain ⟨p5, c5, rfl⟩ := set_shape hs5; obtain ⟨hc5, hf5, hz5⟩ := nwc hn5))
                      all_goals (refine hK.out _ _ ?_ ?_ <;> first | (solve | (repeat (first | assumption | exact Nw.refl _ | refine Nw.alloc ?_ _ | refine Nw.drew ?_ | refine Nw.drewN2 ?_ _ | (refine Nw.trans ?_ (by assumption))))) | exact rfl | exact ⟨_, _, rfl, hs5⟩)
                    try simp only [Act.put, List.setIfInBounds_toArray, List.set_cons_zero, List.set_cons_succ, Nat.reduceAdd, List.length_nil, List.length_cons, List.nil_append, List.cons_append]
                  iterate 3
                    refine Stairs.is ?_ ?_ ?_
                    rotate_left 1
                    · intro x wR hR hd K hK
                      simp only [Act.put, List.setIfInBounds_toArray, List.set_cons_zero, List.set_cons_succ, Nat.reduceAdd, List.length_nil, List.length_cons, List.nil_append, List.cons_append, Say.ok] at hK ⊢
                      try simp [Region.binds, sayAt, List.getD_cons_zero, List.getD_cons_succ, Say.ok, Vl] at hd
                      try ((first | (have hz9 : (SetS ts) wR (x 28) := hd; obtain ⟨q9, c9, h9, _⟩ := hz9) | (have hz9 : (SetS ts) wR (x 28) := hd.1; obtain ⟨q9, c9, h9, _⟩ := hz9) | (have hz9 : (SetS ts) wR (x 28) := hd.2; obtain ⟨q9, c9, h9, _⟩ := hz9) | (have hz9 : (SetS ts) wR (x 28) := hd.2.1; obtain ⟨q9, c9, h9, _⟩ := hz9) | (have hz9 : (SetS ts) wR (x 28) := hd.2.2; obtain ⟨q9, c9, h9, _⟩ := hz9)); simp only [h9] at hK ⊢)
                      change Hid _ at hK
                      obtain ⟨hcR, hfR, hzR⟩ := nwc hR
                      first | (refine wanted_yes ?_ ?_; rfl) | (refine wanted_no ?_ ?_; rfl)
                      go_wp2_with (first 
                    | (go_at_call 42; refine (HW.out _).mono ?_; rintro e w5 ⟨rfl, hn5⟩; obtain ⟨hc5, hf5, hz5⟩ := nwc hn5)
                    | (go_at_call 27; refine (HSL.out _ (hnz.trans (by repeat (first | assumption | exact Nw.refl _ | refine Nw.alloc ?_ _ | refine Nw.drew ?_ | refine Nw.drewN2 ?_ _ | (refine Nw.trans ?_ (by assumption)))))).mono ?_; rintro e w5 ⟨v5, rfl, hs5, hk5, hn5⟩; obtain ⟨p5, c5, rfl⟩ := set_shape hs5; obtain ⟨hc5, hf5, hz5⟩ := nwc hn5))
                      all_goals (refine hK.out _ _ ?_ ?_ <;> first | (solve | (repeat (first | assumption | exact Nw.refl _ | refine Nw.alloc ?_ _ | refine Nw.drew ?_ | refine Nw.drewN2 ?_ _ | (refine Nw.trans ?_ (by assumption))))) | exact rfl | exact ⟨_, _, rfl, hs5⟩)
                    try simp only [Act.put, List.setIfInBounds_toArray, List.set_cons_zero, List.set_cons_succ, Nat.reduceAdd, List.length_nil, List.length_cons, List.nil_append, List.cons_append]
                  refine Stairs.nil ?_
                  intro x wR hR hx
                  have h28 := hx 28 (by decide)
                  simp only [sayAt, List.getD_cons_zero, List.getD_cons_succ, Say.ok, Vl] at h28
                  clear hx
                  obtain ⟨hcR, hfR, hzR⟩ := nwc hR
                  have a1 := A1.out
                  have a2 := A2.out
                  go_wp2
                  go_ret
                  exact Gives.b HF.out.symm (hnw.trans (hnz.trans hR))
                · have HF := hid (HYE.out (bOk_yes (by omega) (by omega) h3 (by omega)))
                  have hd3 : (((trim (st bs k)).length : Int) == 0) = false := beq_eq_false_iff_ne.2 (fun q => h3 (List.length_eq_zero_iff.1 (by omega)))
                  clear h1 h2 h3 hu
                  try clear h4
                  clear HNO HYE
                  generalize hl : st bs k = s at *
                  generalize off bs k = ok at *
                  generalize off bs (k - 1) = pk at *
                  generalize wide lo hi = W at *
                  clear hl
                  generalize trim s = ts at *
                  go_upto_region 6 with fail
                  rename_i Q' K2 a2 K1 a1
                  have A1 := hid a1
                  have A2 := hid a2
                  clear a1 a2
                  have hnz := (Nw.refl wr).alloc (.cells #[.int .i64 ok, .slice q s.length c] 60)
                  obtain ⟨z0, z1⟩ := box2 wr (.int .i64 ok) (.slice q s.length c) 60
                  have x0 := hnz.cell y0
                  have x1 := hnz.cell y1
                  have e0 := hnz.cell d0
                  clear y0 y1 c0 c1 d0
                  generalize wr.alloc (.cells #[.int .i64 ok, .slice q s.length c] 60) = wz at *
                  have g0 := World.block_lt_of_cell? wz _ x0
                  have g1 := World.block_lt_of_cell? wz _ z0
                  have g2 := World.block_lt_of_cell? wz _ e0
                  simp only at g0 g1 g2
                  have stL := SetS.stab ts
                  refine wp_region_stairs (by kernel_rfl) (by kernel_rfl) (by kernel_rfl) ?_
                  iterate 28
                    refine Stairs.is ?_ ?_ ?_
                    rotate_left 1
                    · intro x wR hR hd K hK
                      simp only [Act.put, List.setIfInBounds_toArray, List.set_cons_zero, List.set_cons_succ, Nat.reduceAdd, List.length_nil, List.length_cons, List.nil_append, List.cons_append, Say.ok] at hK ⊢
                      clear hd
                      change Hid _ at hK
                      obtain ⟨hcR, hfR, hzR⟩ := nwc hR
                      first | (refine wanted_yes ?_ ?_; rfl) | (refine wanted_no ?_ ?_; rfl)
                      go_wp2_with (first 
                    | (go_at_call 42; refine (HW.out _).mono ?_; rintro e w5 ⟨rfl, hn5⟩; obtain ⟨hc5, hf5, hz5⟩ := nwc hn5)
                    | (go_at_call 27; refine (HSL.out _ (hnz.trans (by repeat (first | assumption | exact Nw.refl _ | refine Nw.alloc ?_ _ | refine Nw.drew ?_ | refine Nw.drewN2 ?_ _ | (refine Nw.trans ?_ (by assumption)))))).mono ?_; rintro e w5 ⟨v5, rfl, hs5, hk5, hn5⟩; obtain ⟨p5, c5, rfl⟩ := set_shape hs5; obtain ⟨hc5, hf5, hz5⟩ := nwc hn5))
                      all_goals (refine hK.out _ _ ?_ ?_ <;> first | (solve | (repeat (first | assumption | exact Nw.refl _ | refine Nw.alloc ?_ _ | refine Nw.drew ?_ | refine Nw.drewN2 ?_ _ | (refine Nw.trans ?_ (by assumption))))) | exact rfl | exact ⟨_, _, rfl, hs5⟩)
                    try simp only [Act.put, List.setIfInBounds_toArray, List.set_cons_zero, List.set_cons_succ, Nat.reduceAdd, List.length_nil, List.length_cons, List.nil_append, List.cons_append]
                  iterate 1
                    refine Stairs.that (SetS ts) (by first | assumption | simp) ?_ ?_
                    · intro x wR hR hd K hK
                      simp only [Act.put, List.setIfInBounds_toArray, List.set_cons_zero, List.set_cons_succ, Nat.reduceAdd, List.length_nil, List.length_cons, List.nil_append, List.cons_append, Say.ok] at hK ⊢
                      clear hd
                      change Hid _ at hK
                      obtain ⟨hcR, hfR, hzR⟩ := nwc hR
                      first | (refine wanted_yes ?_ ?_; rfl) | (refine wanted_no ?_ ?_; rfl)
                      go_wp2_with (first 
                    | (go_at_call 42; refine (HW.out _).mono ?_; rintro e w5 ⟨rfl, hn5⟩; obtain ⟨hc5, hf5, hz5⟩ := nwc hn5)
                    | (go_at_call 27; refine (HSL.out _ (hnz.trans (by repeat (first | assumption | exact Nw.refl _ | refine Nw.alloc ?_ _ | refine Nw.drew ?_ | refine Nw.drewN2 ?_ _ | (refine Nw.trans ?_ (by assumption)))))).mono ?_; rintro e w5 ⟨v5, rfl, hs5, hk5, hn5⟩; obtain ⟨p5, c5, rfl⟩ := set_shape hs5; obtain ⟨hc5, hf5, hz5⟩ := nwc hn5))
                      all_goals (refine hK.out _ _ ?_ ?_ <;> first | (solve | (repeat (first | assumption | exact Nw.refl _ | refine Nw.alloc ?_ _ | refine Nw.drew ?_ | refine Nw.drewN2 ?_ _ | (refine Nw.trans ?_ (by assumption))))) | exact rfl | exact ⟨_, _, rfl, hs5⟩)
                    try simp only [Act.put, List.setIfInBounds_toArray, List.set_cons_zero, List.set_cons_succ, Nat.reduceAdd, List.length_nil, List.length_cons, List.nil_append, List.cons_append]
                  iterate 3
                    refine Stairs.is ?_ ?_ ?_
                    rotate_left 1
                    · intro x wR hR hd K hK
                      simp only [Act.put, List.setIfInBounds_toArray, List.set_cons_zero, List.set_cons_succ, Nat.reduceAdd, List.length_nil, List.length_cons, List.nil_append, List.cons_append, Say.ok] at hK ⊢
                      try simp [Region.binds, sayAt, List.getD_cons_zero, List.getD_cons_succ, Say.ok, Vl] at hd
                      try ((first | (have hz9 : (SetS ts) wR (x 28) := hd; obtain ⟨q9, c9, h9, _⟩ := hz9) | (have hz9 : (SetS ts) wR (x 28) := hd.1; obtain ⟨q9, c9, h9, _⟩ := hz9) | (have hz9 : (SetS ts) wR (x 28) := hd.2; obtain ⟨q9, c9, h9, _⟩ := hz9) | (have hz9 : (SetS ts) wR (x 28) := hd.2.1; obtain ⟨q9, c9, h9, _⟩ := hz9) | (have hz9 : (SetS ts) wR (x 28) := hd.2.2; obtain ⟨q9, c9, h9, _⟩ := hz9)); simp only [h9] at hK ⊢)
                      change Hid _ at hK
                      obtain ⟨hcR, hfR, hzR⟩ := nwc hR
                      first | (refine wanted_yes ?_ ?_; rfl) | (refine wanted_no ?_ ?_; rfl)
                      go_wp2_with (first 
                    | (go_at_call 42; refine (HW.out _).mono ?_; rintro e w5 ⟨rfl, hn5⟩; obtain ⟨hc5, hf5, hz5⟩ := nwc hn5)
                    | (go_at_call 27; refine (HSL.out _ (hnz.trans (by repeat (first | assumption | exact Nw.refl _ | refine Nw.alloc ?_ _ | refine Nw.drew ?_ | refine Nw.drewN2 ?_ _ | (refine Nw.trans ?_ (by assumption)))))).mono ?_; rintro e w5 ⟨v5, rfl, hs5, hk5, hn5⟩; obtain ⟨p5, c5, rfl⟩ := set_shape hs5; obtain ⟨hc5, hf5, hz5⟩ := nwc hn5))
                      all_goals (refine hK.out _ _ ?_ ?_ <;> first | (solve | (repeat (first | assumption | exact Nw.refl _ | refine Nw.alloc ?_ _ | refine Nw.drew ?_ | refine Nw.drewN2 ?_ _ | (refine Nw.trans ?_ (by assumption))))) | exact rfl | exact ⟨_, _, rfl, hs5⟩)
                    try simp only [Act.put, List.setIfInBounds_toArray, List.set_cons_zero, List.set_cons_succ, Nat.reduceAdd, List.length_nil, List.length_cons, List.nil_append, List.cons_append]
                  refine Stairs.nil ?_
                  intro x wR hR hx
                  have h28 := hx 28 (by decide)
                  simp only [sayAt, List.getD_cons_zero, List.getD_cons_succ, Say.ok, Vl] at h28
                  clear hx
                  obtain ⟨hcR, hfR, hzR⟩ := nwc hR
                  have a1 := A1.out
                  have a2 := A2.out
                  go_wp2
                  go_roundw
                  case rel => exact ⟨k + 1, by omega, by go_num, HF, hnr.trans (hnz.trans hR)⟩
                  case measure => simp [intOf]; omega
            · have hd0 : decide ((0 : Int) < k) = false := decide_eq_false (by omega)
              have hd0n : decide (0 < k) = false := decide_eq_false h0
              have d0 := c0
              by_cases h3 : trim (st bs k) = []
              · have HF := hid (HNO.out (bOk_st h3))
                have hd3 : (((trim (st bs k)).length : Int) == 0) = true := by rw [h3]; rfl
                clear h1 h2 h3 hu
                try clear h4
                clear HNO HYE
                generalize hl : st bs k = s at *
                generalize off bs k = ok at *
                generalize off bs (k - 1) = pk at *
                generalize wide lo hi = W at *
                clear hl
                generalize trim s = ts at *
                go_upto_region 6 with fail
                rename_i Q' K2 a2 K1 a1
                have A1 := hid a1
                have A2 := hid a2
                clear a1 a2
                have hnz := (Nw.refl wr).alloc (.cells #[.int .i64 ok, .slice q s.length c] 60)
                obtain ⟨z0, z1⟩ := box2 wr (.int .i64 ok) (.slice q s.length c) 60
                have x0 := hnz.cell y0
                have x1 := hnz.cell y1
                have e0 := hnz.cell d0
                clear y0 y1 c0 c1 d0
                generalize wr.alloc (.cells #[.int .i64 ok, .slice q s.length c] 60) = wz at *
                have g0 := World.block_lt_of_cell? wz _ x0
                have g1 := World.block_lt_of_cell? wz _ z0
                have g2 := World.block_lt_of_cell? wz _ e0
                simp only at g0 g1 g2
                have stL := SetS.stab ts
                refine wp_region_stairs (by kernel_rfl) (by kernel_rfl) (by kernel_rfl) ?_
                iterate 28
                  refine Stairs.is ?_ ?_ ?_
                  rotate_left 1
                  · intro x wR hR hd K hK
                    simp only [Act.put, List.setIfInBounds_toArray, List.set_cons_zero, List.set_cons_succ, Nat.reduceAdd, List.length_nil, List.length_cons, List.nil_append, List.cons_append, Say.ok] at hK ⊢
                    clear hd
                    change Hid _ at hK
                    obtain ⟨hcR, hfR, hzR⟩ := nwc hR
                    first | (refine wanted_yes ?_ ?_; rfl) | (refine wanted_no ?_ ?_; rfl)
                    go_wp2_with (first 
                  | (go_at_call 42; refine (HW.out _).mono ?_; rintro e w5 ⟨rfl, hn5⟩; obtain ⟨hc5, hf5, hz5⟩ := nwc hn5)
                  | (go_at_call 27; refine (HSL.out _ (hnz.trans (by repeat (first | assumption | exact Nw.refl _ | refine Nw.alloc ?_ _ | refine Nw.drew ?_ | refine Nw.drewN2 ?_ _ | (refine Nw.trans ?_ (by assumption)))))).mono ?_; rintro e w5 ⟨v5, rfl, hs5, hk5, hn5⟩; obtain ⟨p5, c5, rfl⟩ := set_shape hs5; obtain ⟨hc5, hf5, hz5⟩ := nwc hn5))
                    all_goals (refine hK.out _ _ ?_ ?_ <;> first | (solve | (repeat (first | assumption | exact Nw.refl _ | refine Nw.alloc ?_ _ | refine Nw.drew ?_ | refine Nw.drewN2 ?_ _ | (refine Nw.trans ?_ (by assumption))))) | exact rfl | exact ⟨_, _, rfl, hs5⟩)
                  try simp only [Act.put, List.setIfInBounds_toArray, List.set_cons_zero, List.set_cons_succ, Nat.reduceAdd, List.length_nil, List.length_cons, List.nil_append, List.cons_append]
                iterate 1
                  refine Stairs.that (SetS ts) (by first | assumption | simp) ?_ ?_
                  · intro x wR hR hd K hK
                    simp only [Act.put, List.setIfInBounds_toArray, List.set_cons_zero, List.set_cons_succ, Nat.reduceAdd, List.length_nil, List.length_cons, List.nil_append, List.cons_append, Say.ok] at hK ⊢
                    clear hd
                    change Hid _ at hK
                    obtain ⟨hcR, hfR, hzR⟩ := nwc hR
                    first | (refine wanted_yes ?_ ?_; rfl) | (refine wanted_no ?_ ?_; rfl)
                    go_wp2_with (first 
                  | (go_at_call 42; refine (HW.out _).mono ?_; rintro e w5 ⟨rfl, hn5⟩; obtain ⟨hc5, hf5, hz5⟩ := nwc hn5)
                  | (go_at_call 27; refine (HSL.out _ (hnz.trans (by repeat (first | assumption | exact Nw.refl _ | refine Nw.alloc ?_ _ | refine Nw.drew ?_ | refine Nw.drewN2 ?_ _ | (refine Nw.trans ?_ (by assumption)))))).mono ?_; rintro e w5 ⟨v5, rfl, hs5, hk5, hn5⟩; obtain ⟨p5, c5, rfl⟩ := set_shape hs5; obtain ⟨hc5, hf5, hz5⟩ := nwc hn5))
                    all_goals (refine hK.out _ _ ?_ ?_ <;> first | (solve | (repeat (first | assumption | exact Nw.refl _ | refine Nw.alloc ?_ _ | refine Nw.drew ?_ | refine Nw.drewN2 ?_ _ | (refine Nw.trans ?_ (by assumption))))) | exact rfl | exact ⟨_, _, rfl, hs5⟩)
                  try simp only [Act.put, List.setIfInBounds_toArray, List.set_cons_zero, List.set_cons_succ, Nat.reduceAdd, List.length_nil, List.length_cons, List.nil_append, List.cons_append]
                iterate 3
                  refine Stairs.is ?_ ?_ ?_
                  rotate_left 1
                  · intro x wR hR hd K hK
                    simp only [Act.put, List.setIfInBounds_toArray, List.set_cons_zero, List.set_cons_succ, Nat.reduceAdd, List.length_nil, List.length_cons, List.nil_append, List.cons_append, Say.ok] at hK ⊢
                    try simp [Region.binds, sayAt, List.getD_cons_zero, List.getD_cons_succ, Say.ok, Vl] at hd
                    try ((first | (have hz9 : (SetS ts) wR (x 28) := hd; obtain ⟨q9, c9, h9, _⟩ := hz9) | (have hz9 : (SetS ts) wR (x 28) := hd.1; obtain ⟨q9, c9, h9, _⟩ := hz9) | (have hz9 : (SetS ts) wR (x 28) := hd.2; obtain ⟨q9, c9, h9, _⟩ := hz9) | (have hz9 : (SetS ts) wR (x 28) := hd.2.1; obtain ⟨q9, c9, h9, _⟩ := hz9) | (have hz9 : (SetS ts) wR (x 28) := hd.2.2; obtain ⟨q9, c9, h9, _⟩ := hz9)); simp only [h9] at hK ⊢)
                    change Hid _ at hK
                    obtain ⟨hcR, hfR, hzR⟩ := nwc hR
                    first | (refine wanted_yes ?_ ?_; rfl) | (refine wanted_no ?_ ?_; rfl)
                    go_wp2_with (first 
                  | (go_at_call 42; refine (HW.out _).mono ?_; rintro e w5 ⟨rfl, hn5⟩; obtain ⟨hc5, hf5, hz5⟩ := nwc hn5)
                  | (go_at_call 27; refine (HSL.out _ (hnz.trans (by repeat (first | assumption | exact Nw.refl _ | refine Nw.alloc ?_ _ | refine Nw.drew ?_ | refine Nw.drewN2 ?_ _ | (refine Nw.trans ?_ (by assumption)))))).mono ?_; rintro e w5 ⟨v5, rfl, hs5, hk5, hn5⟩; obtain ⟨p5, c5, rfl⟩ := set_shape hs5; obtain ⟨hc5, hf5, hz5⟩ := nwc hn5))
                    all_goals (refine hK.out _ _ ?_ ?_ <;> first | (solve | (repeat (first | assumption | exact Nw.refl _ | refine Nw.alloc ?_ _ | refine Nw.drew ?_ | refine Nw.drewN2 ?_ _ | (refine Nw.trans ?_ (by assumption))))) | exact rfl | exact ⟨_, _, rfl, hs5⟩)
                  try simp only [Act.put, List.setIfInBounds_toArray, List.set_cons_zero, List.set_cons_succ, Nat.reduceAdd, List.length_nil, List.length_cons, List.nil_append, List.cons_append]
                refine Stairs.nil ?_
                intro x wR hR hx
                have h28 := hx 28 (by decide)
                simp only [sayAt, List.getD_cons_zero, List.getD_cons_succ, Say.ok, Vl] at h28
                clear hx
                obtain ⟨hcR, hfR, hzR⟩ := nwc hR
                have a1 := A1.out
                have a2 := A2.out
                go_wp2
                go_ret
                exact Gives.b HF.out.symm (hnw.trans (hnz.trans hR))
              · have HF := hid (HYE.out (bOk_yes (by omega) (by omega) h3 (by omega)))
                have hd3 : (((trim (st bs k)).length : Int) == 0) = false := beq_eq_false_iff_ne.2 (fun q => h3 (List.length_eq_zero_iff.1 (by omega)))
                clear h1 h2 h3 hu
                try clear h4
                clear HNO HYE
                generalize hl : st bs k = s at *
                generalize off bs k = ok at *
                generalize off bs (k - 1) = pk at *
                generalize wide lo hi = W at *
                clear hl
                generalize trim s = ts at *
                go_upto_region 6 with fail
                rename_i Q' K2 a2 K1 a1
                have A1 := hid a1
                have A2 := hid a2
                clear a1 a2
                have hnz := (Nw.refl wr).alloc (.cells #[.int .i64 ok, .slice q s.length c] 60)
                obtain ⟨z0, z1⟩ := box2 wr (.int .i64 ok) (.slice q s.length c) 60
                have x0 := hnz.cell y0
                have x1 := hnz.cell y1
                have e0 := hnz.cell d0
                clear y0 y1 c0 c1 d0
                generalize wr.alloc (.cells #[.int .i64 ok, .slice q s.length c] 60) = wz at *
                have g0 := World.block_lt_of_cell? wz _ x0
                have g1 := World.block_lt_of_cell? wz _ z0
                have g2 := World.block_lt_of_cell? wz _ e0
                simp only at g0 g1 g2
                have stL := SetS.stab ts
                refine wp_region_stairs (by kernel_rfl) (by kernel_rfl) (by kernel_rfl) ?_
                iterate 28
                  refine Stairs.is ?_ ?_ ?_
                  rotate_left 1
                  · intro x wR hR hd K hK
                    simp only [Act.put, List.setIfInBounds_toArray, List.set_cons_zero, List.set_cons_succ, Nat.reduceAdd, List.length_nil, List.length_cons, List.nil_append, List.cons_append, Say.ok] at hK ⊢
                    clear hd
                    change Hid _ at hK
                    obtain ⟨hcR, hfR, hzR⟩ := nwc hR
                    first | (refine wanted_yes ?_ ?_; rfl) | (refine wanted_no ?_ ?_; rfl)
                    go_wp2_with (first 
                  | (go_at_call 42; refine (HW.out _).mono ?_; rintro e w5 ⟨rfl, hn5⟩; obtain ⟨hc5, hf5, hz5⟩ := nwc hn5)
                  | (go_at_call 27; refine (HSL.out _ (hnz.trans (by repeat (first | assumption | exact Nw.refl _ | refine Nw.alloc ?_ _ | refine Nw.drew ?_ | refine Nw.drewN2 ?_ _ | (refine Nw.trans ?_ (by assumption)))))).mono ?_; rintro e w5 ⟨v5, rfl, hs5, hk5, hn5⟩; obtain ⟨p5, c5, rfl⟩ := set_shape hs5; obtain ⟨hc5, hf5, hz5⟩ := nwc hn5))
                    all_goals (refine hK.out _ _ ?_ ?_ <;> first | (solve | (repeat (first | assumption | exact Nw.refl _ | refine Nw.alloc ?_ _ | refine Nw.drew ?_ | refine Nw.drewN2 ?_ _ | (refine Nw.trans ?_ (by assumption))))) | exact rfl | exact ⟨_, _, rfl, hs5⟩)
                  try simp only [Act.put, List.setIfInBounds_toArray, List.set_cons_zero, List.set_cons_succ, Nat.reduceAdd, List.length_nil, List.length_cons, List.nil_append, List.cons_append]
                iterate 1
                  refine Stairs.that (SetS ts) (by first | assumption | simp) ?_ ?_
                  · intro x wR hR hd K hK
                    simp only [Act.put, List.setIfInBounds_toArray, List.set_cons_zero, List.set_cons_succ, Nat.reduceAdd, List.length_nil, List.length_cons, List.nil_append, List.cons_append, Say.ok] at hK ⊢
                    clear hd
                    change Hid _ at hK
                    obtain ⟨hcR, hfR, hzR⟩ := nwc hR
                    first | (refine wanted_yes ?_ ?_; rfl) | (refine wanted_no ?_ ?_; rfl)
                    go_wp2_with (first 
                  | (go_at_call 42; refine (HW.out _).mono ?_; rintro e w5 ⟨rfl, hn5⟩; obtain ⟨hc5, hf5, hz5⟩ := nwc hn5)
                  | (go_at_call 27; refine (HSL.out _ (hnz.trans (by repeat (first | assumption | exact Nw.refl _ | refine Nw.alloc ?_ _ | refine Nw.drew ?_ | refine Nw.drewN2 ?_ _ | (refine Nw.trans ?_ (by assumption)))))).mono ?_; rintro e w5 ⟨v5, rfl, hs5, hk5, hn5⟩; obtain ⟨p5, c5, rfl⟩ := set_shape hs5; obtain ⟨hc5, hf5, hz5⟩ := nwc hn5))
                    all_goals (refine hK.out _ _ ?_ ?_ <;> first | (solve | (repeat (first | assumption | exact Nw.refl _ | refine Nw.alloc ?_ _ | refine Nw.drew ?_ | refine Nw.drewN2 ?_ _ | (refine Nw.trans ?_ (by assumption))))) | exact rfl | exact ⟨_, _, rfl, hs5⟩)
                  try simp only [Act.put, List.setIfInBounds_toArray, List.set_cons_zero, List.set_cons_succ, Nat.reduceAdd, List.length_nil, List.length_cons, List.nil_append, List.cons_append]
                iterate 3
                  refine Stairs.is ?_ ?_ ?_
                  rotate_left 1
                  · intro x wR hR hd K hK
                    simp only [Act.put, List.setIfInBounds_toArray, List.set_cons_zero, List.set_cons_succ, Nat.reduceAdd, List.length_nil, List.length_cons, List.nil_append, List.cons_append, Say.ok] at hK ⊢
                    try simp [Region.binds, sayAt, List.getD_cons_zero, List.getD_cons_succ, Say.ok, Vl] at hd
                    try ((first | (have hz9 : (SetS ts) wR (x 28) := hd; obtain ⟨q9, c9, h9, _⟩ := hz9) | (have hz9 : (SetS ts) wR (x 28) := hd.1; obtain ⟨q9, c9, h9, _⟩ := hz9) | (have hz9 : (SetS ts) wR (x 28) := hd.2; obtain ⟨q9, c9, h9, _⟩ := hz9) | (have hz9 : (SetS ts) wR (x 28) := hd.2.1; obtain ⟨q9, c9, h9, _⟩ := hz9) | (have hz9 : (SetS ts) wR (x 28) := hd.2.2; obtain ⟨q9, c9, h9, _⟩ := hz9)); simp only [h9] at hK ⊢)
                    change Hid _ at hK
                    obtain ⟨hcR, hfR, hzR⟩ := nwc hR
                    first | (refine wanted_yes ?_ ?_; rfl) | (refine wanted_no ?_ ?_; rfl)
                    go_wp2_with (first 
                  | (go_at_call 42; refine (HW.out _).mono ?_; rintro e w5 ⟨rfl, hn5⟩; obtain ⟨hc5, hf5, hz5⟩ := nwc hn5)
                  | (go_at_call 27; refine (HSL.out _ (hnz.trans (by repeat (first | assumption | exact Nw.refl _ | refine Nw.alloc ?_ _ | refine Nw.drew ?_ | refine Nw.drewN2 ?_ _ | (refine Nw.trans ?_ (by assumption)))))).mono ?_; rintro e w5 ⟨v5, rfl, hs5, hk5, hn5⟩; obtain ⟨p5, c5, rfl⟩ := set_shape hs5; obtain ⟨hc5, hf5, hz5⟩ := nwc hn5))
                    all_goals (refine hK.out _ _ ?_ ?_ <;> first | (solve | (repeat (first | assumption | exact Nw.refl _ | refine Nw.alloc ?_ _ | refine Nw.drew ?_ | refine Nw.drewN2 ?_ _ | (refine Nw.trans ?_ (by assumption))))) | exact rfl | exact ⟨_, _, rfl, hs5⟩)
                  try simp only [Act.put, List.setIfInBounds_toArray, List.set_cons_zero, List.set_cons_succ, Nat.reduceAdd, List.length_nil, List.length_cons, List.nil_append, List.cons_append]
                refine Stairs.nil ?_
                intro x wR hR hx
                have h28 := hx 28 (by decide)
                simp only [sayAt, List.getD_cons_zero, List.getD_cons_succ, Say.ok, Vl] at h28
                clear hx
                obtain ⟨hcR, hfR, hzR⟩ := nwc hR
                have a1 := A1.out
                have a2 := A2.out
                go_wp2
                go_roundw
                case rel => exact ⟨k + 1, by omega, by go_num, HF, hnr.trans (hnz.trans hR)⟩
                case measure => simp [intOf]; omega
      · obtain rfl : k = bs.length := by omega
        have hdk : decide (bs.length < bs.length) = false := decide_eq_false (by omega)
        have HF := hid (show mayW lo hi bs = true by unfold mayW; rw [hN]; exact hu.out)
        have a3 := A3.out
        go_wp2
        go_ret
        exact Gives.b HF.out.symm hnw
  · rw [Bool.not_eq_true] at hN
    have HF := hid (show mayW lo hi bs = false by unfold mayW; rw [hN]; rfl)
    rw [hN] at HM
    go_enter Try.func60, Try.ntmps60
    unfold span at *
    go_wp2_with (first
      | (go_at_call 64; refine (HM.out _).mono ?_; rintro e w1 ⟨rfl, hn1⟩)
      | fail)
    go_ret
    exact Gives.b HF.out.symm (by repeat (first | assumption | exact Nw.refl _ | refine Nw.alloc ?_ _ | refine Nw.drew ?_ | refine Nw.drewN2 ?_ _ | (refine Nw.trans ?_ (by assumption))))
end Wn
end Go.Proofs.Ythellicimicieaa
