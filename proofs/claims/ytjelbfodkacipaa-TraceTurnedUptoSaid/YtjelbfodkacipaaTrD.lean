/- The contracts of May, both. No condition but a text's length. -/
import Derived.Test.YtjelbfodkacipaaTrC
set_option linter.unusedSimpArgs false
set_option linter.unusedVariables false
namespace Go.Proofs.Ytjelbfodkacipaa
open Go.ChangeShapes Go.WideShapes Go.ChangeAt Go.RowKit
namespace Tr
open Go.Proofs.Ytjelbfodkacipaa.Lx (isIn nameB strs_open strs_cell contains_c)
open Go.Proofs.Ytjelbfodkacipaa.Rec (rises)
/-- A new block of two cells. -/
theorem box2 (w : World) (a b : Value) (e : TypeId) : (w.alloc (.cells #[a, b] e)).cell? ⟨w.heap.size, 0, none⟩ = some a ∧ (w.alloc (.cells #[a, b] e)).cell? ⟨w.heap.size, 1, none⟩ = some b :=
  ⟨cell_new w #[a, b] e (0, 0) 0 (by simp), cell_new w #[a, b] e (0, 0) 1 (by simp)⟩
set_option maxRecDepth 20000 in
set_option maxHeartbeats 1600000 in
theorem may_c (vn ve : Value) (t : T) (w : World) (hvn : Sl w vn (Lx.strs t.names)) (hve : Evs w ve t.evs) (hs : ∀ s ∈ t.names, s.size ≤ 1000000000) : Calls Try.prog 24 #[.agg #[vn, ve]] w (Gives (.bool (mayP t)) w) := by
  obtain ⟨names, es⟩ := t
  dsimp only at hvn hve hs
  obtain ⟨pn, capn, rfl, hcapn, hmxn, _, hcn⟩ := strs_open hvn
  obtain ⟨p, cap, rfl, hcap, hmx, _, hec⟩ := hve
  unfold maxLen at hmx hmxn
  have HE := hid hec
  have HN := hid (fun w' (h : Nw w w') => names_c _ names w' (hvn.nw h) hs)
  clear hec hcn hvn hs
  by_cases hN : namesP names = true
  · go_enter Try.func24, Try.ntmps24
    go_wp2_with (first
      | (go_at_call 18; refine (HN.out _ (by repeat (first | assumption | exact Nw.refl _ | refine Nw.alloc ?_ _ | refine Nw.drew ?_ | refine Nw.drewN2 ?_ _ | (refine Nw.trans ?_ (by assumption))))).mono ?_; rintro e w1 ⟨rfl, hn1⟩; obtain ⟨hc1, hf1, hz1⟩ := nwc hn1)
      | fail)
    have x0 := hn1.cell (box2 w (.slice pn names.length capn) (.slice p es.length cap) 26).1
    have x1 := hn1.cell (box2 w (.slice pn names.length capn) (.slice p es.length cap) 26).2
    have hn : Nw w w1 := (by repeat (first | assumption | exact Nw.refl _ | refine Nw.alloc ?_ _ | refine Nw.drew ?_ | refine Nw.drewN2 ?_ _ | (refine Nw.trans ?_ (by assumption))))
    clear hc1 hf1 hz1 hn1
    go_loopw [3, 4, 12] (fun _ _ i wr => ∃ k : Nat, k ≤ es.length ∧ i = .int .i64 k ∧ Hid (mayTo names.length es k = true) ∧ Nw w1 wr) (fun _ _ i _ => es.length - (intOf i).toNat)
    case atStart => exact ⟨0, Nat.zero_le _, rfl, hid rfl, Nw.refl _⟩
    case round =>
      obtain ⟨k, hk, rfl, hu, hnr⟩ := hrel
      rename_i K3 a3
      have A3 := hid a3
      clear a3
      have hnw := hn.trans hnr
      have y0 := hnr.cell x0
      have y1 := hnr.cell x1
      have hz := World.block_lt_of_cell? wr _ y0
      simp only at hz
      by_cases hlt : k < es.length
      · have hdk : decide (k < es.length) = true := decide_eq_true hlt
        obtain ⟨b1, o1, vi, rfl, c0, c1, hsl⟩ := (HE.out.nw hnw) k hlt
        obtain ⟨q, c, rfl, hcq, hmq, _, _⟩ := Rec.i64s_open hsl
        unfold maxLen at hmq
        have HNO := hid (show eOk names.length es k = false → mayP ⟨names, es⟩ = false from fun h => by unfold mayP; rw [evs_no hlt h, Bool.and_false])
        have HYE := hid (show eOk names.length es k = true → mayTo names.length es (k + 1) = true from fun h => by rw [mayTo, to_succ]; rw [h, Bool.and_true]; exact hu.out)
        have HSL := hid (fun w' (h : Nw wr w') => Rec.tids_c _ (ids es k) names.length w' (hsl.nw h))
        clear hu hsl
        by_cases h1 : rises (ids es k) names.length = true
        · by_cases h2 : 0 < k
          · have hd2 : decide ((0 : Int) < k) = true := decide_eq_true (by omega)
            have hd2n : decide (0 < k) = true := decide_eq_true h2
            obtain ⟨b2, o2, vj, e2, d0, _, _⟩ := (HE.out.nw hnw) (k - 1) (by omega)
            cases e2
            have ek : ((k : Int) - 1).toNat = k - 1 := by omega
            by_cases h3 : tm es k < tm es (k - 1)
            · have hd3 : decide (tm es k < tm es (k - 1)) = true := decide_eq_true h3
              have HF := hid (HNO.out (tm_no h1 h2 h3))
              clear h3
              clear HNO HYE
              generalize hl : ids es k = l at *
              generalize tm es k = tk at *
              generalize tm es (k - 1) = tj at *
              clear hl
              go_upto_region 6 with fail
              rename_i Q' K2 a2 K1 a1
              have A1 := hid a1
              have A2 := hid a2
              clear a1 a2
              have hnz := (Nw.refl wr).alloc (.cells #[.int .u64 tk, .slice q l.length c] 39)
              obtain ⟨z0, z1⟩ := box2 wr (.int .u64 tk) (.slice q l.length c) 39
              have x0 := hnz.cell y0
              have x1 := hnz.cell y1
              have e0 := hnz.cell d0
              clear y0 y1 c0 c1 d0
              generalize wr.alloc (.cells #[.int .u64 tk, .slice q l.length c] 39) = wz at *
              have g0 := World.block_lt_of_cell? wz _ x0
              have g1 := World.block_lt_of_cell? wz _ z0
              have g2 := World.block_lt_of_cell? wz _ e0
              simp only at g0 g1 g2
              refine wp_region_stairs (by kernel_rfl) (by kernel_rfl) (by kernel_rfl) ?_
              iterate 23
                refine Stairs.is ?_ ?_ ?_
                rotate_left 1
                · intro x wR hR hd K hK
                  simp only [Act.put, List.setIfInBounds_toArray, List.set_cons_zero, List.set_cons_succ, Nat.reduceAdd, List.length_nil, List.length_cons, List.nil_append, List.cons_append, Say.ok] at hK ⊢
                  clear hd
                  change Hid _ at hK
                  obtain ⟨hcR, hfR, hzR⟩ := nwc hR
                  first | (refine wanted_yes ?_ ?_; rfl) | (refine wanted_no ?_ ?_; rfl)
                  go_wp2_with (first | (go_at_call 20; refine (HSL.out _ (hnz.trans (by repeat (first | assumption | exact Nw.refl _ | refine Nw.alloc ?_ _ | refine Nw.drew ?_ | refine Nw.drewN2 ?_ _ | (refine Nw.trans ?_ (by assumption)))))).mono ?_; rintro e w5 ⟨rfl, hn5⟩; obtain ⟨hc5, hf5, hz5⟩ := nwc hn5))
                  all_goals (refine hK.out _ _ ?_ ?_ <;> first | (solve | (repeat (first | assumption | exact Nw.refl _ | refine Nw.alloc ?_ _ | refine Nw.drew ?_ | refine Nw.drewN2 ?_ _ | (refine Nw.trans ?_ (by assumption))))) | exact rfl)
                try simp only [Act.put, List.setIfInBounds_toArray, List.set_cons_zero, List.set_cons_succ, Nat.reduceAdd, List.length_nil, List.length_cons, List.nil_append, List.cons_append]
              refine Stairs.nil ?_
              intro x wR hR hx
              clear hx
              obtain ⟨hcR, hfR, hzR⟩ := nwc hR
              have a1 := A1.out
              have a2 := A2.out
              go_wp2
              go_ret
              exact Gives.b HF.out.symm (hnw.trans (hnz.trans hR))
            · have hd3 : decide (tm es k < tm es (k - 1)) = false := decide_eq_false h3
              have HF := hid (HYE.out (e_yes h1 (Or.inr h3)))
              clear h3
              clear HNO HYE
              generalize hl : ids es k = l at *
              generalize tm es k = tk at *
              generalize tm es (k - 1) = tj at *
              clear hl
              go_upto_region 6 with fail
              rename_i Q' K2 a2 K1 a1
              have A1 := hid a1
              have A2 := hid a2
              clear a1 a2
              have hnz := (Nw.refl wr).alloc (.cells #[.int .u64 tk, .slice q l.length c] 39)
              obtain ⟨z0, z1⟩ := box2 wr (.int .u64 tk) (.slice q l.length c) 39
              have x0 := hnz.cell y0
              have x1 := hnz.cell y1
              have e0 := hnz.cell d0
              clear y0 y1 c0 c1 d0
              generalize wr.alloc (.cells #[.int .u64 tk, .slice q l.length c] 39) = wz at *
              have g0 := World.block_lt_of_cell? wz _ x0
              have g1 := World.block_lt_of_cell? wz _ z0
              have g2 := World.block_lt_of_cell? wz _ e0
              simp only at g0 g1 g2
              refine wp_region_stairs (by kernel_rfl) (by kernel_rfl) (by kernel_rfl) ?_
              iterate 23
                refine Stairs.is ?_ ?_ ?_
                rotate_left 1
                · intro x wR hR hd K hK
                  simp only [Act.put, List.setIfInBounds_toArray, List.set_cons_zero, List.set_cons_succ, Nat.reduceAdd, List.length_nil, List.length_cons, List.nil_append, List.cons_append, Say.ok] at hK ⊢
                  clear hd
                  change Hid _ at hK
                  obtain ⟨hcR, hfR, hzR⟩ := nwc hR
                  first | (refine wanted_yes ?_ ?_; rfl) | (refine wanted_no ?_ ?_; rfl)
                  go_wp2_with (first | (go_at_call 20; refine (HSL.out _ (hnz.trans (by repeat (first | assumption | exact Nw.refl _ | refine Nw.alloc ?_ _ | refine Nw.drew ?_ | refine Nw.drewN2 ?_ _ | (refine Nw.trans ?_ (by assumption)))))).mono ?_; rintro e w5 ⟨rfl, hn5⟩; obtain ⟨hc5, hf5, hz5⟩ := nwc hn5))
                  all_goals (refine hK.out _ _ ?_ ?_ <;> first | (solve | (repeat (first | assumption | exact Nw.refl _ | refine Nw.alloc ?_ _ | refine Nw.drew ?_ | refine Nw.drewN2 ?_ _ | (refine Nw.trans ?_ (by assumption))))) | exact rfl)
                try simp only [Act.put, List.setIfInBounds_toArray, List.set_cons_zero, List.set_cons_succ, Nat.reduceAdd, List.length_nil, List.length_cons, List.nil_append, List.cons_append]
              refine Stairs.nil ?_
              intro x wR hR hx
              clear hx
              obtain ⟨hcR, hfR, hzR⟩ := nwc hR
              have a1 := A1.out
              have a2 := A2.out
              go_wp2
              go_roundw
              case rel => exact ⟨k + 1, by omega, by go_num, HF, hnr.trans (hnz.trans hR)⟩
              case measure => simp [intOf]; omega
          · have hd2 : decide ((0 : Int) < k) = false := decide_eq_false (by omega)
            have hd2n : decide (0 < k) = false := decide_eq_false h2
            have d0 := c0
            have HF := hid (HYE.out (e_yes h1 (Or.inl (by omega))))
            clear h2
            clear HNO HYE
            generalize hl : ids es k = l at *
            generalize tm es k = tk at *
            generalize tm es (k - 1) = tj at *
            clear hl
            go_upto_region 6 with fail
            rename_i Q' K2 a2 K1 a1
            have A1 := hid a1
            have A2 := hid a2
            clear a1 a2
            have hnz := (Nw.refl wr).alloc (.cells #[.int .u64 tk, .slice q l.length c] 39)
            obtain ⟨z0, z1⟩ := box2 wr (.int .u64 tk) (.slice q l.length c) 39
            have x0 := hnz.cell y0
            have x1 := hnz.cell y1
            have e0 := hnz.cell d0
            clear y0 y1 c0 c1 d0
            generalize wr.alloc (.cells #[.int .u64 tk, .slice q l.length c] 39) = wz at *
            have g0 := World.block_lt_of_cell? wz _ x0
            have g1 := World.block_lt_of_cell? wz _ z0
            have g2 := World.block_lt_of_cell? wz _ e0
            simp only at g0 g1 g2
            refine wp_region_stairs (by kernel_rfl) (by kernel_rfl) (by kernel_rfl) ?_
            iterate 23
              refine Stairs.is ?_ ?_ ?_
              rotate_left 1
              · intro x wR hR hd K hK
                simp only [Act.put, List.setIfInBounds_toArray, List.set_cons_zero, List.set_cons_succ, Nat.reduceAdd, List.length_nil, List.length_cons, List.nil_append, List.cons_append, Say.ok] at hK ⊢
                clear hd
                change Hid _ at hK
                obtain ⟨hcR, hfR, hzR⟩ := nwc hR
                first | (refine wanted_yes ?_ ?_; rfl) | (refine wanted_no ?_ ?_; rfl)
                go_wp2_with (first | (go_at_call 20; refine (HSL.out _ (hnz.trans (by repeat (first | assumption | exact Nw.refl _ | refine Nw.alloc ?_ _ | refine Nw.drew ?_ | refine Nw.drewN2 ?_ _ | (refine Nw.trans ?_ (by assumption)))))).mono ?_; rintro e w5 ⟨rfl, hn5⟩; obtain ⟨hc5, hf5, hz5⟩ := nwc hn5))
                all_goals (refine hK.out _ _ ?_ ?_ <;> first | (solve | (repeat (first | assumption | exact Nw.refl _ | refine Nw.alloc ?_ _ | refine Nw.drew ?_ | refine Nw.drewN2 ?_ _ | (refine Nw.trans ?_ (by assumption))))) | exact rfl)
              try simp only [Act.put, List.setIfInBounds_toArray, List.set_cons_zero, List.set_cons_succ, Nat.reduceAdd, List.length_nil, List.length_cons, List.nil_append, List.cons_append]
            refine Stairs.nil ?_
            intro x wR hR hx
            clear hx
            obtain ⟨hcR, hfR, hzR⟩ := nwc hR
            have a1 := A1.out
            have a2 := A2.out
            go_wp2
            go_roundw
            case rel => exact ⟨k + 1, by omega, by go_num, HF, hnr.trans (hnz.trans hR)⟩
            case measure => simp [intOf]; omega
        · rw [Bool.not_eq_true] at h1
          have d0 := c0
          have HF := hid (HNO.out (ids_no h1))
          clear HNO HYE
          generalize hl : ids es k = l at *
          generalize tm es k = tk at *
          generalize tm es (k - 1) = tj at *
          clear hl
          go_upto_region 6 with fail
          rename_i Q' K2 a2 K1 a1
          have A1 := hid a1
          have A2 := hid a2
          clear a1 a2
          have hnz := (Nw.refl wr).alloc (.cells #[.int .u64 tk, .slice q l.length c] 39)
          obtain ⟨z0, z1⟩ := box2 wr (.int .u64 tk) (.slice q l.length c) 39
          have x0 := hnz.cell y0
          have x1 := hnz.cell y1
          have e0 := hnz.cell d0
          clear y0 y1 c0 c1 d0
          generalize wr.alloc (.cells #[.int .u64 tk, .slice q l.length c] 39) = wz at *
          have g0 := World.block_lt_of_cell? wz _ x0
          have g1 := World.block_lt_of_cell? wz _ z0
          have g2 := World.block_lt_of_cell? wz _ e0
          simp only at g0 g1 g2
          refine wp_region_stairs (by kernel_rfl) (by kernel_rfl) (by kernel_rfl) ?_
          iterate 23
            refine Stairs.is ?_ ?_ ?_
            rotate_left 1
            · intro x wR hR hd K hK
              simp only [Act.put, List.setIfInBounds_toArray, List.set_cons_zero, List.set_cons_succ, Nat.reduceAdd, List.length_nil, List.length_cons, List.nil_append, List.cons_append, Say.ok] at hK ⊢
              clear hd
              change Hid _ at hK
              obtain ⟨hcR, hfR, hzR⟩ := nwc hR
              first | (refine wanted_yes ?_ ?_; rfl) | (refine wanted_no ?_ ?_; rfl)
              go_wp2_with (first | (go_at_call 20; refine (HSL.out _ (hnz.trans (by repeat (first | assumption | exact Nw.refl _ | refine Nw.alloc ?_ _ | refine Nw.drew ?_ | refine Nw.drewN2 ?_ _ | (refine Nw.trans ?_ (by assumption)))))).mono ?_; rintro e w5 ⟨rfl, hn5⟩; obtain ⟨hc5, hf5, hz5⟩ := nwc hn5))
              all_goals (refine hK.out _ _ ?_ ?_ <;> first | (solve | (repeat (first | assumption | exact Nw.refl _ | refine Nw.alloc ?_ _ | refine Nw.drew ?_ | refine Nw.drewN2 ?_ _ | (refine Nw.trans ?_ (by assumption))))) | exact rfl)
            try simp only [Act.put, List.setIfInBounds_toArray, List.set_cons_zero, List.set_cons_succ, Nat.reduceAdd, List.length_nil, List.length_cons, List.nil_append, List.cons_append]
          refine Stairs.nil ?_
          intro x wR hR hx
          clear hx
          obtain ⟨hcR, hfR, hzR⟩ := nwc hR
          have a1 := A1.out
          have a2 := A2.out
          go_wp2
          go_ret
          exact Gives.b HF.out.symm (hnw.trans (hnz.trans hR))
      · obtain rfl : k = es.length := by omega
        have hdk : decide (es.length < es.length) = false := decide_eq_false (by omega)
        have HF := hid (show mayP ⟨names, es⟩ = true by unfold mayP; rw [hN]; exact hu.out)
        have a3 := A3.out
        go_wp2
        go_ret
        exact Gives.b HF.out.symm hnw
  · rw [Bool.not_eq_true] at hN
    have HF := hid (show mayP ⟨names, es⟩ = false by unfold mayP; rw [hN]; rfl)
    go_enter Try.func24, Try.ntmps24
    go_wp2_with (first
      | (go_at_call 18; refine (HN.out _ (by repeat (first | assumption | exact Nw.refl _ | refine Nw.alloc ?_ _ | refine Nw.drew ?_ | refine Nw.drewN2 ?_ _ | (refine Nw.trans ?_ (by assumption))))).mono ?_; rintro e w1 ⟨rfl, hn1⟩)
      | fail)
    go_ret
    exact Gives.b HF.out.symm (by repeat (first | assumption | exact Nw.refl _ | refine Nw.alloc ?_ _ | refine Nw.drew ?_ | refine Nw.drewN2 ?_ _ | (refine Nw.trans ?_ (by assumption))))

set_option maxRecDepth 20000 in
set_option maxHeartbeats 1600000 in
theorem rmay_c (vn ve : Value) (t : T) (w : World) (hvn : Sl w vn (Lx.strs t.names)) (hve : Evs w ve t.evs) (hs : ∀ s ∈ t.names, s.size ≤ 1000000000) : Calls Try.prog 40 #[.agg #[vn, ve]] w (Gives (.bool (mayP t)) w) := by
  obtain ⟨names, es⟩ := t
  dsimp only at hvn hve hs
  obtain ⟨pn, capn, rfl, hcapn, hmxn, _, hcn⟩ := strs_open hvn
  obtain ⟨p, cap, rfl, hcap, hmx, _, hec⟩ := hve
  unfold maxLen at hmx hmxn
  have HE := hid hec
  have HN := hid (fun w' (h : Nw w w') => rnames_c _ names w' (hvn.nw h) hs)
  clear hec hcn hvn hs
  by_cases hN : namesP names = true
  · go_enter Try.func40, Try.ntmps40
    go_wp2_with (first
      | (go_at_call 19; refine (HN.out _ (by repeat (first | assumption | exact Nw.refl _ | refine Nw.alloc ?_ _ | refine Nw.drew ?_ | refine Nw.drewN2 ?_ _ | (refine Nw.trans ?_ (by assumption))))).mono ?_; rintro e w1 ⟨rfl, hn1⟩; obtain ⟨hc1, hf1, hz1⟩ := nwc hn1)
      | fail)
    have x0 := hn1.cell (box2 w (.slice pn names.length capn) (.slice p es.length cap) 26).1
    have x1 := hn1.cell (box2 w (.slice pn names.length capn) (.slice p es.length cap) 26).2
    have hn : Nw w w1 := (by repeat (first | assumption | exact Nw.refl _ | refine Nw.alloc ?_ _ | refine Nw.drew ?_ | refine Nw.drewN2 ?_ _ | (refine Nw.trans ?_ (by assumption))))
    clear hc1 hf1 hz1 hn1
    go_loopw [3, 4, 12] (fun _ _ i wr => ∃ k : Nat, k ≤ es.length ∧ i = .int .i64 k ∧ Hid (mayTo names.length es k = true) ∧ Nw w1 wr) (fun _ _ i _ => es.length - (intOf i).toNat)
    case atStart => exact ⟨0, Nat.zero_le _, rfl, hid rfl, Nw.refl _⟩
    case round =>
      obtain ⟨k, hk, rfl, hu, hnr⟩ := hrel
      rename_i K3 a3
      have A3 := hid a3
      clear a3
      have hnw := hn.trans hnr
      have y0 := hnr.cell x0
      have y1 := hnr.cell x1
      have hz := World.block_lt_of_cell? wr _ y0
      simp only at hz
      by_cases hlt : k < es.length
      · have hdk : decide (k < es.length) = true := decide_eq_true hlt
        obtain ⟨b1, o1, vi, rfl, c0, c1, hsl⟩ := (HE.out.nw hnw) k hlt
        obtain ⟨q, c, rfl, hcq, hmq, _, _⟩ := Rec.i64s_open hsl
        unfold maxLen at hmq
        have HNO := hid (show eOk names.length es k = false → mayP ⟨names, es⟩ = false from fun h => by unfold mayP; rw [evs_no hlt h, Bool.and_false])
        have HYE := hid (show eOk names.length es k = true → mayTo names.length es (k + 1) = true from fun h => by rw [mayTo, to_succ]; rw [h, Bool.and_true]; exact hu.out)
        have HSL := hid (fun w' (h : Nw wr w') => Rec.rids_c _ (ids es k) names.length w' (hsl.nw h))
        clear hu hsl
        by_cases h1 : rises (ids es k) names.length = true
        · by_cases h2 : 0 < k
          · have hd2 : decide ((0 : Int) < k) = true := decide_eq_true (by omega)
            have hd2n : decide (0 < k) = true := decide_eq_true h2
            obtain ⟨b2, o2, vj, e2, d0, _, _⟩ := (HE.out.nw hnw) (k - 1) (by omega)
            cases e2
            have ek : ((k : Int) - 1).toNat = k - 1 := by omega
            by_cases h3 : tm es k < tm es (k - 1)
            · have hd3 : decide (tm es k < tm es (k - 1)) = true := decide_eq_true h3
              have HF := hid (HNO.out (tm_no h1 h2 h3))
              clear h3
              clear HNO HYE
              generalize hl : ids es k = l at *
              generalize tm es k = tk at *
              generalize tm es (k - 1) = tj at *
              clear hl
              go_upto_region 6 with fail
              rename_i Q' K2 a2 K1 a1
              have A1 := hid a1
              have A2 := hid a2
              clear a1 a2
              have hnz := (Nw.refl wr).alloc (.cells #[.int .u64 tk, .slice q l.length c] 39)
              obtain ⟨z0, z1⟩ := box2 wr (.int .u64 tk) (.slice q l.length c) 39
              have x0 := hnz.cell y0
              have x1 := hnz.cell y1
              have e0 := hnz.cell d0
              clear y0 y1 c0 c1 d0
              generalize wr.alloc (.cells #[.int .u64 tk, .slice q l.length c] 39) = wz at *
              have g0 := World.block_lt_of_cell? wz _ x0
              have g1 := World.block_lt_of_cell? wz _ z0
              have g2 := World.block_lt_of_cell? wz _ e0
              simp only at g0 g1 g2
              refine wp_region_stairs (by kernel_rfl) (by kernel_rfl) (by kernel_rfl) ?_
              iterate 23
                refine Stairs.is ?_ ?_ ?_
                rotate_left 1
                · intro x wR hR hd K hK
                  simp only [Act.put, List.setIfInBounds_toArray, List.set_cons_zero, List.set_cons_succ, Nat.reduceAdd, List.length_nil, List.length_cons, List.nil_append, List.cons_append, Say.ok] at hK ⊢
                  clear hd
                  change Hid _ at hK
                  obtain ⟨hcR, hfR, hzR⟩ := nwc hR
                  first | (refine wanted_yes ?_ ?_; rfl) | (refine wanted_no ?_ ?_; rfl)
                  go_wp2_with (first | (go_at_call 21; refine (HSL.out _ (hnz.trans (by repeat (first | assumption | exact Nw.refl _ | refine Nw.alloc ?_ _ | refine Nw.drew ?_ | refine Nw.drewN2 ?_ _ | (refine Nw.trans ?_ (by assumption)))))).mono ?_; rintro e w5 ⟨rfl, hn5⟩; obtain ⟨hc5, hf5, hz5⟩ := nwc hn5))
                  all_goals (refine hK.out _ _ ?_ ?_ <;> first | (solve | (repeat (first | assumption | exact Nw.refl _ | refine Nw.alloc ?_ _ | refine Nw.drew ?_ | refine Nw.drewN2 ?_ _ | (refine Nw.trans ?_ (by assumption))))) | exact rfl)
                try simp only [Act.put, List.setIfInBounds_toArray, List.set_cons_zero, List.set_cons_succ, Nat.reduceAdd, List.length_nil, List.length_cons, List.nil_append, List.cons_append]
              refine Stairs.nil ?_
              intro x wR hR hx
              clear hx
              obtain ⟨hcR, hfR, hzR⟩ := nwc hR
              have a1 := A1.out
              have a2 := A2.out
              go_wp2
              go_ret
              exact Gives.b HF.out.symm (hnw.trans (hnz.trans hR))
            · have hd3 : decide (tm es k < tm es (k - 1)) = false := decide_eq_false h3
              have HF := hid (HYE.out (e_yes h1 (Or.inr h3)))
              clear h3
              clear HNO HYE
              generalize hl : ids es k = l at *
              generalize tm es k = tk at *
              generalize tm es (k - 1) = tj at *
              clear hl
              go_upto_region 6 with fail
              rename_i Q' K2 a2 K1 a1
              have A1 := hid a1
              have A2 := hid a2
              clear a1 a2
              have hnz := (Nw.refl wr).alloc (.cells #[.int .u64 tk, .slice q l.length c] 39)
              obtain ⟨z0, z1⟩ := box2 wr (.int .u64 tk) (.slice q l.length c) 39
              have x0 := hnz.cell y0
              have x1 := hnz.cell y1
              have e0 := hnz.cell d0
              clear y0 y1 c0 c1 d0
              generalize wr.alloc (.cells #[.int .u64 tk, .slice q l.length c] 39) = wz at *
              have g0 := World.block_lt_of_cell? wz _ x0
              have g1 := World.block_lt_of_cell? wz _ z0
              have g2 := World.block_lt_of_cell? wz _ e0
              simp only at g0 g1 g2
              refine wp_region_stairs (by kernel_rfl) (by kernel_rfl) (by kernel_rfl) ?_
              iterate 23
                refine Stairs.is ?_ ?_ ?_
                rotate_left 1
                · intro x wR hR hd K hK
                  simp only [Act.put, List.setIfInBounds_toArray, List.set_cons_zero, List.set_cons_succ, Nat.reduceAdd, List.length_nil, List.length_cons, List.nil_append, List.cons_append, Say.ok] at hK ⊢
                  clear hd
                  change Hid _ at hK
                  obtain ⟨hcR, hfR, hzR⟩ := nwc hR
                  first | (refine wanted_yes ?_ ?_; rfl) | (refine wanted_no ?_ ?_; rfl)
                  go_wp2_with (first | (go_at_call 21; refine (HSL.out _ (hnz.trans (by repeat (first | assumption | exact Nw.refl _ | refine Nw.alloc ?_ _ | refine Nw.drew ?_ | refine Nw.drewN2 ?_ _ | (refine Nw.trans ?_ (by assumption)))))).mono ?_; rintro e w5 ⟨rfl, hn5⟩; obtain ⟨hc5, hf5, hz5⟩ := nwc hn5))
                  all_goals (refine hK.out _ _ ?_ ?_ <;> first | (solve | (repeat (first | assumption | exact Nw.refl _ | refine Nw.alloc ?_ _ | refine Nw.drew ?_ | refine Nw.drewN2 ?_ _ | (refine Nw.trans ?_ (by assumption))))) | exact rfl)
                try simp only [Act.put, List.setIfInBounds_toArray, List.set_cons_zero, List.set_cons_succ, Nat.reduceAdd, List.length_nil, List.length_cons, List.nil_append, List.cons_append]
              refine Stairs.nil ?_
              intro x wR hR hx
              clear hx
              obtain ⟨hcR, hfR, hzR⟩ := nwc hR
              have a1 := A1.out
              have a2 := A2.out
              go_wp2
              go_roundw
              case rel => exact ⟨k + 1, by omega, by go_num, HF, hnr.trans (hnz.trans hR)⟩
              case measure => simp [intOf]; omega
          · have hd2 : decide ((0 : Int) < k) = false := decide_eq_false (by omega)
            have hd2n : decide (0 < k) = false := decide_eq_false h2
            have d0 := c0
            have HF := hid (HYE.out (e_yes h1 (Or.inl (by omega))))
            clear h2
            clear HNO HYE
            generalize hl : ids es k = l at *
            generalize tm es k = tk at *
            generalize tm es (k - 1) = tj at *
            clear hl
            go_upto_region 6 with fail
            rename_i Q' K2 a2 K1 a1
            have A1 := hid a1
            have A2 := hid a2
            clear a1 a2
            have hnz := (Nw.refl wr).alloc (.cells #[.int .u64 tk, .slice q l.length c] 39)
            obtain ⟨z0, z1⟩ := box2 wr (.int .u64 tk) (.slice q l.length c) 39
            have x0 := hnz.cell y0
            have x1 := hnz.cell y1
            have e0 := hnz.cell d0
            clear y0 y1 c0 c1 d0
            generalize wr.alloc (.cells #[.int .u64 tk, .slice q l.length c] 39) = wz at *
            have g0 := World.block_lt_of_cell? wz _ x0
            have g1 := World.block_lt_of_cell? wz _ z0
            have g2 := World.block_lt_of_cell? wz _ e0
            simp only at g0 g1 g2
            refine wp_region_stairs (by kernel_rfl) (by kernel_rfl) (by kernel_rfl) ?_
            iterate 23
              refine Stairs.is ?_ ?_ ?_
              rotate_left 1
              · intro x wR hR hd K hK
                simp only [Act.put, List.setIfInBounds_toArray, List.set_cons_zero, List.set_cons_succ, Nat.reduceAdd, List.length_nil, List.length_cons, List.nil_append, List.cons_append, Say.ok] at hK ⊢
                clear hd
                change Hid _ at hK
                obtain ⟨hcR, hfR, hzR⟩ := nwc hR
                first | (refine wanted_yes ?_ ?_; rfl) | (refine wanted_no ?_ ?_; rfl)
                go_wp2_with (first | (go_at_call 21; refine (HSL.out _ (hnz.trans (by repeat (first | assumption | exact Nw.refl _ | refine Nw.alloc ?_ _ | refine Nw.drew ?_ | refine Nw.drewN2 ?_ _ | (refine Nw.trans ?_ (by assumption)))))).mono ?_; rintro e w5 ⟨rfl, hn5⟩; obtain ⟨hc5, hf5, hz5⟩ := nwc hn5))
                all_goals (refine hK.out _ _ ?_ ?_ <;> first | (solve | (repeat (first | assumption | exact Nw.refl _ | refine Nw.alloc ?_ _ | refine Nw.drew ?_ | refine Nw.drewN2 ?_ _ | (refine Nw.trans ?_ (by assumption))))) | exact rfl)
              try simp only [Act.put, List.setIfInBounds_toArray, List.set_cons_zero, List.set_cons_succ, Nat.reduceAdd, List.length_nil, List.length_cons, List.nil_append, List.cons_append]
            refine Stairs.nil ?_
            intro x wR hR hx
            clear hx
            obtain ⟨hcR, hfR, hzR⟩ := nwc hR
            have a1 := A1.out
            have a2 := A2.out
            go_wp2
            go_roundw
            case rel => exact ⟨k + 1, by omega, by go_num, HF, hnr.trans (hnz.trans hR)⟩
            case measure => simp [intOf]; omega
        · rw [Bool.not_eq_true] at h1
          have d0 := c0
          have HF := hid (HNO.out (ids_no h1))
          clear HNO HYE
          generalize hl : ids es k = l at *
          generalize tm es k = tk at *
          generalize tm es (k - 1) = tj at *
          clear hl
          go_upto_region 6 with fail
          rename_i Q' K2 a2 K1 a1
          have A1 := hid a1
          have A2 := hid a2
          clear a1 a2
          have hnz := (Nw.refl wr).alloc (.cells #[.int .u64 tk, .slice q l.length c] 39)
          obtain ⟨z0, z1⟩ := box2 wr (.int .u64 tk) (.slice q l.length c) 39
          have x0 := hnz.cell y0
          have x1 := hnz.cell y1
          have e0 := hnz.cell d0
          clear y0 y1 c0 c1 d0
          generalize wr.alloc (.cells #[.int .u64 tk, .slice q l.length c] 39) = wz at *
          have g0 := World.block_lt_of_cell? wz _ x0
          have g1 := World.block_lt_of_cell? wz _ z0
          have g2 := World.block_lt_of_cell? wz _ e0
          simp only at g0 g1 g2
          refine wp_region_stairs (by kernel_rfl) (by kernel_rfl) (by kernel_rfl) ?_
          iterate 23
            refine Stairs.is ?_ ?_ ?_
            rotate_left 1
            · intro x wR hR hd K hK
              simp only [Act.put, List.setIfInBounds_toArray, List.set_cons_zero, List.set_cons_succ, Nat.reduceAdd, List.length_nil, List.length_cons, List.nil_append, List.cons_append, Say.ok] at hK ⊢
              clear hd
              change Hid _ at hK
              obtain ⟨hcR, hfR, hzR⟩ := nwc hR
              first | (refine wanted_yes ?_ ?_; rfl) | (refine wanted_no ?_ ?_; rfl)
              go_wp2_with (first | (go_at_call 21; refine (HSL.out _ (hnz.trans (by repeat (first | assumption | exact Nw.refl _ | refine Nw.alloc ?_ _ | refine Nw.drew ?_ | refine Nw.drewN2 ?_ _ | (refine Nw.trans ?_ (by assumption)))))).mono ?_; rintro e w5 ⟨rfl, hn5⟩; obtain ⟨hc5, hf5, hz5⟩ := nwc hn5))
              all_goals (refine hK.out _ _ ?_ ?_ <;> first | (solve | (repeat (first | assumption | exact Nw.refl _ | refine Nw.alloc ?_ _ | refine Nw.drew ?_ | refine Nw.drewN2 ?_ _ | (refine Nw.trans ?_ (by assumption))))) | exact rfl)
            try simp only [Act.put, List.setIfInBounds_toArray, List.set_cons_zero, List.set_cons_succ, Nat.reduceAdd, List.length_nil, List.length_cons, List.nil_append, List.cons_append]
          refine Stairs.nil ?_
          intro x wR hR hx
          clear hx
          obtain ⟨hcR, hfR, hzR⟩ := nwc hR
          have a1 := A1.out
          have a2 := A2.out
          go_wp2
          go_ret
          exact Gives.b HF.out.symm (hnw.trans (hnz.trans hR))
      · obtain rfl : k = es.length := by omega
        have hdk : decide (es.length < es.length) = false := decide_eq_false (by omega)
        have HF := hid (show mayP ⟨names, es⟩ = true by unfold mayP; rw [hN]; exact hu.out)
        have a3 := A3.out
        go_wp2
        go_ret
        exact Gives.b HF.out.symm hnw
  · rw [Bool.not_eq_true] at hN
    have HF := hid (show mayP ⟨names, es⟩ = false by unfold mayP; rw [hN]; rfl)
    go_enter Try.func40, Try.ntmps40
    go_wp2_with (first
      | (go_at_call 19; refine (HN.out _ (by repeat (first | assumption | exact Nw.refl _ | refine Nw.alloc ?_ _ | refine Nw.drew ?_ | refine Nw.drewN2 ?_ _ | (refine Nw.trans ?_ (by assumption))))).mono ?_; rintro e w1 ⟨rfl, hn1⟩)
      | fail)
    go_ret
    exact Gives.b HF.out.symm (by repeat (first | assumption | exact Nw.refl _ | refine Nw.alloc ?_ _ | refine Nw.drew ?_ | refine Nw.drewN2 ?_ _ | (refine Nw.trans ?_ (by assumption))))


end Tr
end Go.Proofs.Ytjelbfodkacipaa
