/- WindowBound walked. No condition. -/
import Derived.Test.YthellicimicieaaWinL
set_option linter.unusedSimpArgs false
set_option linter.unusedVariables false
namespace Go.Proofs.Ythellicimicieaa
open Go.ChangeShapes Go.WideShapes Go.ChangeAt Go.RowKit
namespace Wn
open Ival Words
theorem same_self (a : List Wd) : same a a = true := decide_eq_true rfl
theorem inn_no {lo hi c : Int} (h : inn lo hi c = false) (h0 : 0 ≤ c) (h1 : c < wide lo hi) : c < lo := by
  unfold inn at h
  have := of_decide_eq_false h
  omega
set_option maxRecDepth 20000 in
set_option maxHeartbeats 6400000 in
theorem bound_walk (n : Nat) (vl : Value) (l : Bg) (d : Int) (w : World) (hv : Sl2 w vl (bgv l)) (hl : ∀ x ∈ l, x.1 ≤ 65535) (hd : 0 ≤ d ∧ d ≤ 18446744073709551615) (hn16 : n ≤ 65535) :
    Calls Try.prog 10 #[.int .u16 (n : Int), vl, .int .u64 d] w fun e w' => e = .returned (.bool true) ∧ Nw w w' := by
  have hmay := sp_may (n := n % 2700) (by omega)
  have hbd := sp_bd (n := n % 2700) (by omega)
  have HSP := hid (fun w' => span_w (n % 2700) w' (by omega))
  generalize spLo (n % 2700) = lo at *
  generalize spHi (n % 2700) = hi at *
  have HMK := hid (fun w' (h : Nw w w') => make_w lo hi vl l w' (hv.nw h) hl hmay)
  have HW := hid (show Mk lo hi (mkW lo hi (l.take 50)) from ⟨hmay, mkW_pl hmay _, mk_sm lo hi l, by omega⟩)
  have hlo : -9223372036854775808 ≤ lo ∧ lo ≤ 9223372036854775807 := by omega
  obtain ⟨p1, k1, rfl, _, _, _, _⟩ := hv.open (n := l.length) (by simp [bgv])
  generalize mkW lo hi (l.take 50) = W at *
  have hsm : Sm 1000000 1000000 W := HW.out.sm.mono (by decide) (by decide)
  clear hv hl hmay hbd
  generalize l.length = nl at *
  have hA : Pl lo hi (shiftP lo hi W d) := shift_pl hd.1 HW.out.pl.ok
  have hsA : Sm 50 1 (shiftP lo hi W d) := shift_sm HW.out.sm lo hi d
  have hwb := wide_bd lo hi
  have hlw : ((shiftP lo hi W d).length : Int) ≤ wide lo hi := by
    have := len_wide (shiftP lo hi W d) 0 (wide lo hi) hwb.1 hA.cn.ris (fun x hx => hA.bd x hx)
    omega
  have hcb : cellsP (shiftP lo hi W d) ≤ (shiftP lo hi W d).length * 2 := cells_bd (n := 0) hsA.m
  have HSD := hid (fun v w' (h : Bks w' v W) => shift_w lo hi d v W w' h hsm hd hlo)
  have HAW := hid (fun w' => awake_w w')
  generalize shiftP lo hi W d = A at *
  have hsm2 : Sm 1000000 1000000 A := hsA.mono (by decide) (by decide)
  have HMA := hid (fun v w' (h : Bks w' v A) => show Calls Try.prog 33 #[span lo hi, v] w' (Gives (.bool true) w') by
    have := may_w lo hi v A w' h hsm2
    rwa [hA.mayW] at this)
  have HWD := hid (fun w' => wide_c lo hi w')
  have HCE := hid (fun v w' (h : Bks w' v A) => cells_w v A w' h hsm2)
  have HSO := hid (fun v w' (h : Bks w' v A) => some_w lo hi v A w' h hsm2)
  have HSR := hid (show someP lo hi A = ors lo hi [] (A.take A.length) by unfold someP; rw [if_pos hA.mayW, List.take_length])
  have HPL := hid hA
  have hAn := hsA.n
  unfold span at *
  go_enter Try.func10, Try.ntmps10
  go_upto_region 2 with (first
    | (go_at_call 14; refine (HSP.out _).mono ?_; rintro e w1 ⟨rfl, hn1⟩)
    | fail)
  obtain ⟨x0, x1⟩ := box2 w1 (.int .i64 lo) (.int .i64 hi) 26
  have hn := hn1.alloc (.cells #[.int .i64 lo, .int .i64 hi] 26)
  clear hn1
  generalize w1.alloc (.cells #[.int .i64 lo, .int .i64 hi] 26) = w2 at *
  have g0 := World.block_lt_of_cell? w2 _ x0
  simp only at g0
  have stW := BkR.stab W
  have stA := BkR.stab A
  refine wp_region_stairs (by kernel_rfl) (by kernel_rfl) (by kernel_rfl) ?_
  iterate 3
    refine Stairs.is ?_ ?_ ?_
    rotate_left 1
    · intro x wR hR hd K hK
      simp only [Act.put, List.setIfInBounds_toArray, List.set_cons_zero, List.set_cons_succ, Nat.reduceAdd, List.length_nil, List.length_cons, List.nil_append, List.cons_append, Say.ok] at hK ⊢
      clear hd
      change Hid _ at hK
      obtain ⟨hcR, hfR, hzR⟩ := nwc hR
      first | (refine wanted_yes ?_ ?_; rfl) | (refine wanted_no ?_ ?_; rfl)
      first | (refine hK.out _ _ ?_ ?_ <;> first | (solve | (repeat (first | assumption | exact Nw.refl _ | refine Nw.alloc ?_ _ | refine Nw.drew ?_ | refine Nw.drewN2 ?_ _ | (refine Nw.trans ?_ (by assumption))))) | ((conv => lhs; whnf) <;> exact rfl) | exact rfl | exact BkOwn.bks ho6 | exact hd | exact hd.1) | (go_step; first | (refine hK.out _ _ ?_ ?_ <;> first | (solve | (repeat (first | assumption | exact Nw.refl _ | refine Nw.alloc ?_ _ | refine Nw.drew ?_ | refine Nw.drewN2 ?_ _ | (refine Nw.trans ?_ (by assumption))))) | ((conv => lhs; whnf) <;> exact rfl) | exact rfl | exact BkOwn.bks ho6 | exact hd | exact hd.1) | ((first  | (go_at_call 15; refine (HMK.out _ (hn.trans (by repeat (first | assumption | exact Nw.refl _ | refine Nw.alloc ?_ _ | refine Nw.drew ?_ | refine Nw.drewN2 ?_ _ | (refine Nw.trans ?_ (by assumption)))))).mono ?_; rintro e w6 ⟨v6, rfl, ho6, hn6⟩) | (go_at_call 17; refine (HSD.out (x 3) _ ?_).mono ?_; (first | exact hd.1 | exact hd.2 | exact hd.2.1); rintro e w6 ⟨v6, rfl, ho6, hn6⟩)); (refine hK.out _ _ ?_ ?_ <;> first | (solve | (repeat (first | assumption | exact Nw.refl _ | refine Nw.alloc ?_ _ | refine Nw.drew ?_ | refine Nw.drewN2 ?_ _ | (refine Nw.trans ?_ (by assumption))))) | ((conv => lhs; whnf) <;> exact rfl) | exact rfl | exact BkOwn.bks ho6 | exact hd | exact hd.1)))
    try simp only [Act.put, List.setIfInBounds_toArray, List.set_cons_zero, List.set_cons_succ, Nat.reduceAdd, List.length_nil, List.length_cons, List.nil_append, List.cons_append]
  iterate 1
    refine Stairs.that (BkR W) (by first | assumption | simp) ?_ ?_
    · intro x wR hR hd K hK
      simp only [Act.put, List.setIfInBounds_toArray, List.set_cons_zero, List.set_cons_succ, Nat.reduceAdd, List.length_nil, List.length_cons, List.nil_append, List.cons_append, Say.ok] at hK ⊢
      clear hd
      change Hid _ at hK
      obtain ⟨hcR, hfR, hzR⟩ := nwc hR
      first | (refine wanted_yes ?_ ?_; rfl) | (refine wanted_no ?_ ?_; rfl)
      first | (refine hK.out _ _ ?_ ?_ <;> first | (solve | (repeat (first | assumption | exact Nw.refl _ | refine Nw.alloc ?_ _ | refine Nw.drew ?_ | refine Nw.drewN2 ?_ _ | (refine Nw.trans ?_ (by assumption))))) | ((conv => lhs; whnf) <;> exact rfl) | exact rfl | exact BkOwn.bks ho6 | exact hd | exact hd.1) | (go_step; first | (refine hK.out _ _ ?_ ?_ <;> first | (solve | (repeat (first | assumption | exact Nw.refl _ | refine Nw.alloc ?_ _ | refine Nw.drew ?_ | refine Nw.drewN2 ?_ _ | (refine Nw.trans ?_ (by assumption))))) | ((conv => lhs; whnf) <;> exact rfl) | exact rfl | exact BkOwn.bks ho6 | exact hd | exact hd.1) | ((first  | (go_at_call 15; refine (HMK.out _ (hn.trans (by repeat (first | assumption | exact Nw.refl _ | refine Nw.alloc ?_ _ | refine Nw.drew ?_ | refine Nw.drewN2 ?_ _ | (refine Nw.trans ?_ (by assumption)))))).mono ?_; rintro e w6 ⟨v6, rfl, ho6, hn6⟩) | (go_at_call 17; refine (HSD.out (x 3) _ ?_).mono ?_; (first | exact hd.1 | exact hd.2 | exact hd.2.1); rintro e w6 ⟨v6, rfl, ho6, hn6⟩)); (refine hK.out _ _ ?_ ?_ <;> first | (solve | (repeat (first | assumption | exact Nw.refl _ | refine Nw.alloc ?_ _ | refine Nw.drew ?_ | refine Nw.drewN2 ?_ _ | (refine Nw.trans ?_ (by assumption))))) | ((conv => lhs; whnf) <;> exact rfl) | exact rfl | exact BkOwn.bks ho6 | exact hd | exact hd.1)))
    try simp only [Act.put, List.setIfInBounds_toArray, List.set_cons_zero, List.set_cons_succ, Nat.reduceAdd, List.length_nil, List.length_cons, List.nil_append, List.cons_append]
  iterate 1
    refine Stairs.is ?_ ?_ ?_
    rotate_left 1
    · intro x wR hR hd K hK
      simp only [Act.put, List.setIfInBounds_toArray, List.set_cons_zero, List.set_cons_succ, Nat.reduceAdd, List.length_nil, List.length_cons, List.nil_append, List.cons_append, Say.ok] at hK ⊢
      clear hd
      change Hid _ at hK
      obtain ⟨hcR, hfR, hzR⟩ := nwc hR
      first | (refine wanted_yes ?_ ?_; rfl) | (refine wanted_no ?_ ?_; rfl)
      first | (refine hK.out _ _ ?_ ?_ <;> first | (solve | (repeat (first | assumption | exact Nw.refl _ | refine Nw.alloc ?_ _ | refine Nw.drew ?_ | refine Nw.drewN2 ?_ _ | (refine Nw.trans ?_ (by assumption))))) | ((conv => lhs; whnf) <;> exact rfl) | exact rfl | exact BkOwn.bks ho6 | exact hd | exact hd.1) | (go_step; first | (refine hK.out _ _ ?_ ?_ <;> first | (solve | (repeat (first | assumption | exact Nw.refl _ | refine Nw.alloc ?_ _ | refine Nw.drew ?_ | refine Nw.drewN2 ?_ _ | (refine Nw.trans ?_ (by assumption))))) | ((conv => lhs; whnf) <;> exact rfl) | exact rfl | exact BkOwn.bks ho6 | exact hd | exact hd.1) | ((first  | (go_at_call 15; refine (HMK.out _ (hn.trans (by repeat (first | assumption | exact Nw.refl _ | refine Nw.alloc ?_ _ | refine Nw.drew ?_ | refine Nw.drewN2 ?_ _ | (refine Nw.trans ?_ (by assumption)))))).mono ?_; rintro e w6 ⟨v6, rfl, ho6, hn6⟩) | (go_at_call 17; refine (HSD.out (x 3) _ ?_).mono ?_; (first | exact hd.1 | exact hd.2 | exact hd.2.1); rintro e w6 ⟨v6, rfl, ho6, hn6⟩)); (refine hK.out _ _ ?_ ?_ <;> first | (solve | (repeat (first | assumption | exact Nw.refl _ | refine Nw.alloc ?_ _ | refine Nw.drew ?_ | refine Nw.drewN2 ?_ _ | (refine Nw.trans ?_ (by assumption))))) | ((conv => lhs; whnf) <;> exact rfl) | exact rfl | exact BkOwn.bks ho6 | exact hd | exact hd.1)))
    try simp only [Act.put, List.setIfInBounds_toArray, List.set_cons_zero, List.set_cons_succ, Nat.reduceAdd, List.length_nil, List.length_cons, List.nil_append, List.cons_append]
  iterate 1
    refine Stairs.that (BkR A) (by first | assumption | simp) ?_ ?_
    · intro x wR hR hd K hK
      simp only [Act.put, List.setIfInBounds_toArray, List.set_cons_zero, List.set_cons_succ, Nat.reduceAdd, List.length_nil, List.length_cons, List.nil_append, List.cons_append, Say.ok] at hK ⊢
      try simp [Region.binds, sayAt, List.getD_cons_zero, List.getD_cons_succ, Say.ok, Vl] at hd
      change Hid _ at hK
      obtain ⟨hcR, hfR, hzR⟩ := nwc hR
      first | (refine wanted_yes ?_ ?_; rfl) | (refine wanted_no ?_ ?_; rfl)
      first | (refine hK.out _ _ ?_ ?_ <;> first | (solve | (repeat (first | assumption | exact Nw.refl _ | refine Nw.alloc ?_ _ | refine Nw.drew ?_ | refine Nw.drewN2 ?_ _ | (refine Nw.trans ?_ (by assumption))))) | ((conv => lhs; whnf) <;> exact rfl) | exact rfl | exact BkOwn.bks ho6 | exact hd | exact hd.1) | (go_step; first | (refine hK.out _ _ ?_ ?_ <;> first | (solve | (repeat (first | assumption | exact Nw.refl _ | refine Nw.alloc ?_ _ | refine Nw.drew ?_ | refine Nw.drewN2 ?_ _ | (refine Nw.trans ?_ (by assumption))))) | ((conv => lhs; whnf) <;> exact rfl) | exact rfl | exact BkOwn.bks ho6 | exact hd | exact hd.1) | ((first  | (go_at_call 15; refine (HMK.out _ (hn.trans (by repeat (first | assumption | exact Nw.refl _ | refine Nw.alloc ?_ _ | refine Nw.drew ?_ | refine Nw.drewN2 ?_ _ | (refine Nw.trans ?_ (by assumption)))))).mono ?_; rintro e w6 ⟨v6, rfl, ho6, hn6⟩) | (go_at_call 17; refine (HSD.out (x 3) _ ?_).mono ?_; (first | exact hd.1 | exact hd.2 | exact hd.2.1); rintro e w6 ⟨v6, rfl, ho6, hn6⟩)); (refine hK.out _ _ ?_ ?_ <;> first | (solve | (repeat (first | assumption | exact Nw.refl _ | refine Nw.alloc ?_ _ | refine Nw.drew ?_ | refine Nw.drewN2 ?_ _ | (refine Nw.trans ?_ (by assumption))))) | ((conv => lhs; whnf) <;> exact rfl) | exact rfl | exact BkOwn.bks ho6 | exact hd | exact hd.1)))
    try simp only [Act.put, List.setIfInBounds_toArray, List.set_cons_zero, List.set_cons_succ, Nat.reduceAdd, List.length_nil, List.length_cons, List.nil_append, List.cons_append]
  iterate 1
    refine Stairs.that (BkR A) (by first | assumption | simp) ?_ ?_
    · intro x wR hR hd K hK
      simp only [Act.put, List.setIfInBounds_toArray, List.set_cons_zero, List.set_cons_succ, Nat.reduceAdd, List.length_nil, List.length_cons, List.nil_append, List.cons_append, Say.ok] at hK ⊢
      try simp [Region.binds, sayAt, List.getD_cons_zero, List.getD_cons_succ, Say.ok, Vl] at hd
      change Hid _ at hK
      obtain ⟨hcR, hfR, hzR⟩ := nwc hR
      first | (refine wanted_yes ?_ ?_; rfl) | (refine wanted_no ?_ ?_; rfl)
      first | (refine hK.out _ _ ?_ ?_ <;> first | (solve | (repeat (first | assumption | exact Nw.refl _ | refine Nw.alloc ?_ _ | refine Nw.drew ?_ | refine Nw.drewN2 ?_ _ | (refine Nw.trans ?_ (by assumption))))) | ((conv => lhs; whnf) <;> exact rfl) | exact rfl | exact BkOwn.bks ho6 | exact hd | exact hd.1) | (go_step; first | (refine hK.out _ _ ?_ ?_ <;> first | (solve | (repeat (first | assumption | exact Nw.refl _ | refine Nw.alloc ?_ _ | refine Nw.drew ?_ | refine Nw.drewN2 ?_ _ | (refine Nw.trans ?_ (by assumption))))) | ((conv => lhs; whnf) <;> exact rfl) | exact rfl | exact BkOwn.bks ho6 | exact hd | exact hd.1) | ((first  | (go_at_call 15; refine (HMK.out _ (hn.trans (by repeat (first | assumption | exact Nw.refl _ | refine Nw.alloc ?_ _ | refine Nw.drew ?_ | refine Nw.drewN2 ?_ _ | (refine Nw.trans ?_ (by assumption)))))).mono ?_; rintro e w6 ⟨v6, rfl, ho6, hn6⟩) | (go_at_call 17; refine (HSD.out (x 3) _ ?_).mono ?_; (first | exact hd.1 | exact hd.2 | exact hd.2.1); rintro e w6 ⟨v6, rfl, ho6, hn6⟩)); (refine hK.out _ _ ?_ ?_ <;> first | (solve | (repeat (first | assumption | exact Nw.refl _ | refine Nw.alloc ?_ _ | refine Nw.drew ?_ | refine Nw.drewN2 ?_ _ | (refine Nw.trans ?_ (by assumption))))) | ((conv => lhs; whnf) <;> exact rfl) | exact rfl | exact BkOwn.bks ho6 | exact hd | exact hd.1)))
    try simp only [Act.put, List.setIfInBounds_toArray, List.set_cons_zero, List.set_cons_succ, Nat.reduceAdd, List.length_nil, List.length_cons, List.nil_append, List.cons_append]
  refine Stairs.nil ?_
  intro x wR hR hx
  have h3 := hx 3 (by decide)
  simp only [sayAt, List.getD_cons_zero, List.getD_cons_succ, Say.ok, Vl] at h3
  have h5 := hx 5 (by decide)
  simp only [sayAt, List.getD_cons_zero, List.getD_cons_succ, Say.ok, Vl] at h5
  have h6 := hx 6 (by decide)
  simp only [sayAt, List.getD_cons_zero, List.getD_cons_succ, Say.ok, Vl] at h6
  clear hx
  obtain ⟨hcR, hfR, hzR⟩ := nwc hR
  have x0 := hR.cell x0
  have x1 := hR.cell x1
  have hwR := hn.trans hR
  have hB6 : Bks wR (x 6) A := h6
  clear hcR hfR hzR h3 h5 h6 hR hn stW stA g0
  obtain ⟨q6, c6, e6⟩ := hB6.shape rfl
  rw [e6] at hB6 ⊢
  have HB6 := hid hB6
  obtain ⟨_, _, e7, hcap, hmx, _, hbc⟩ := hB6
  cases e7
  have HBC := hid hbc
  unfold maxLen at hmx
  clear hbc e6
  have hdw : decide (wide lo hi < (A.length : Int)) = false := decide_eq_false (by omega)
  have hdw2 : decide ((cellsP A : Int) ≤ 2 * wide lo hi) = true := decide_eq_true (by omega)
  have HNL := hid hlw
  clear hlw hcb hA hd
  generalize hWd : wide lo hi = Wd at *
  have HWE := hid hWd
  clear hWd
  go_upto_region 5 with (first
    | (go_at_call 33; refine (HMA.out _ _ HB6.out).mono ?_; rintro e w4 ⟨rfl, hn4⟩; have x0 := hn4.cell x0; have x1 := hn4.cell x1)
    | (go_at_call 34; refine (HWD.out _).mono ?_; rintro e w5 ⟨rfl, hn5⟩; have x0 := hn5.cell x0; have x1 := hn5.cell x1)
    | fail)
  have hn45 := hn4.trans hn5
  have HB5 := hid (HB6.out.nw hn45)
  have HBC := hid (HBC.out.nw hn45)
  have hw5 := hwR.trans hn45
  clear hn4 hn5 hn45 HB6 hwR
  go_wp2
  have hE : Words.Set (w5.alloc (.cells #[] 24)) (.slice (some ⟨w5.heap.size, 0, none⟩) 0 0) [] := Sl.new w5 [] 24 (0, 0) (by simp [maxLen])
  have hnz := (Nw.refl w5).alloc (.cells #[] 24)
  have x0 := hnz.cell x0
  have x1 := hnz.cell x1
  have HB5 := hid (HB5.out.nw hnz)
  have HBC := hid (HBC.out.nw hnz)
  have hw5 := hw5.trans hnz
  clear hnz
  generalize w5.alloc (.cells #[] 24) = w6 at *
  generalize w5.heap.size = g5 at *
  go_loopw [9, 10, 12, 37] (fun m v _ i wr => ∃ k : Nat, k ≤ A.length ∧ i = .int .i64 k ∧ m = .int .i64 (cellsP (A.take k) : Int) ∧ Words.Set wr v (ors lo hi [] (A.take k)) ∧ Nw w6 wr) (fun _ _ _ i _ => A.length - (intOf i).toNat)
  case atStart => exact ⟨0, Nat.zero_le _, rfl, rfl, hE, Nw.refl _⟩
  case round =>
    obtain ⟨k, hk, rfl, rfl, hset, hnr⟩ := hrel
    have y0 := hnr.cell x0
    have y1 := hnr.cell x1
    have hz := World.block_lt_of_cell? wr _ y0
    simp only at hz
    by_cases hlt : k < A.length
    · have hdk : decide (k < A.length) = true := decide_eq_true hlt
      obtain ⟨b1, o1, q, c', rfl, d0, d1, hsl⟩ := bc_shape (HBC.out.nw hnr) k hlt
      have HT := hid (ors_snoc lo hi A k hlt)
      have HT2 := hid (cells_snoc A k hlt)
      have hcl := cells_le hsm2 (k + 1)
      rw [HT2.out] at hcl
      have htr := (HPL.out.cn.tr _ (off_mem hlt)).1
      dsimp only at htr
      rw [htr] at hcl HT2
      have hob := HPL.out.bd _ (off_mem hlt)
      dsimp only at hob
      have hol : (ors lo hi [] (A.take k)).length ≤ 1000000 := ors_len _ _ (Nat.zero_le _) (take_sm hsm2 k).m
      have hsn := hsm2.at k hlt
      have HIN := hid (fun w' => inn_c lo hi (off A k) w')
      have HNO := hid (fun h => inn_no (lo := lo) (hi := hi) h hob.1 hob.2)
      clear hob htr
      generalize st A k = s at *
      generalize off A k = ok at *
      generalize inn lo hi ok = b at *
      generalize ors lo hi [] (A.take k) = so at *
      generalize cellsP (A.take k) = cp at *
      have HOR := hid (fun vo w' (h : Nw wr w') (hvo : Words.Set wr vo so) => or_c vo _ so s w' (hvo.nw h) (hsl.nw h) (Nat.le_trans hol (by decide)) (Nat.le_trans hsn (by decide)))
      obtain ⟨qo, co, rfl⟩ := set_shape hset
      clear hsl
      have hnz := (Nw.refl wr).alloc (.cells #[.int .i64 ok, .slice q s.length c'] 60)
      unfold span at *
      cases b with
      | false =>
        have hdl : decide (lo ≤ ok) = false := decide_eq_false (by have := HNO.out rfl; omega)
        clear HNO
        go_wp2_with (first
          | (go_at_call 35; refine (HIN.out _).mono ?_; rintro e w7 ⟨rfl, hn7⟩; have z0 := hn7.cell (box2 wr (.int .i64 ok) (.slice q s.length c') 60).1; have y0 := (hnz.trans hn7).cell y0; have y1 := (hnz.trans hn7).cell y1)
          | fail)
        go_roundw
        case rel => exact ⟨k + 1, by omega, by go_num, by rw [HT2.out]; go_num, by rw [HT.out]; exact hset.nw (hnz.trans hn7), hnr.trans (hnz.trans hn7)⟩
        case measure => simp [intOf]; omega
      | true =>
        clear HNO
        go_wp2_with (first
          | (go_at_call 35; refine (HIN.out _).mono ?_; rintro e w7 ⟨rfl, hn7⟩; have z1 := hn7.cell (box2 wr (.int .i64 ok) (.slice q s.length c') 60).2)
          | (go_at_call 36; refine (HOR.out _ _ (hnz.trans hn7) hset).mono ?_; rintro e w8 ⟨v8, rfl, hs8, hk8, hn8⟩)
          | fail)
        go_roundw
        case rel => exact ⟨k + 1, by omega, by go_num, by rw [HT2.out]; go_num, by rw [HT.out]; exact hs8, hnr.trans (hnz.trans (hn7.trans hn8))⟩
        case measure => simp [intOf]; omega
    · obtain rfl : k = A.length := by omega
      have hdk : decide (A.length < A.length) = false := decide_eq_false (by omega)
      rw [← HSR.out] at hset
      rw [List.take_length]
      have hcc := cells_le hsm2 A.length
      rw [List.take_length] at hcc
      generalize cellsP A = cA at *
      have HB := hid (HB5.out.nw hnr)
      go_wp2_with (first
        | (go_at_call 37; refine (HCE.out _ _ HB.out).mono ?_; rintro e w7 ⟨rfl, hn7⟩; have y0 := hn7.cell y0; have y1 := hn7.cell y1)
        | (go_at_call 34; refine (HWD.out _).mono ?_; rintro e w8 ⟨rfl, hn8⟩; have y0 := hn8.cell y0; have y1 := hn8.cell y1)
        | (go_at_call 39; refine (HSO.out _ _ (HB.out.nw (hn7.trans hn8))).mono ?_; rintro e w9 ⟨v9, rfl, hs9, hn9⟩)
        | (go_at_call 38; refine (same_c _ _ _ _ _ hs9 (hset.nw ((hn7.trans hn8).trans hn9))).mono ?_; rw [same_self]; rintro e w10 ⟨rfl, hn10⟩)
        | (go_at_call 18; refine (HAW.out _).mono ?_; rintro e w11 ⟨rfl, hn11⟩)
        | fail)
      go_ret
      exact ⟨rfl, hw5.trans (hnr.trans (hn7.trans (hn8.trans (hn9.trans (hn10.trans hn11)))))⟩
end Wn
end Go.Proofs.Ythellicimicieaa
