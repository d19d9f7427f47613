/- What was begun, as it comes in; WindowShifts walked. No condition. -/
import Derived.Test.YthellicimicieaaWinK
set_option linter.unusedSimpArgs false
set_option linter.unusedVariables false
namespace Go.Proofs.Ythellicimicieaa
open Go.ChangeShapes Go.WideShapes Go.ChangeAt Go.RowKit
namespace Wn
open Ival Words
theorem later_zero (L H c : Int) (hm : may L H = true) (h0 : 0 ≤ c) (h1 : c < wide L H) : later L H c 0 = c := by
  have := may_yes hm
  have hw := wide_yes hm
  unfold later
  simp only [hw] at h1 ⊢
  clear hw
  unfold last at *
  repeat' split
  all_goals (repeat' split at *) <;> omega
theorem later_later (L H c d e : Int) (hm : may L H = true) (h0 : 0 ≤ c) (h1 : c < wide L H) (hd : 0 ≤ d) (he : 0 ≤ e) : later L H (later L H c d) e = later L H c (d + e) := by
  have := may_yes hm
  have hw := wide_yes hm
  unfold later
  simp only [hw] at h1 ⊢
  clear hw
  unfold last at *
  repeat' split
  all_goals (repeat' split at *) <;> omega
def intIn' : Value → Int
  | .int _ z => z
  | _ => 0
theorem open_begun {H : Type} {enc : TypeId × Value → H} {P : Program} {t e : TypeId} {f0 f1 : Field} {W : World} {base : Nat} {v : Value} {d : DataW H} {p : List MemPlace} (ht : P.underlying t = some (.slice e)) (he : P.underlying e = some (.struct #[f0, f1]))
    (ce : P.cellsOf e = 2) (o0 : f0.offset = 0) (o1 : f1.offset = 1) (c0 : P.cellsOf f0.type = 1) (c1 : P.cellsOf f1.type = 1) (i0 : P.underlying f0.type = some (.int .u16)) (i1 : P.underlying f1.type = some (.int .u64))
    (hval : Value.okWide P W .any base t v) (hj : DataW.Trod enc P W 0 (fun _ => true) true t v d p) :
    ∃ l : Bg, Sl2 W v (bgv l) ∧ (∀ x ∈ l, x.1 ≤ 65535) := by
  obtain ⟨l, h1, h2, sp, h3⟩ := open_sl2 ht he ce o0 o1 c0 c1 hval hj
  have hall : ∀ x ∈ l, ∃ a b : Int, x.1.1 = .int .u16 a ∧ x.2.1 = .int .u64 b ∧ (0 ≤ a ∧ a ≤ 65535) ∧ 0 ≤ b ∧ b ≤ 18446744073709551615 := fun x hx => by
    obtain ⟨⟨n, p0, q0⟩, ⟨m, p1, q1⟩⟩ := h2 x hx
    obtain ⟨a, ha, _, hwa⟩ := DataW.trod_int i0 q0
    obtain ⟨b, hb, _, hwb⟩ := DataW.trod_int i1 q1
    exact ⟨a, b, by simpa using ha, by simpa using hb, bounds_u16 hwa, bounds_u64 hwb⟩
  refine ⟨l.map fun x => ((intIn' x.1.1).toNat, BitVec.ofNat 64 (intIn' x.2.1).toNat), ?_, ?_⟩
  · unfold bgv
    rw [List.map_map]
    have : (l.map ((fun x : Nat × Wd => (Value.int .u16 (x.1 : Int), Value.int .u64 (x.2.toNat : Int))) ∘ fun x => ((intIn' x.1.1).toNat, BitVec.ofNat 64 (intIn' x.2.1).toNat))) = l.map fun x => (x.1.1, x.2.1) := List.map_congr_left fun x hx => by
      obtain ⟨a, b, ha, hb, h4, h5⟩ := hall x hx
      simp only [Function.comp_apply, ha, hb, intIn', BitVec.toNat_ofNat]
      congr 2 <;> omega
    rw [this]; exact h1
  · intro x hx
    obtain ⟨y, hy, rfl⟩ := List.mem_map.1 hx
    obtain ⟨a, b, ha, hb, h4, h5⟩ := hall y hy
    simp only [ha, intIn']
    omega
def BkR (bs : Bs) : Says := fun w v => Bks w v bs
theorem BkR.stab (bs : Bs) : Stab (BkR bs) := fun _ _ _ h hn => Bks.nw h hn
theorem nat_mod (n : Nat) (m : Nat) : ((n : Int) % (m : Int)) = ((n % m : Nat) : Int) := rfl
/-- A window by what was begun. -/
structure Mk (lo hi : Int) (W : Bs) : Prop where
  may : may lo hi = true
  pl : Pl lo hi W
  sm : Sm 50 1 W
  lo : -9223372036854775808 ≤ lo ∧ lo ≤ 9223372036854775807
set_option maxRecDepth 20000 in
set_option maxHeartbeats 3200000 in
theorem shifts_walk (n : Nat) (vl : Value) (l : Bg) (d e : Int) (w : World) (hv : Sl2 w vl (bgv l)) (hl : ∀ x ∈ l, x.1 ≤ 65535) (hd : 0 ≤ d ∧ d ≤ 18446744073709551615) (he : 0 ≤ e ∧ e ≤ 18446744073709551615) (hn16 : n ≤ 65535) :
    Calls Try.prog 3 #[.int .u16 (n : Int), vl, .int .u64 d, .int .u64 e] w fun e w' => e = .returned (.bool true) ∧ Nw w w' := by
  have hmay := sp_may (n := n % 2700) (by omega)
  have hbd := sp_bd (n := n % 2700) (by omega)
  have HSP := hid (fun w' => span_w (n % 2700) w' (by omega))
  generalize spLo (n % 2700) = lo at *
  generalize spHi (n % 2700) = hi at *
  have HMK := hid (fun w' (h : Nw w w') => make_w lo hi vl l w' (hv.nw h) hl hmay)
  have HW := hid (show Mk lo hi (mkW lo hi (l.take 50)) from ⟨hmay, mkW_pl hmay _, mk_sm lo hi l, by omega⟩)
  have hlo : -9223372036854775808 ≤ lo ∧ lo ≤ 9223372036854775807 := by omega
  obtain ⟨p1, k1, rfl, _, _, _, _⟩ := hv.open (n := l.length) (by simp [bgv])
  generalize mkW lo hi (l.take 50) = W at *
  have hsm : Sm 1000000 1000000 W := HW.out.sm.mono (by decide) (by decide)
  clear hv hl hmay hbd
  generalize l.length = nl at *
  have H0 := hid (shift_zero HW.out.pl (later_zero lo hi · HW.out.may))
  have HS0 := hid (fun v w' (h : Bks w' v W) => show Calls Try.prog 17 #[span lo hi, v, .int .u64 0] w' (HandsB w' W) by
    have := shift_w lo hi 0 v W w' h hsm (by omega) hlo
    rwa [H0.out] at this)
  have HSD := hid (fun v w' (h : Bks w' v W) => shift_w lo hi d v W w' h hsm hd hlo)
  have HSE := hid (fun v w' (h : Bks w' v (shiftP lo hi W d)) => shift_w lo hi e v _ w' h (shift_sm hsm lo hi d) he hlo)
  have HAW := hid (fun w' => awake_w w')
  unfold span at *
  go_enter Try.func3, Try.ntmps3
  go_upto_region 2 with (first
    | (go_at_call 14; refine (HSP.out _).mono ?_; rintro e w1 ⟨rfl, hn1⟩)
    | fail)
  obtain ⟨x0, x1⟩ := box2 w1 (.int .i64 lo) (.int .i64 hi) 26
  have hn := hn1.alloc (.cells #[.int .i64 lo, .int .i64 hi] 26)
  clear hn1
  generalize w1.alloc (.cells #[.int .i64 lo, .int .i64 hi] 26) = w2 at *
  go_upto_region 3 with (first
    | (go_at_call 15; refine (HMK.out _ hn).mono ?_; rintro e w3 ⟨v3, rfl, ho3, hn3⟩; obtain ⟨q3, c3, rfl⟩ := ho3.shape rfl; have x0 := hn3.cell x0; have x1 := hn3.cell x1)
    | fail)
  have HO := hid ho3.bks
  have hw3 := hn.trans hn3
  clear ho3 hn hn3
  go_upto_region 5 with (first
    | (go_at_call 17; refine (HS0.out _ _ HO.out).mono ?_; rintro e w4 ⟨v4, rfl, ho4, hn4⟩; obtain ⟨q4, c4, rfl⟩ := ho4.shape rfl; have x0 := hn4.cell x0; have x1 := hn4.cell x1)
    | (go_at_call 16; refine (sameb_w _ _ W W _ ho4.bks (HO.out.nw hn4) hsm.n hsm.n).mono ?_; rw [decide_eq_true rfl]; rintro e w5 ⟨rfl, hn5⟩; have x0 := hn5.cell x0; have x1 := hn5.cell x1)
    | fail)
  have HO := hid (HO.out.nw (hn4.trans hn5))
  have hw5 := hw3.trans (hn4.trans hn5)
  clear ho4 hn4 hn5 hw3
  obtain ⟨d1, d2⟩ := hd
  obtain ⟨e1, e2⟩ := he
  by_cases hof : d + e ≤ 18446744073709551615
  · have hdt : decide (d + e < d) = false := decide_eq_false (by omega)
    have hC := hid (shift_shift d1 e1 HW.out.pl (fun c h0 h1 => later_later lo hi c d e HW.out.may h0 h1 d1 e1))
    have HSF := hid (fun v w' (h : Bks w' v W) => shift_w lo hi (d + e) v W w' h hsm ⟨by omega, hof⟩ hlo)
    rw [hC.out] at HSE
    have hsmC := shift_sm hsm lo hi (d + e)
    generalize shiftP lo hi W d = D at *
    generalize shiftP lo hi W (d + e) = C at *
    unfold span at *
    clear hC
    go_upto_region 7 with fail
    have g0 := World.block_lt_of_cell? w5 _ x0
    simp only at g0
    have stD := BkR.stab D
    have stC := BkR.stab C
    refine wp_region_stairs (by kernel_rfl) (by kernel_rfl) (by kernel_rfl) ?_
    iterate 4
      refine Stairs.is ?_ ?_ ?_
      rotate_left 1
      · intro x wR hR hd K hK
        simp only [Act.put, List.setIfInBounds_toArray, List.set_cons_zero, List.set_cons_succ, Nat.reduceAdd, List.length_nil, List.length_cons, List.nil_append, List.cons_append, Say.ok] at hK ⊢
        clear hd
        change Hid _ at hK
        obtain ⟨hcR, hfR, hzR⟩ := nwc hR
        first | (refine wanted_yes ?_ ?_; rfl) | (refine wanted_no ?_ ?_; rfl)
        first | (refine hK.out _ _ ?_ ?_ <;> first | (solve | (repeat (first | assumption | exact Nw.refl _ | refine Nw.alloc ?_ _ | refine Nw.drew ?_ | refine Nw.drewN2 ?_ _ | (refine Nw.trans ?_ (by assumption))))) | ((conv => lhs; whnf) <;> exact rfl) | exact rfl | exact BkOwn.bks ho6) | (go_step; first | (refine hK.out _ _ ?_ ?_ <;> first | (solve | (repeat (first | assumption | exact Nw.refl _ | refine Nw.alloc ?_ _ | refine Nw.drew ?_ | refine Nw.drewN2 ?_ _ | (refine Nw.trans ?_ (by assumption))))) | ((conv => lhs; whnf) <;> exact rfl) | exact rfl | exact BkOwn.bks ho6) | ((first  | (go_at_call 17; (with_reducible refine (HSD.out _ _ ?_).mono ?_); (exact HO.out.nw (by repeat (first | assumption | exact Nw.refl _ | refine Nw.alloc ?_ _ | refine Nw.drew ?_ | refine Nw.drewN2 ?_ _ | (refine Nw.trans ?_ (by assumption))))); rintro e w6 ⟨v6, rfl, ho6, hn6⟩) | (go_at_call 17; (with_reducible refine (HSE.out (x 4) _ ?_).mono ?_); (first | exact hd.2.1 | exact hd.1 | exact hd.2); rintro e w6 ⟨v6, rfl, ho6, hn6⟩) | (go_at_call 17; (with_reducible refine (HSF.out _ _ ?_).mono ?_); (exact HO.out.nw (by repeat (first | assumption | exact Nw.refl _ | refine Nw.alloc ?_ _ | refine Nw.drew ?_ | refine Nw.drewN2 ?_ _ | (refine Nw.trans ?_ (by assumption))))); rintro e w6 ⟨v6, rfl, ho6, hn6⟩) | (go_at_call 16; refine (sameb_w (x 6) (x 12) C C _ ?_ ?_ hsmC.n hsmC.n).mono ?_; (exact hd.1); (first | exact hd.2 | exact hd.2.1); rw [decide_eq_true rfl]; rintro e w6 ⟨rfl, hn6⟩) | (go_at_call 18; refine (HAW.out _).mono ?_; rintro e w6 ⟨rfl, hn6⟩)); (refine hK.out _ _ ?_ ?_ <;> first | (solve | (repeat (first | assumption | exact Nw.refl _ | refine Nw.alloc ?_ _ | refine Nw.drew ?_ | refine Nw.drewN2 ?_ _ | (refine Nw.trans ?_ (by assumption))))) | ((conv => lhs; whnf) <;> exact rfl) | exact rfl | exact BkOwn.bks ho6)))
      try simp only [Act.put, List.setIfInBounds_toArray, List.set_cons_zero, List.set_cons_succ, Nat.reduceAdd, List.length_nil, List.length_cons, List.nil_append, List.cons_append]
    iterate 1
      refine Stairs.that (BkR D) (by first | assumption | simp) ?_ ?_
      · intro x wR hR hd K hK
        simp only [Act.put, List.setIfInBounds_toArray, List.set_cons_zero, List.set_cons_succ, Nat.reduceAdd, List.length_nil, List.length_cons, List.nil_append, List.cons_append, Say.ok] at hK ⊢
        clear hd
        change Hid _ at hK
        obtain ⟨hcR, hfR, hzR⟩ := nwc hR
        first | (refine wanted_yes ?_ ?_; rfl) | (refine wanted_no ?_ ?_; rfl)
        first | (refine hK.out _ _ ?_ ?_ <;> first | (solve | (repeat (first | assumption | exact Nw.refl _ | refine Nw.alloc ?_ _ | refine Nw.drew ?_ | refine Nw.drewN2 ?_ _ | (refine Nw.trans ?_ (by assumption))))) | ((conv => lhs; whnf) <;> exact rfl) | exact rfl | exact BkOwn.bks ho6) | (go_step; first | (refine hK.out _ _ ?_ ?_ <;> first | (solve | (repeat (first | assumption | exact Nw.refl _ | refine Nw.alloc ?_ _ | refine Nw.drew ?_ | refine Nw.drewN2 ?_ _ | (refine Nw.trans ?_ (by assumption))))) | ((conv => lhs; whnf) <;> exact rfl) | exact rfl | exact BkOwn.bks ho6) | ((first  | (go_at_call 17; (with_reducible refine (HSD.out _ _ ?_).mono ?_); (exact HO.out.nw (by repeat (first | assumption | exact Nw.refl _ | refine Nw.alloc ?_ _ | refine Nw.drew ?_ | refine Nw.drewN2 ?_ _ | (refine Nw.trans ?_ (by assumption))))); rintro e w6 ⟨v6, rfl, ho6, hn6⟩) | (go_at_call 17; (with_reducible refine (HSE.out (x 4) _ ?_).mono ?_); (first | exact hd.2.1 | exact hd.1 | exact hd.2); rintro e w6 ⟨v6, rfl, ho6, hn6⟩) | (go_at_call 17; (with_reducible refine (HSF.out _ _ ?_).mono ?_); (exact HO.out.nw (by repeat (first | assumption | exact Nw.refl _ | refine Nw.alloc ?_ _ | refine Nw.drew ?_ | refine Nw.drewN2 ?_ _ | (refine Nw.trans ?_ (by assumption))))); rintro e w6 ⟨v6, rfl, ho6, hn6⟩) | (go_at_call 16; refine (sameb_w (x 6) (x 12) C C _ ?_ ?_ hsmC.n hsmC.n).mono ?_; (exact hd.1); (first | exact hd.2 | exact hd.2.1); rw [decide_eq_true rfl]; rintro e w6 ⟨rfl, hn6⟩) | (go_at_call 18; refine (HAW.out _).mono ?_; rintro e w6 ⟨rfl, hn6⟩)); (refine hK.out _ _ ?_ ?_ <;> first | (solve | (repeat (first | assumption | exact Nw.refl _ | refine Nw.alloc ?_ _ | refine Nw.drew ?_ | refine Nw.drewN2 ?_ _ | (refine Nw.trans ?_ (by assumption))))) | ((conv => lhs; whnf) <;> exact rfl) | exact rfl | exact BkOwn.bks ho6)))
      try simp only [Act.put, List.setIfInBounds_toArray, List.set_cons_zero, List.set_cons_succ, Nat.reduceAdd, List.length_nil, List.length_cons, List.nil_append, List.cons_append]
    iterate 1
      refine Stairs.is ?_ ?_ ?_
      rotate_left 1
      · intro x wR hR hd K hK
        simp only [Act.put, List.setIfInBounds_toArray, List.set_cons_zero, List.set_cons_succ, Nat.reduceAdd, List.length_nil, List.length_cons, List.nil_append, List.cons_append, Say.ok] at hK ⊢
        clear hd
        change Hid _ at hK
        obtain ⟨hcR, hfR, hzR⟩ := nwc hR
        first | (refine wanted_yes ?_ ?_; rfl) | (refine wanted_no ?_ ?_; rfl)
        first | (refine hK.out _ _ ?_ ?_ <;> first | (solve | (repeat (first | assumption | exact Nw.refl _ | refine Nw.alloc ?_ _ | refine Nw.drew ?_ | refine Nw.drewN2 ?_ _ | (refine Nw.trans ?_ (by assumption))))) | ((conv => lhs; whnf) <;> exact rfl) | exact rfl | exact BkOwn.bks ho6) | (go_step; first | (refine hK.out _ _ ?_ ?_ <;> first | (solve | (repeat (first | assumption | exact Nw.refl _ | refine Nw.alloc ?_ _ | refine Nw.drew ?_ | refine Nw.drewN2 ?_ _ | (refine Nw.trans ?_ (by assumption))))) | ((conv => lhs; whnf) <;> exact rfl) | exact rfl | exact BkOwn.bks ho6) | ((first  | (go_at_call 17; (with_reducible refine (HSD.out _ _ ?_).mono ?_); (exact HO.out.nw (by repeat (first | assumption | exact Nw.refl _ | refine Nw.alloc ?_ _ | refine Nw.drew ?_ | refine Nw.drewN2 ?_ _ | (refine Nw.trans ?_ (by assumption))))); rintro e w6 ⟨v6, rfl, ho6, hn6⟩) | (go_at_call 17; (with_reducible refine (HSE.out (x 4) _ ?_).mono ?_); (first | exact hd.2.1 | exact hd.1 | exact hd.2); rintro e w6 ⟨v6, rfl, ho6, hn6⟩) | (go_at_call 17; (with_reducible refine (HSF.out _ _ ?_).mono ?_); (exact HO.out.nw (by repeat (first | assumption | exact Nw.refl _ | refine Nw.alloc ?_ _ | refine Nw.drew ?_ | refine Nw.drewN2 ?_ _ | (refine Nw.trans ?_ (by assumption))))); rintro e w6 ⟨v6, rfl, ho6, hn6⟩) | (go_at_call 16; refine (sameb_w (x 6) (x 12) C C _ ?_ ?_ hsmC.n hsmC.n).mono ?_; (exact hd.1); (first | exact hd.2 | exact hd.2.1); rw [decide_eq_true rfl]; rintro e w6 ⟨rfl, hn6⟩) | (go_at_call 18; refine (HAW.out _).mono ?_; rintro e w6 ⟨rfl, hn6⟩)); (refine hK.out _ _ ?_ ?_ <;> first | (solve | (repeat (first | assumption | exact Nw.refl _ | refine Nw.alloc ?_ _ | refine Nw.drew ?_ | refine Nw.drewN2 ?_ _ | (refine Nw.trans ?_ (by assumption))))) | ((conv => lhs; whnf) <;> exact rfl) | exact rfl | exact BkOwn.bks ho6)))
      try simp only [Act.put, List.setIfInBounds_toArray, List.set_cons_zero, List.set_cons_succ, Nat.reduceAdd, List.length_nil, List.length_cons, List.nil_append, List.cons_append]
    iterate 1
      refine Stairs.that (BkR C) (by first | assumption | simp) ?_ ?_
      · intro x wR hR hd K hK
        simp only [Act.put, List.setIfInBounds_toArray, List.set_cons_zero, List.set_cons_succ, Nat.reduceAdd, List.length_nil, List.length_cons, List.nil_append, List.cons_append, Say.ok] at hK ⊢
        try simp [Region.binds, sayAt, List.getD_cons_zero, List.getD_cons_succ, Say.ok, Vl] at hd
        change Hid _ at hK
        obtain ⟨hcR, hfR, hzR⟩ := nwc hR
        first | (refine wanted_yes ?_ ?_; rfl) | (refine wanted_no ?_ ?_; rfl)
        first | (refine hK.out _ _ ?_ ?_ <;> first | (solve | (repeat (first | assumption | exact Nw.refl _ | refine Nw.alloc ?_ _ | refine Nw.drew ?_ | refine Nw.drewN2 ?_ _ | (refine Nw.trans ?_ (by assumption))))) | ((conv => lhs; whnf) <;> exact rfl) | exact rfl | exact BkOwn.bks ho6) | (go_step; first | (refine hK.out _ _ ?_ ?_ <;> first | (solve | (repeat (first | assumption | exact Nw.refl _ | refine Nw.alloc ?_ _ | refine Nw.drew ?_ | refine Nw.drewN2 ?_ _ | (refine Nw.trans ?_ (by assumption))))) | ((conv => lhs; whnf) <;> exact rfl) | exact rfl | exact BkOwn.bks ho6) | ((first  | (go_at_call 17; (with_reducible refine (HSD.out _ _ ?_).mono ?_); (exact HO.out.nw (by repeat (first | assumption | exact Nw.refl _ | refine Nw.alloc ?_ _ | refine Nw.drew ?_ | refine Nw.drewN2 ?_ _ | (refine Nw.trans ?_ (by assumption))))); rintro e w6 ⟨v6, rfl, ho6, hn6⟩) | (go_at_call 17; (with_reducible refine (HSE.out (x 4) _ ?_).mono ?_); (first | exact hd.2.1 | exact hd.1 | exact hd.2); rintro e w6 ⟨v6, rfl, ho6, hn6⟩) | (go_at_call 17; (with_reducible refine (HSF.out _ _ ?_).mono ?_); (exact HO.out.nw (by repeat (first | assumption | exact Nw.refl _ | refine Nw.alloc ?_ _ | refine Nw.drew ?_ | refine Nw.drewN2 ?_ _ | (refine Nw.trans ?_ (by assumption))))); rintro e w6 ⟨v6, rfl, ho6, hn6⟩) | (go_at_call 16; refine (sameb_w (x 6) (x 12) C C _ ?_ ?_ hsmC.n hsmC.n).mono ?_; (exact hd.1); (first | exact hd.2 | exact hd.2.1); rw [decide_eq_true rfl]; rintro e w6 ⟨rfl, hn6⟩) | (go_at_call 18; refine (HAW.out _).mono ?_; rintro e w6 ⟨rfl, hn6⟩)); (refine hK.out _ _ ?_ ?_ <;> first | (solve | (repeat (first | assumption | exact Nw.refl _ | refine Nw.alloc ?_ _ | refine Nw.drew ?_ | refine Nw.drewN2 ?_ _ | (refine Nw.trans ?_ (by assumption))))) | ((conv => lhs; whnf) <;> exact rfl) | exact rfl | exact BkOwn.bks ho6)))
      try simp only [Act.put, List.setIfInBounds_toArray, List.set_cons_zero, List.set_cons_succ, Nat.reduceAdd, List.length_nil, List.length_cons, List.nil_append, List.cons_append]
    iterate 5
      refine Stairs.is ?_ ?_ ?_
      rotate_left 1
      · intro x wR hR hd K hK
        simp only [Act.put, List.setIfInBounds_toArray, List.set_cons_zero, List.set_cons_succ, Nat.reduceAdd, List.length_nil, List.length_cons, List.nil_append, List.cons_append, Say.ok] at hK ⊢
        clear hd
        change Hid _ at hK
        obtain ⟨hcR, hfR, hzR⟩ := nwc hR
        first | (refine wanted_yes ?_ ?_; rfl) | (refine wanted_no ?_ ?_; rfl)
        first | (refine hK.out _ _ ?_ ?_ <;> first | (solve | (repeat (first | assumption | exact Nw.refl _ | refine Nw.alloc ?_ _ | refine Nw.drew ?_ | refine Nw.drewN2 ?_ _ | (refine Nw.trans ?_ (by assumption))))) | ((conv => lhs; whnf) <;> exact rfl) | exact rfl | exact BkOwn.bks ho6) | (go_step; first | (refine hK.out _ _ ?_ ?_ <;> first | (solve | (repeat (first | assumption | exact Nw.refl _ | refine Nw.alloc ?_ _ | refine Nw.drew ?_ | refine Nw.drewN2 ?_ _ | (refine Nw.trans ?_ (by assumption))))) | ((conv => lhs; whnf) <;> exact rfl) | exact rfl | exact BkOwn.bks ho6) | ((first  | (go_at_call 17; (with_reducible refine (HSD.out _ _ ?_).mono ?_); (exact HO.out.nw (by repeat (first | assumption | exact Nw.refl _ | refine Nw.alloc ?_ _ | refine Nw.drew ?_ | refine Nw.drewN2 ?_ _ | (refine Nw.trans ?_ (by assumption))))); rintro e w6 ⟨v6, rfl, ho6, hn6⟩) | (go_at_call 17; (with_reducible refine (HSE.out (x 4) _ ?_).mono ?_); (first | exact hd.2.1 | exact hd.1 | exact hd.2); rintro e w6 ⟨v6, rfl, ho6, hn6⟩) | (go_at_call 17; (with_reducible refine (HSF.out _ _ ?_).mono ?_); (exact HO.out.nw (by repeat (first | assumption | exact Nw.refl _ | refine Nw.alloc ?_ _ | refine Nw.drew ?_ | refine Nw.drewN2 ?_ _ | (refine Nw.trans ?_ (by assumption))))); rintro e w6 ⟨v6, rfl, ho6, hn6⟩) | (go_at_call 16; refine (sameb_w (x 6) (x 12) C C _ ?_ ?_ hsmC.n hsmC.n).mono ?_; (exact hd.1); (first | exact hd.2 | exact hd.2.1); rw [decide_eq_true rfl]; rintro e w6 ⟨rfl, hn6⟩) | (go_at_call 18; refine (HAW.out _).mono ?_; rintro e w6 ⟨rfl, hn6⟩)); (refine hK.out _ _ ?_ ?_ <;> first | (solve | (repeat (first | assumption | exact Nw.refl _ | refine Nw.alloc ?_ _ | refine Nw.drew ?_ | refine Nw.drewN2 ?_ _ | (refine Nw.trans ?_ (by assumption))))) | ((conv => lhs; whnf) <;> exact rfl) | exact rfl | exact BkOwn.bks ho6)))
      try simp only [Act.put, List.setIfInBounds_toArray, List.set_cons_zero, List.set_cons_succ, Nat.reduceAdd, List.length_nil, List.length_cons, List.nil_append, List.cons_append]
    iterate 1
      refine Stairs.that (BkR C) (by first | assumption | simp) ?_ ?_
      · intro x wR hR hd K hK
        simp only [Act.put, List.setIfInBounds_toArray, List.set_cons_zero, List.set_cons_succ, Nat.reduceAdd, List.length_nil, List.length_cons, List.nil_append, List.cons_append, Say.ok] at hK ⊢
        clear hd
        change Hid _ at hK
        obtain ⟨hcR, hfR, hzR⟩ := nwc hR
        first | (refine wanted_yes ?_ ?_; rfl) | (refine wanted_no ?_ ?_; rfl)
        first | (refine hK.out _ _ ?_ ?_ <;> first | (solve | (repeat (first | assumption | exact Nw.refl _ | refine Nw.alloc ?_ _ | refine Nw.drew ?_ | refine Nw.drewN2 ?_ _ | (refine Nw.trans ?_ (by assumption))))) | ((conv => lhs; whnf) <;> exact rfl) | exact rfl | exact BkOwn.bks ho6) | (go_step; first | (refine hK.out _ _ ?_ ?_ <;> first | (solve | (repeat (first | assumption | exact Nw.refl _ | refine Nw.alloc ?_ _ | refine Nw.drew ?_ | refine Nw.drewN2 ?_ _ | (refine Nw.trans ?_ (by assumption))))) | ((conv => lhs; whnf) <;> exact rfl) | exact rfl | exact BkOwn.bks ho6) | ((first  | (go_at_call 17; (with_reducible refine (HSD.out _ _ ?_).mono ?_); (exact HO.out.nw (by repeat (first | assumption | exact Nw.refl _ | refine Nw.alloc ?_ _ | refine Nw.drew ?_ | refine Nw.drewN2 ?_ _ | (refine Nw.trans ?_ (by assumption))))); rintro e w6 ⟨v6, rfl, ho6, hn6⟩) | (go_at_call 17; (with_reducible refine (HSE.out (x 4) _ ?_).mono ?_); (first | exact hd.2.1 | exact hd.1 | exact hd.2); rintro e w6 ⟨v6, rfl, ho6, hn6⟩) | (go_at_call 17; (with_reducible refine (HSF.out _ _ ?_).mono ?_); (exact HO.out.nw (by repeat (first | assumption | exact Nw.refl _ | refine Nw.alloc ?_ _ | refine Nw.drew ?_ | refine Nw.drewN2 ?_ _ | (refine Nw.trans ?_ (by assumption))))); rintro e w6 ⟨v6, rfl, ho6, hn6⟩) | (go_at_call 16; refine (sameb_w (x 6) (x 12) C C _ ?_ ?_ hsmC.n hsmC.n).mono ?_; (exact hd.1); (first | exact hd.2 | exact hd.2.1); rw [decide_eq_true rfl]; rintro e w6 ⟨rfl, hn6⟩) | (go_at_call 18; refine (HAW.out _).mono ?_; rintro e w6 ⟨rfl, hn6⟩)); (refine hK.out _ _ ?_ ?_ <;> first | (solve | (repeat (first | assumption | exact Nw.refl _ | refine Nw.alloc ?_ _ | refine Nw.drew ?_ | refine Nw.drewN2 ?_ _ | (refine Nw.trans ?_ (by assumption))))) | ((conv => lhs; whnf) <;> exact rfl) | exact rfl | exact BkOwn.bks ho6)))
      try simp only [Act.put, List.setIfInBounds_toArray, List.set_cons_zero, List.set_cons_succ, Nat.reduceAdd, List.length_nil, List.length_cons, List.nil_append, List.cons_append]
    iterate 1
      refine Stairs.is ?_ ?_ ?_
      rotate_left 1
      · intro x wR hR hd K hK
        simp only [Act.put, List.setIfInBounds_toArray, List.set_cons_zero, List.set_cons_succ, Nat.reduceAdd, List.length_nil, List.length_cons, List.nil_append, List.cons_append, Say.ok] at hK ⊢
        try simp [Region.binds, sayAt, List.getD_cons_zero, List.getD_cons_succ, Say.ok, Vl] at hd
        change Hid _ at hK
        obtain ⟨hcR, hfR, hzR⟩ := nwc hR
        first | (refine wanted_yes ?_ ?_; rfl) | (refine wanted_no ?_ ?_; rfl)
        first | (refine hK.out _ _ ?_ ?_ <;> first | (solve | (repeat (first | assumption | exact Nw.refl _ | refine Nw.alloc ?_ _ | refine Nw.drew ?_ | refine Nw.drewN2 ?_ _ | (refine Nw.trans ?_ (by assumption))))) | ((conv => lhs; whnf) <;> exact rfl) | exact rfl | exact BkOwn.bks ho6) | (go_step; first | (refine hK.out _ _ ?_ ?_ <;> first | (solve | (repeat (first | assumption | exact Nw.refl _ | refine Nw.alloc ?_ _ | refine Nw.drew ?_ | refine Nw.drewN2 ?_ _ | (refine Nw.trans ?_ (by assumption))))) | ((conv => lhs; whnf) <;> exact rfl) | exact rfl | exact BkOwn.bks ho6) | ((first  | (go_at_call 17; (with_reducible refine (HSD.out _ _ ?_).mono ?_); (exact HO.out.nw (by repeat (first | assumption | exact Nw.refl _ | refine Nw.alloc ?_ _ | refine Nw.drew ?_ | refine Nw.drewN2 ?_ _ | (refine Nw.trans ?_ (by assumption))))); rintro e w6 ⟨v6, rfl, ho6, hn6⟩) | (go_at_call 17; (with_reducible refine (HSE.out (x 4) _ ?_).mono ?_); (first | exact hd.2.1 | exact hd.1 | exact hd.2); rintro e w6 ⟨v6, rfl, ho6, hn6⟩) | (go_at_call 17; (with_reducible refine (HSF.out _ _ ?_).mono ?_); (exact HO.out.nw (by repeat (first | assumption | exact Nw.refl _ | refine Nw.alloc ?_ _ | refine Nw.drew ?_ | refine Nw.drewN2 ?_ _ | (refine Nw.trans ?_ (by assumption))))); rintro e w6 ⟨v6, rfl, ho6, hn6⟩) | (go_at_call 16; refine (sameb_w (x 6) (x 12) C C _ ?_ ?_ hsmC.n hsmC.n).mono ?_; (exact hd.1); (first | exact hd.2 | exact hd.2.1); rw [decide_eq_true rfl]; rintro e w6 ⟨rfl, hn6⟩) | (go_at_call 18; refine (HAW.out _).mono ?_; rintro e w6 ⟨rfl, hn6⟩)); (refine hK.out _ _ ?_ ?_ <;> first | (solve | (repeat (first | assumption | exact Nw.refl _ | refine Nw.alloc ?_ _ | refine Nw.drew ?_ | refine Nw.drewN2 ?_ _ | (refine Nw.trans ?_ (by assumption))))) | ((conv => lhs; whnf) <;> exact rfl) | exact rfl | exact BkOwn.bks ho6)))
      try simp only [Act.put, List.setIfInBounds_toArray, List.set_cons_zero, List.set_cons_succ, Nat.reduceAdd, List.length_nil, List.length_cons, List.nil_append, List.cons_append]
    iterate 4
      refine Stairs.is ?_ ?_ ?_
      rotate_left 1
      · intro x wR hR hd K hK
        simp only [Act.put, List.setIfInBounds_toArray, List.set_cons_zero, List.set_cons_succ, Nat.reduceAdd, List.length_nil, List.length_cons, List.nil_append, List.cons_append, Say.ok] at hK ⊢
        clear hd
        change Hid _ at hK
        obtain ⟨hcR, hfR, hzR⟩ := nwc hR
        first | (refine wanted_yes ?_ ?_; rfl) | (refine wanted_no ?_ ?_; rfl)
        first | (refine hK.out _ _ ?_ ?_ <;> first | (solve | (repeat (first | assumption | exact Nw.refl _ | refine Nw.alloc ?_ _ | refine Nw.drew ?_ | refine Nw.drewN2 ?_ _ | (refine Nw.trans ?_ (by assumption))))) | ((conv => lhs; whnf) <;> exact rfl) | exact rfl | exact BkOwn.bks ho6) | (go_step; first | (refine hK.out _ _ ?_ ?_ <;> first | (solve | (repeat (first | assumption | exact Nw.refl _ | refine Nw.alloc ?_ _ | refine Nw.drew ?_ | refine Nw.drewN2 ?_ _ | (refine Nw.trans ?_ (by assumption))))) | ((conv => lhs; whnf) <;> exact rfl) | exact rfl | exact BkOwn.bks ho6) | ((first  | (go_at_call 17; (with_reducible refine (HSD.out _ _ ?_).mono ?_); (exact HO.out.nw (by repeat (first | assumption | exact Nw.refl _ | refine Nw.alloc ?_ _ | refine Nw.drew ?_ | refine Nw.drewN2 ?_ _ | (refine Nw.trans ?_ (by assumption))))); rintro e w6 ⟨v6, rfl, ho6, hn6⟩) | (go_at_call 17; (with_reducible refine (HSE.out (x 4) _ ?_).mono ?_); (first | exact hd.2.1 | exact hd.1 | exact hd.2); rintro e w6 ⟨v6, rfl, ho6, hn6⟩) | (go_at_call 17; (with_reducible refine (HSF.out _ _ ?_).mono ?_); (exact HO.out.nw (by repeat (first | assumption | exact Nw.refl _ | refine Nw.alloc ?_ _ | refine Nw.drew ?_ | refine Nw.drewN2 ?_ _ | (refine Nw.trans ?_ (by assumption))))); rintro e w6 ⟨v6, rfl, ho6, hn6⟩) | (go_at_call 16; refine (sameb_w (x 6) (x 12) C C _ ?_ ?_ hsmC.n hsmC.n).mono ?_; (exact hd.1); (first | exact hd.2 | exact hd.2.1); rw [decide_eq_true rfl]; rintro e w6 ⟨rfl, hn6⟩) | (go_at_call 18; refine (HAW.out _).mono ?_; rintro e w6 ⟨rfl, hn6⟩)); (refine hK.out _ _ ?_ ?_ <;> first | (solve | (repeat (first | assumption | exact Nw.refl _ | refine Nw.alloc ?_ _ | refine Nw.drew ?_ | refine Nw.drewN2 ?_ _ | (refine Nw.trans ?_ (by assumption))))) | ((conv => lhs; whnf) <;> exact rfl) | exact rfl | exact BkOwn.bks ho6)))
      try simp only [Act.put, List.setIfInBounds_toArray, List.set_cons_zero, List.set_cons_succ, Nat.reduceAdd, List.length_nil, List.length_cons, List.nil_append, List.cons_append]
    refine Stairs.nil ?_
    intro x wR hR hx
    clear hx
    obtain ⟨hcR, hfR, hzR⟩ := nwc hR
    go_wp2
    go_ret
    exact ⟨rfl, hw5.trans hR⟩
  · have hwr : IntKind.u64.wrap (d + e) = d + e - 18446744073709551616 := by rw [IntKind.wrap_u64]; omega
    have hdt : decide (d + e - 18446744073709551616 < d) = true := decide_eq_true (by omega)
    clear hof
    go_wp2_with (first
      | (go_at_call 18; refine (HAW.out _).mono ?_; rintro e w6 ⟨rfl, hn6⟩)
      | fail)
    go_ret
    exact ⟨rfl, hw5.trans hn6⟩
end Wn
end Go.Proofs.Ythellicimicieaa
