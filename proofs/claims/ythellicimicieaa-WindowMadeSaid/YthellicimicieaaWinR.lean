/- The contract of window.Add. No condition but lengths. -/
import Derived.Test.YthellicimicieaaWinQ
import Derived.Test.YthellicimicieaaWinL
set_option linter.unusedSimpArgs false
set_option linter.unusedVariables false
namespace Go.Proofs.Ythellicimicieaa
open Go.ChangeShapes Go.WideShapes Go.ChangeAt Go.RowKit
namespace Wn
open Ival Words
theorem shift0 {lo hi : Int} {bs : Bs} (h : Ok lo hi bs) : shiftP lo hi bs 0 = trimB bs :=
  Cn.ext (shift_pl (Int.le_refl 0) h).cn h.pl.cn fun o i => by
    rw [gl_shift h, gl_trim]
    exact gl_congr (fun b hb => by
      have := h.bd b hb
      rw [later_zero lo hi b.1 h.may this.1 this.2.1, decide_eq_true this.1, Bool.true_and]) i
set_option maxRecDepth 20000 in
set_option maxHeartbeats 3200000 in
theorem add_w (lo hi c : Int) (vl vs : Value) (bs : Bs) (s : List Wd) (w : World) (hv : Bks w vl bs) (hsm : Sm 900000 900000 bs) (hs : Words.Set w vs s) (hsl : s.length ≤ 900000) (hlo : -9223372036854775808 ≤ lo ∧ lo ≤ 9223372036854775807) :
    Calls Try.prog 43 #[span lo hi, vl, .int .i64 c, vs] w (HandsB w (addP lo hi bs c s)) := by
  have hsm1 : Sm 1000000 1000000 bs := hsm.mono (by decide) (by decide)
  have HM := hid (fun w' (h : Nw w w') => may_w lo hi vl bs w' (hv.nw h) hsm1)
  have HSH := hid (fun w' (h : Nw w w') => shift_w lo hi 0 vl bs w' (hv.nw h) hsm1 (by omega) hlo)
  have HPL := hid (fun w' (h : Nw w w') => plain_c vs s w' (hs.nw h) (Nat.le_trans hsl (by decide)))
  have HWD := hid (fun w' => wide_c lo hi w')
  obtain ⟨p, cap, rfl, hcap, hmx, hp0, hbc⟩ := hv
  obtain ⟨qs, cs, rfl⟩ := set_shape hs
  unfold maxLen at hmx
  have hln := hsm.n
  clear hbc hs
  have HTL := hid (Nat.le_trans (trim_len s) hsl)
  by_cases hN : mayW lo hi bs = true
  · rw [hN] at HM
    have hok := (mayW_iff _ _ _).1 hN
    rw [shift0 hok] at HSH
    have HA := hid (show addP lo hi bs c s = if fits lo hi c s = true then ins (trimB bs) c (trim s) else trimB bs from if_pos hN)
    have HF := hid (fits_iff lo hi c s)
    have HP := hid hok.pl
    have HTS := hid (trim_sm hsm)
    clear hN hok
    generalize trimB bs = T at *
    generalize trim s = ts at *
    by_cases h2 : c < 0
    · have hd2 : decide (c < 0) = true := decide_eq_true h2
      have hf : ¬ fits lo hi c s = true := fun q => by have := (HF.out.1 q).2.1; omega
      rw [if_neg hf] at HA
      clear h2 hf HF
      go_enter Try.func43, Try.ntmps43
      unfold span at *
      go_upto_region 3 with (first
        | (go_at_call 17; refine (HSH.out _ ((Nw.refl w).alloc _)).mono ?_; rintro e w1 ⟨v1, rfl, ho1, hn1⟩; obtain ⟨q1, c1, rfl⟩ := ho1.shape rfl; have x0 := hn1.cell (box2 w (.int .i64 lo) (.int .i64 hi) 26).1; have x1 := hn1.cell (box2 w (.int .i64 lo) (.int .i64 hi) 26).2)
        | (go_at_call 46; refine (HPL.out _ (((Nw.refl w).alloc _).trans hn1)).mono ?_; rintro e w2 ⟨v2, rfl, hs2, hk2, hn2⟩; obtain ⟨q2, c2, rfl⟩ := set_shape hs2; have x0 := hn2.cell x0; have x1 := hn2.cell x1)
        | fail)
      have ho2 := (ho1.mono (Nat.le_of_lt (lt_of_alloc w w1 _ hn1).1)).nw hn2
      have hlt1 := fun k hk => (ho1.lt k hk).2
      have hw2 : Nw w w2 := ((Nw.refl w).alloc _).trans (hn1.trans hn2)
      have hn12 := hn2
      clear ho1 hn1 hn2
      go_wp2_with (first
        | (go_at_call 33; refine (HM.out _ hw2).mono ?_; rintro e w3 ⟨rfl, hn3⟩; have x0 := hn3.cell x0; have x1 := hn3.cell x1)
        | (go_at_call 34; refine (HWD.out _).mono ?_; rintro e w4 ⟨rfl, hn4⟩)
        | fail)
      go_ret
      exact ⟨_, rfl, by rw [HA.out]; exact ho2.nw (by repeat (first | assumption | exact Nw.refl _ | refine Nw.alloc ?_ _ | refine Nw.drew ?_ | refine Nw.drewN2 ?_ _ | (refine Nw.trans ?_ (by assumption)))), hw2.trans (by repeat (first | assumption | exact Nw.refl _ | refine Nw.alloc ?_ _ | refine Nw.drew ?_ | refine Nw.drewN2 ?_ _ | (refine Nw.trans ?_ (by assumption))))⟩
    · have hd2 : decide (c < 0) = false := decide_eq_false h2
      by_cases h3 : wide lo hi ≤ c
      · have hd3 : decide (wide lo hi ≤ c) = true := decide_eq_true h3
        have hf : ¬ fits lo hi c s = true := fun q => by have := (HF.out.1 q).2.2; omega
        rw [if_neg hf] at HA
        clear h2 h3 hf HF
        generalize wide lo hi = W at *
        go_enter Try.func43, Try.ntmps43
        unfold span at *
        go_upto_region 3 with (first
          | (go_at_call 17; refine (HSH.out _ ((Nw.refl w).alloc _)).mono ?_; rintro e w1 ⟨v1, rfl, ho1, hn1⟩; obtain ⟨q1, c1, rfl⟩ := ho1.shape rfl; have x0 := hn1.cell (box2 w (.int .i64 lo) (.int .i64 hi) 26).1; have x1 := hn1.cell (box2 w (.int .i64 lo) (.int .i64 hi) 26).2)
          | (go_at_call 46; refine (HPL.out _ (((Nw.refl w).alloc _).trans hn1)).mono ?_; rintro e w2 ⟨v2, rfl, hs2, hk2, hn2⟩; obtain ⟨q2, c2, rfl⟩ := set_shape hs2; have x0 := hn2.cell x0; have x1 := hn2.cell x1)
          | fail)
        have ho2 := (ho1.mono (Nat.le_of_lt (lt_of_alloc w w1 _ hn1).1)).nw hn2
        have hlt1 := fun k hk => (ho1.lt k hk).2
        have hw2 : Nw w w2 := ((Nw.refl w).alloc _).trans (hn1.trans hn2)
        have hn12 := hn2
        clear ho1 hn1 hn2
        go_wp2_with (first
          | (go_at_call 33; refine (HM.out _ hw2).mono ?_; rintro e w3 ⟨rfl, hn3⟩; have x0 := hn3.cell x0; have x1 := hn3.cell x1)
          | (go_at_call 34; refine (HWD.out _).mono ?_; rintro e w4 ⟨rfl, hn4⟩)
          | fail)
        go_ret
        exact ⟨_, rfl, by rw [HA.out]; exact ho2.nw (by repeat (first | assumption | exact Nw.refl _ | refine Nw.alloc ?_ _ | refine Nw.drew ?_ | refine Nw.drewN2 ?_ _ | (refine Nw.trans ?_ (by assumption)))), hw2.trans (by repeat (first | assumption | exact Nw.refl _ | refine Nw.alloc ?_ _ | refine Nw.drew ?_ | refine Nw.drewN2 ?_ _ | (refine Nw.trans ?_ (by assumption))))⟩
      · have hd3 : decide (wide lo hi ≤ c) = false := decide_eq_false h3
        by_cases h1 : ts = []
        · have hd1 : ((ts.length : Int) == 0) = true := by rw [h1]; rfl
          have hf : ¬ fits lo hi c s = true := fun q => (HF.out.1 q).1 h1
          rw [if_neg hf] at HA
          clear h1 h2 h3 hf HF
          generalize wide lo hi = W at *
          go_enter Try.func43, Try.ntmps43
          unfold span at *
          go_upto_region 3 with (first
            | (go_at_call 17; refine (HSH.out _ ((Nw.refl w).alloc _)).mono ?_; rintro e w1 ⟨v1, rfl, ho1, hn1⟩; obtain ⟨q1, c1, rfl⟩ := ho1.shape rfl; have x0 := hn1.cell (box2 w (.int .i64 lo) (.int .i64 hi) 26).1; have x1 := hn1.cell (box2 w (.int .i64 lo) (.int .i64 hi) 26).2)
            | (go_at_call 46; refine (HPL.out _ (((Nw.refl w).alloc _).trans hn1)).mono ?_; rintro e w2 ⟨v2, rfl, hs2, hk2, hn2⟩; obtain ⟨q2, c2, rfl⟩ := set_shape hs2; have x0 := hn2.cell x0; have x1 := hn2.cell x1)
            | fail)
          have ho2 := (ho1.mono (Nat.le_of_lt (lt_of_alloc w w1 _ hn1).1)).nw hn2
          have hlt1 := fun k hk => (ho1.lt k hk).2
          have hw2 : Nw w w2 := ((Nw.refl w).alloc _).trans (hn1.trans hn2)
          have hn12 := hn2
          clear ho1 hn1 hn2
          go_wp2_with (first
            | (go_at_call 33; refine (HM.out _ hw2).mono ?_; rintro e w3 ⟨rfl, hn3⟩; have x0 := hn3.cell x0; have x1 := hn3.cell x1)
            | (go_at_call 34; refine (HWD.out _).mono ?_; rintro e w4 ⟨rfl, hn4⟩)
            | fail)
          go_ret
          exact ⟨_, rfl, by rw [HA.out]; exact ho2.nw (by repeat (first | assumption | exact Nw.refl _ | refine Nw.alloc ?_ _ | refine Nw.drew ?_ | refine Nw.drewN2 ?_ _ | (refine Nw.trans ?_ (by assumption)))), hw2.trans (by repeat (first | assumption | exact Nw.refl _ | refine Nw.alloc ?_ _ | refine Nw.drew ?_ | refine Nw.drewN2 ?_ _ | (refine Nw.trans ?_ (by assumption))))⟩
        · have hd1 : ((ts.length : Int) == 0) = false := beq_eq_false_iff_ne.2 (fun q => h1 (List.length_eq_zero_iff.1 (by omega)))
          have hwb := wide_bd lo hi
          rw [if_pos (HF.out.2 ⟨h1, by omega, by omega⟩)] at HA
          have hcc : 0 ≤ c ∧ c ≤ 10000 := by omega
          have HBS := hid (fun v w' (h : Bks w' v T) => bsearch_w v T c w' h (Nat.le_trans HTS.out.n (by decide)) HP.out.cn.ris (fun b hb => by have := HP.out.bd b hb; omega) hcc)
          have HNE := hid h1
          clear h1 h2 h3 HF hwb
          generalize wide lo hi = W at *
          go_enter Try.func43, Try.ntmps43
          unfold span at *
          go_upto_region 3 with (first
            | (go_at_call 17; refine (HSH.out _ ((Nw.refl w).alloc _)).mono ?_; rintro e w1 ⟨v1, rfl, ho1, hn1⟩; obtain ⟨q1, c1, rfl⟩ := ho1.shape rfl; have x0 := hn1.cell (box2 w (.int .i64 lo) (.int .i64 hi) 26).1; have x1 := hn1.cell (box2 w (.int .i64 lo) (.int .i64 hi) 26).2)
            | (go_at_call 46; refine (HPL.out _ (((Nw.refl w).alloc _).trans hn1)).mono ?_; rintro e w2 ⟨v2, rfl, hs2, hk2, hn2⟩; obtain ⟨q2, c2, rfl⟩ := set_shape hs2; have x0 := hn2.cell x0; have x1 := hn2.cell x1)
            | fail)
          have ho2 := (ho1.mono (Nat.le_of_lt (lt_of_alloc w w1 _ hn1).1)).nw hn2
          have hlt1 := fun k hk => (ho1.lt k hk).2
          have hw2 : Nw w w2 := ((Nw.refl w).alloc _).trans (hn1.trans hn2)
          have hn12 := hn2
          clear ho1 hn1 hn2
          go_upto_region 6 with (first
            | (go_at_call 33; refine (HM.out _ hw2).mono ?_; rintro e w3 ⟨rfl, hn3⟩; have x0 := hn3.cell x0; have x1 := hn3.cell x1)
            | (go_at_call 34; refine (HWD.out _).mono ?_; rintro e w4 ⟨rfl, hn4⟩)
            | (go_at_call 65; refine (HBS.out _ _ (ho2.bks.nw (hn3.trans hn4))).mono ?_; rintro e w5 ⟨i, rfl, hat, hn5⟩)
            | fail)
          have hn35 := hn3.trans (hn4.trans hn5)
          have ho5 := ho2.nw hn35
          have hs5 := hs2.nw hn35
          have hw5 := hw2.trans hn35
          have hin := hat.1
          have HAT := hid (ins_at T c ts i hat)
          have hTn := HTS.out.n
          clear hat ho2 hs2 hn12 hn3 hn4 hn5 x0 x1
          by_cases hh : i < T.length ∧ off T i = c
          · rw [show (decide (i < T.length) && decide (off T i = c)) = true by simp [hh.1, hh.2]]
            rw [if_pos hh] at HAT
            obtain ⟨g, c3, e, hgB, hgl⟩ := ho5.opened rfl (by omega)
            cases e
            obtain ⟨q7, d7, k0, k1, hss, hfz⟩ := ho5.cell rfl i hh.1
            have hfi := hfz (i * 2 + 1)
            have hi := hh.1
            have HOR := hid (or_c _ _ (st T i) ts w5 hss hs5 (Nat.le_trans (HTS.out.at i hi) (by decide)) (Nat.le_trans HTL.out (by decide)))
            have HO5 := hid ho5
            clear hh hfz hss ho5 k0
            generalize or (st T i) ts = so at *
            generalize st T i = sl at *
            go_wp2_with (first
              | (go_at_call 36; refine HOR.out.mono ?_; rintro e w6 ⟨v6, rfl, hs6, hk6, hn6⟩; obtain ⟨q6, c6, rfl⟩ := set_shape hs6; have k6 := hn6.cell k1; have f6 : w6.frozen? ⟨g, i * 2 + 1, none⟩ = false := (by rw [(nwc hn6).2.1 _ _ hgl]; exact hfi))
              | fail)
            go_ret
            refine ⟨_, rfl, ?_, (hw5.trans hn6).setCell (p := ⟨g, i * 2 + 1, none⟩) hgB _⟩
            rw [HA.out, HAT.out]
            exact (HO5.out.nw hn6).put rfl i hi hs6 (fun k hk q => by have := hk6 k hk; omega)
          · rw [show (decide (i < T.length) && decide (off T i = c)) = false by
              cases h : decide (i < T.length) && decide (off T i = c)
              · rfl
              · rw [Bool.and_eq_true, decide_eq_true_eq, decide_eq_true_eq] at h; exact absurd h hh]
            rw [if_neg hh] at HAT
            clear hh
            go_wp2_with (first
              | (go_at_call 67; refine (insert_w w.heap.size _ T c ts _ i w5 ho5 hw5.size hs5 (fun k hk e => by have h7 := hk2 k hk; have h8 := hlt1 k e; omega) (Nat.le_trans hTn (by decide)) hin).mono ?_; rintro e w6 ⟨v6, rfl, ho6, hn6⟩)
              | fail)
            go_ret
            exact ⟨_, rfl, by rw [HA.out, HAT.out]; exact ho6, hn6 w hw5 (Nat.le_refl _)⟩
  · have HA := hid (show addP lo hi bs c s = [] from if_neg hN)
    have HS0 := hid (show shiftP lo hi bs 0 = [] from if_neg hN)
    rw [Bool.not_eq_true] at hN
    rw [hN] at HM
    rw [HS0.out] at HSH
    clear HS0
    generalize trim s = ts at *
    go_enter Try.func43, Try.ntmps43
    unfold span at *
    go_upto_region 3 with (first
      | (go_at_call 17; refine (HSH.out _ ((Nw.refl w).alloc _)).mono ?_; rintro e w1 ⟨v1, rfl, ho1, hn1⟩; obtain ⟨q1, c1, rfl⟩ := ho1.shape rfl; have x0 := hn1.cell (box2 w (.int .i64 lo) (.int .i64 hi) 26).1; have x1 := hn1.cell (box2 w (.int .i64 lo) (.int .i64 hi) 26).2)
      | (go_at_call 46; refine (HPL.out _ (((Nw.refl w).alloc _).trans hn1)).mono ?_; rintro e w2 ⟨v2, rfl, hs2, hk2, hn2⟩; obtain ⟨q2, c2, rfl⟩ := set_shape hs2; have x0 := hn2.cell x0; have x1 := hn2.cell x1)
      | fail)
    have ho2 := (ho1.mono (Nat.le_of_lt (lt_of_alloc w w1 _ hn1).1)).nw hn2
    have hlt1 := fun k hk => (ho1.lt k hk).2
    have hw2 : Nw w w2 := ((Nw.refl w).alloc _).trans (hn1.trans hn2)
    have hn12 := hn2
    clear ho1 hn1 hn2
    go_wp2_with (first
      | (go_at_call 33; refine (HM.out _ hw2).mono ?_; rintro e w3 ⟨rfl, hn3⟩; have x0 := hn3.cell x0; have x1 := hn3.cell x1)
      | (go_at_call 34; refine (HWD.out _).mono ?_; rintro e w4 ⟨rfl, hn4⟩)
      | fail)
    go_ret
    exact ⟨_, rfl, by rw [HA.out]; exact ho2.nw (by repeat (first | assumption | exact Nw.refl _ | refine Nw.alloc ?_ _ | refine Nw.drew ?_ | refine Nw.drewN2 ?_ _ | (refine Nw.trans ?_ (by assumption)))), hw2.trans (by repeat (first | assumption | exact Nw.refl _ | refine Nw.alloc ?_ _ | refine Nw.drew ?_ | refine Nw.drewN2 ?_ _ | (refine Nw.trans ?_ (by assumption))))⟩
end Wn
end Go.Proofs.Ythellicimicieaa
