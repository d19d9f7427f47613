/- LogCanon walked: it returns true. No condition but lengths. -/
import Derived.Test.YtjelbfodkacipaaLogO
set_option linter.unusedSimpArgs false
set_option linter.unusedVariables false
namespace Go.Proofs.Ytjelbfodkacipaa
open Go.ChangeShapes Go.WideShapes Go.ChangeAt Go.RowKit
namespace Lg
open Go.Proofs.Ytjelbfodkacipaa.Lx (isIn nameB strs strs_open strs_cell)
open Go.Proofs.Ytjelbfodkacipaa.Rec (i64s_open)
open Go.Proofs.Ytjelbfodkacipaa.Sum (byte put right Hands8)
open Go.Proofs.Ytjelbfodkacipaa.Tr (T Es tm ids mayP namesP Evs EC Small EvIn In box2 lt_alloc TrR makeP make_may make_len make_small make_c3 u16s u16s_length pqr)
theorem dec_facts (Y : List UInt8) (hY : Y.length ≤ 100000000) : ∃ dt dn de, decP Y = (dt, dn, de) ∧ (de = 0 → encP dt = Y) ∧ (de = 0 ∨ de ≠ 5 → dn = dt.evs.length) ∧ Small dt ∧ dt.evs.length ≤ 10000000 ∧ Tb dt.evs := by
  have hc := canon Y
  rcases dec_inv Y with h | ⟨l, es, rest, e, hb, hn, hf, h, h5, h0⟩
  · rw [h] at hc
    exact ⟨_, _, _, h, fun q => absurd q (by decide), fun q => absurd q (by decide), none_small, Nat.zero_le _, fun i hi => by cases hi⟩
  · rw [h] at hc
    have h64 := names_le hn
    have hlen := congrArg List.length hb
    rw [List.length_append, List.length_append] at hlen
    have hr14 : ∀ es : Es, 14 * es.length ≤ (recsX es).length := fun es => by
      induction es with
      | nil => simp [recsX]
      | cons x r ih =>
        show 14 * (r.length + 1) ≤ (Rec.rec_ x.1 x.2 ++ recsX r).length
        rw [List.length_append, Rec.rec_len]
        omega
    have hes := hr14 es
    refine ⟨_, _, _, h, fun q => (hc.1 q).1, fun _ => rfl, ⟨show l.length ≤ _ by omega, show es.length ≤ _ by omega, fun i hi => ?_, fun s hs => ?_⟩, show es.length ≤ _ by omega, fun i hi => (hf i (Nat.zero_le _) hi).2⟩
    · have := hf i (Nat.zero_le _) hi
      rw [eOk_iff] at this
      have hl := Rec.rises_len (by omega) this.1.1
      show (ids es i).length ≤ _
      omega
    · have := names_small hn s hs
      omega
set_option maxRecDepth 20000 in
set_option maxHeartbeats 1600000 in
theorem canon_walk (vb : Value) (b : List UInt8) (start : Int) (h0 : 0 ≤ start) (h64 : start < 18446744073709551616) (v1 vm : Value) (ns : List Nat) (at_ cut : Nat) (x : UInt8) (more : List UInt8) (vn ve : Value) (l : List ByteArray) (es : Es) (w : World) (hb : Bytes w vb b) (hlb : b.length ≤ 2000000)
    (hv1 : Sl w v1 (u16s ns)) (hns : ∀ n ∈ ns, n ≤ 65535) (hat : at_ ≤ 65535) (hcu : cut ≤ 65535) (hm : Bytes w vm more) (hlm : more.length ≤ 2000000) (hvn : Sl w vn (strs l)) (hve : Evs w ve es) (hnm : (nmsS l).length ≤ 2000000) (htb : ∀ i, i < es.length → 0 ≤ tm es i ∧ tm es i < 18446744073709551616) :
    Calls Try.prog 9 #[vb, .int .u64 start, v1, .int .u16 (at_ : Int), .int .u16 (cut : Int), .int .u8 (x.toNat : Int), vm, vn, ve] w fun e w' => e = .returned (.bool true) ∧ Nw w w' := by
  have HM1 := hid (fun w' (h : Nw w w') => make_c3 start h0 h64 v1 ns w' (hv1.nw h) hns)
  have HEE := hid (fun (x y : Value) w' (h1 : Sl w' x (Lx.strs pqr)) (h2 : Evs w' y (makeP start ns).evs) => encode_c x y (makeP start ns) w' h1 h2 (make_small start h0 ns) (Nat.le_trans (make_len start h0 ns) (by decide)) (make_tb start h0 ns))
  have hme := make_enc start h0 ns
  have HSE := hid (fun w' (h : Nw w w') h1 h2 h3 => sealed_c vn ve l es w' (hvn.nw h) (hve.nw h) h1 (by omega) h2 h3 htb)
  have HSL := hid (fun h => sealP_len l es h)
  have s1 := spoil_len (encP (makeP start ns)) more at_ cut x
  have HSP := hid (fun (v : Value) w' (h1 : Bytes w' v (encP (makeP start ns))) (h2 : Nw w w') => spoil_c v vm _ more at_ cut x w' h1 (hm.nw h2) (by omega) (by omega) hat hcu)
  obtain ⟨pb, kb, rfl, _, _, _, _⟩ := hb.open
  obtain ⟨p5, k5, rfl, _, _, _, _⟩ := hv1.open (u16s_length ns)
  obtain ⟨p6, k6, rfl, _, _, _, _⟩ := hm.open
  obtain ⟨pn, capn, rfl, hcn, hmn, _, hcc⟩ := strs_open hvn
  obtain ⟨p, cap, rfl, hcap, hmx, hp0, hec⟩ := hve
  have HEC := hid hec
  unfold maxLen at hmn hmx
  clear hvn hcc hec hp0 htb hv1 hns
  generalize spoilP (encP (makeP start ns)) at_ cut x more = Y1 at *
  generalize encP (makeP start ns) = em at *
  generalize makeP start ns = a at *
  generalize ns.length = nl at *
  -- watchglass/watchglasslaw10.LogCanon: the function; 20: the event's slot; 38: the counter; 9: the region behind the loop
  by_cases hb1 : 300 < l.length ∨ 300 < es.length
  · by_cases hb2 : 300 < l.length
    · have hd1 : decide ((300 : Int) < l.length) = true := decide_eq_true (by omega)
      go_enter Try.func9, Try.ntmps9
      go_wp2_with (first
        | (go_at_call 35; refine (awake_c _).mono ?_; rintro e w9 ⟨rfl, hn9⟩)
        | fail)
      go_ret
      exact ⟨rfl, hn9⟩
    · have hd1 : decide ((300 : Int) < l.length) = false := decide_eq_false (by omega)
      have hd2 : decide ((300 : Int) < es.length) = true := decide_eq_true (by omega)
      go_enter Try.func9, Try.ntmps9
      go_wp2_with (first
        | (go_at_call 35; refine (awake_c _).mono ?_; rintro e w9 ⟨rfl, hn9⟩)
        | fail)
      go_ret
      exact ⟨rfl, hn9⟩
  have hd1 : decide ((300 : Int) < l.length) = false := decide_eq_false (by omega)
  have hd2 : decide ((300 : Int) < es.length) = false := decide_eq_false (by omega)
  have hln : l.length ≤ 300 := by omega
  have hel : es.length ≤ 300 := by omega
  clear hb1
  go_enter Try.func9, Try.ntmps9
  go_upto_region 4 with fail
  go_loopw [20, 38] (fun _ i wr => ∃ j : Nat, j ≤ es.length ∧ i = .int .i64 j ∧ Hid (∀ i, i < j → (ids es i).length ≤ 300) ∧ Nw w wr) (fun _ i _ => es.length - (intOf i).toNat)
  case atStart => exact ⟨0, Nat.zero_le _, rfl, hid (fun i hi => by omega), Nw.refl _⟩
  case round =>
    obtain ⟨j, hj, rfl, HJ0, hn⟩ := hrel
    by_cases hlt : j < es.length
    · have hdj : decide (j < es.length) = true := decide_eq_true hlt
      obtain ⟨b2, o2, vi, e2, c0, c1', hsv⟩ := (HEC.out.nw hn) j hlt
      subst e2
      obtain ⟨pi, ci, rfl, _⟩ := i64s_open hsv
      have gb1 := World.block_lt_of_cell? wr _ c0
      simp only at gb1
      generalize tm es j = tj at *
      have HJ := hid (fun (h : (ids es j).length ≤ 300) => show ∀ i, i < j + 1 → (ids es i).length ≤ 300 from fun i hi => by
        by_cases hij : i = j
        · rw [hij]; exact h
        · exact HJ0.out i (by omega))
      generalize (ids es j).length = il at *
      clear hsv
      go_upto_region 6 with fail
      obtain ⟨z0, z1⟩ := box2 wr (.int .u64 tj) (.slice pi il ci) 39
      have hnz := (Nw.refl wr).alloc (.cells #[.int .u64 tj, .slice pi il ci] 39)
      have lz := lt_alloc wr (.cells #[.int .u64 tj, .slice pi il ci] 39)
      have hn' := hn.trans hnz
      clear hnz c0 c1' gb1 hn
      generalize wr.alloc (.cells #[.int .u64 tj, .slice pi il ci] 39) = wz at *
      generalize wr.heap.size = g19 at *
      by_cases h3 : 300 < il
      · have hd3 : decide ((300 : Int) < il) = true := decide_eq_true (by omega)
        go_wp2_with (first
          | (go_at_call 35; refine (awake_c _).mono ?_; rintro e w9 ⟨rfl, hn9⟩)
          | fail)
        go_ret
        exact ⟨rfl, hn'.trans hn9⟩
      · have hd3 : decide ((300 : Int) < il) = false := decide_eq_false (by omega)
        go_wp2
        go_roundw
        case rel => exact ⟨j + 1, by omega, by go_num, hid (HJ.out (by omega)), hn'⟩
        case measure => (simp [intOf] <;> omega)
    · obtain rfl : j = es.length := by omega
      have hdj : decide (es.length < es.length) = false := decide_eq_false (by omega)
      have HC1 := hid (fun w' (h : Nw w w') => HSE.out w' h (by omega) hel HJ0.out)
      have hl1 := HSL.out HJ0.out
      have hY3 : (sealP l es).length ≤ 100000000 := by omega
      clear hl1 HSE HSL HJ0 HEC
      generalize sealP l es = Y3 at *
      go_upto_region 10 with (first
        | (go_at_call 23; refine (HM1.out _ (by repeat (first | assumption | exact Nw.refl _ | refine Nw.alloc ?_ _ | refine Nw.drew ?_ | refine Nw.drewN2 ?_ _ | (refine Nw.trans ?_ (by assumption))))).mono ?_; rintro e w2 ⟨q1, c1, q2, c2, rfl, hs1, he1, hn2⟩)
        | (go_at_call 33; refine (HEE.out _ _ _ hs1 he1).mono ?_; rintro e w3 ⟨v3, rfl, hown3, hn3⟩; obtain ⟨q3, c3, rfl, _⟩ := hown3.sl.open (n := em.length) (u8s_length _))
        | fail)
      have hbe : Bytes w3 (.slice q3 em.length c3) em := hown3.sl
      have hw3 := hn.trans (hn2.trans hn3)
      have hmr := hm.nw hw3
      clear hown3 hs1 he1 hn2 hn3 HM1 HEE hn
      obtain ⟨Y2, hY2⟩ : ∃ Y2, Y2 = em ++ more := ⟨_, rfl⟩
      have HY2 := hid hY2
      clear hY2
      go_upto_region 11 with (first
        | (go_at_call 36; refine (HSP.out _ _ hbe hw3).mono ?_; rintro e w4 ⟨v4, rfl, hown4, hn4⟩; have hs4 : Bytes w4 v4 Y1 := hown4.sl; obtain ⟨q4, c4, rfl, _⟩ := hs4.open)
        | (at_builtin; refine app1 rfl _ _ _ rfl _ _ _ Try.underlying51 info_u8 rfl (by decide) (hn5) (hown5) rfl ((hmr.nw (hn4.trans hn5))) rfl (u8s_one _) ?_ ?_; rotate_left; (simp only [u8s_length, List.length_append, List.length_nil]; omega); intro v6 w6 hown6 hg6 hn6; rw [List.nil_append, u8s_append, ← HY2.out] at hown6; have hs6 : Bytes w6 v6 Y2 := hown6.sl; obtain ⟨q6, c6, rfl, _⟩ := hs6.open)
        | (at_builtin; refine app1 rfl _ _ _ rfl _ _ _ Try.underlying51 info_u8 rfl (by decide) ((Nw.refl w4).alloc _) (Own.new w4 _ _ [] (Nat.le_refl _) (Nat.zero_le _)) rfl ((hbe.nw (hn4.alloc _))) rfl (u8s_one _) ?_ ?_; rotate_left; (simp only [u8s_length, List.length_append, List.length_nil]; omega); intro v5 w5 hown5 hg5 hn5; obtain ⟨q5, c5, rfl, _⟩ := hown5.sl.open (n := em.length) (by simp [u8s_length]))
        | (go_at_call 37; refine (HC1.out _ (hw3.trans (hn4.trans hn6))).mono ?_; rintro e w7 ⟨v7, rfl, hown7, hn7⟩; have hs7 : Bytes w7 v7 Y3 := hown7.sl; obtain ⟨q7, c7, rfl, _⟩ := hs7.open)
        | fail)
      have hw7 := hw3.trans (hn4.trans (hn6.trans hn7))
      have HB0 := hid (hb.nw hw7)
      have HB1 := hid (hs4.nw (hn6.trans hn7))
      have HB2 := hid (hs6.nw hn7)
      have HB3 := hid hs7
      have HL0 := hid (show b.length ≤ 100000000 by omega)
      have HL1 := hid (show Y1.length ≤ 100000000 by omega)
      have HL2 := hid (show Y2.length ≤ 100000000 by rw [HY2.out, List.length_append]; omega)
      have HL3 := hid hY3
      clear hw3 hn4 hn6 hn7 hs4 hs6 hs7 hown4 hown5 hown6 hown7 hg5 hg6 hbe hmr hb hm HSP HC1 hY3 s1 hn5
      have i0 : ∀ w', (Instr.index 57 (.agg #[.slice pb b.length kb, .slice q4 Y1.length c4, .slice q6 Y2.length c6, .slice q7 Y3.length c7]) (.int .i64 0)).run Try.prog w' = .ok (.slice pb b.length kb) w' := fun _ => by kernel_rfl
      have i1 : ∀ w', (Instr.index 57 (.agg #[.slice pb b.length kb, .slice q4 Y1.length c4, .slice q6 Y2.length c6, .slice q7 Y3.length c7]) (.int .i64 1)).run Try.prog w' = .ok (.slice q4 Y1.length c4) w' := fun _ => by kernel_rfl
      have i2 : ∀ w', (Instr.index 57 (.agg #[.slice pb b.length kb, .slice q4 Y1.length c4, .slice q6 Y2.length c6, .slice q7 Y3.length c7]) (.int .i64 2)).run Try.prog w' = .ok (.slice q6 Y2.length c6) w' := fun _ => by kernel_rfl
      have i3 : ∀ w', (Instr.index 57 (.agg #[.slice pb b.length kb, .slice q4 Y1.length c4, .slice q6 Y2.length c6, .slice q7 Y3.length c7]) (.int .i64 3)).run Try.prog w' = .ok (.slice q7 Y3.length c7) w' := fun _ => by kernel_rfl
      clear hlb hlm
      go_loopw [23, 24, 25, 26, 68] (fun _ _ _ _ i wr => ∃ k : Nat, k ≤ 4 ∧ i = .int .i64 k ∧ Nw w7 wr) (fun _ _ _ _ i _ => 4 - (intOf i).toNat)
      case atStart => exact ⟨0, by omega, rfl, Nw.refl _⟩
      case round =>
        obtain ⟨k, hk, rfl, hn⟩ := hrel
        match k, hk with
        | 0, _ =>
          rw [show ((0 : Nat) : Int) = 0 from rfl]
          -- HB0: Bytes (hidden); b: the bytes; 1: the next number; HL0: Hid of the length
          have hbr := HB0.out.nw hn
          have hl5 := HL0.out
          obtain ⟨dt, dn, de, hD, hD1, hD2, hSM, hLE, hTB⟩ := dec_facts b hl5
          have HDC := hid (show Calls Try.prog 38 #[_] wr (HandsD wr (dt, dn, de)) by rw [← hD]; exact decode_c _ b wr hbr (by omega))
          have HST := hid (fun w' (h : Nw wr w') => str_ok (hbr.nw h))
          have HD1 := hid hD1
          have HSM := hid hSM
          have HTB := hid hTB
          clear hD hD1 hSM hTB
          obtain ⟨k9, hk9⟩ : ∃ k9 : Nat, k9 = 1 := ⟨_, rfl⟩
          go_upto_region 14 with (first
            | (go_at_call 38; refine HDC.out.mono ?_; rintro e w6 h6; obtain ⟨a1, a2, a3, a4, a5, a6, rfl, hr6, hn6, hm6, hk6⟩ := h6.open; dsimp only at hm6 hk6 hr6 ⊢; have HM6 := hid hm6; clear hm6 hk6 h6)
            | fail)
          obtain ⟨y0, y1⟩ := box2 w6 (.slice a1 a2 a3) (.slice a4 a5 a6) 26
          have hn7 := hn6.alloc (.cells #[.slice a1 a2 a3, .slice a4 a5 a6] 26)
          have hr7 := hr6.nw ((Nw.refl w6).alloc (.cells #[.slice a1 a2 a3, .slice a4 a5 a6] 26))
          have ly := lt_alloc w6 (.cells #[.slice a1 a2 a3, .slice a4 a5 a6] 26)
          have hn' := hn.trans hn7
          clear hn6 hr6 HDC i0 i1 i2 i3 hbr
          generalize w6.alloc (.cells #[.slice a1 a2 a3, .slice a4 a5 a6] 26) = w7 at *
          generalize w6.heap.size = g13 at *
          have hst23 := fun w' (h : Nw w7 w') => HST.out w' (hn7.trans h)
          clear HST hn7
          by_cases h0e : de = 0
          · subst h0e
            have hdn := hD2 (Or.inl rfl)
            have ha5 := hdn.trans (congrArg (fun n : Nat => (n : Int)) HM6.out.symm)
            subst ha5
            have HEN := hid (fun w' (h : Nw w7 w') => show Calls Try.prog 33 #[.agg #[.slice a1 a2 a3, .slice a4 a5 a6]] w' (Hands8 w' b) by
              rw [← HD1.out rfl]
              obtain ⟨x1, x2, ex, hx1, hx2⟩ := hr7.nw h
              cases ex
              exact encode_c _ _ dt w' hx1 hx2 HSM.out hLE HTB.out)
            clear HD1 HSM HTB hD2 hdn hr7 hLE HM6
            refine wp_region_stairs (by kernel_rfl) (by kernel_rfl) (by kernel_rfl) ?_
            iterate 4
              refine Stairs.is ?_ ?_ ?_
              rotate_left 1
              · intro x wR hR hd K hK
                simp only [Act.put, List.setIfInBounds_toArray, List.set_cons_zero, List.set_cons_succ, Nat.reduceAdd, List.length_nil, List.length_cons, List.nil_append, List.cons_append, Say.ok] at hK ⊢
                clear hd
                change Hid _ at hK
                obtain ⟨hcR, hfR, hzR⟩ := nwc hR
                first | (refine wanted_yes ?_ ?_; rfl) | (refine wanted_no ?_ ?_; rfl)
                go_wp2_with (first 
              | (go_at_call 33; refine (HEN.out _ (by repeat (first | assumption | exact Nw.refl _ | refine Nw.alloc ?_ _ | refine Nw.drew ?_ | refine Nw.drewN2 ?_ _ | (refine Nw.trans ?_ (by assumption))))).mono ?_; rintro e w9 ⟨v9, rfl, hown9, hn9⟩))
                all_goals (refine hK.out _ _ ?_ ?_ <;> first | (solve | (repeat (first | assumption | exact Nw.refl _ | refine Nw.alloc ?_ _ | refine Nw.drew ?_ | refine Nw.drewN2 ?_ _ | (refine Nw.trans ?_ (by assumption))))) | exact rfl | exact Own.sl (by assumption))
              try simp only [Act.put, List.setIfInBounds_toArray, List.set_cons_zero, List.set_cons_succ, Nat.reduceAdd, List.length_nil, List.length_cons, List.nil_append, List.cons_append]
            iterate 1
              refine Stairs.that (Reads8 b) (by simp) ?_ ?_
              · intro x wR hR hd K hK
                simp only [Act.put, List.setIfInBounds_toArray, List.set_cons_zero, List.set_cons_succ, Nat.reduceAdd, List.length_nil, List.length_cons, List.nil_append, List.cons_append, Say.ok] at hK ⊢
                clear hd
                change Hid _ at hK
                obtain ⟨hcR, hfR, hzR⟩ := nwc hR
                first | (refine wanted_yes ?_ ?_; rfl) | (refine wanted_no ?_ ?_; rfl)
                go_wp2_with (first 
              | (go_at_call 33; refine (HEN.out _ (by repeat (first | assumption | exact Nw.refl _ | refine Nw.alloc ?_ _ | refine Nw.drew ?_ | refine Nw.drewN2 ?_ _ | (refine Nw.trans ?_ (by assumption))))).mono ?_; rintro e w9 ⟨v9, rfl, hown9, hn9⟩))
                all_goals (refine hK.out _ _ ?_ ?_ <;> first | (solve | (repeat (first | assumption | exact Nw.refl _ | refine Nw.alloc ?_ _ | refine Nw.drew ?_ | refine Nw.drewN2 ?_ _ | (refine Nw.trans ?_ (by assumption))))) | exact rfl | exact Own.sl (by assumption))
              try simp only [Act.put, List.setIfInBounds_toArray, List.set_cons_zero, List.set_cons_succ, Nat.reduceAdd, List.length_nil, List.length_cons, List.nil_append, List.cons_append]
            iterate 12
              refine Stairs.is ?_ ?_ ?_
              rotate_left 1
              · intro x wR hR hd K hK
                simp only [Act.put, List.setIfInBounds_toArray, List.set_cons_zero, List.set_cons_succ, Nat.reduceAdd, List.length_nil, List.length_cons, List.nil_append, List.cons_append, Say.ok] at hK ⊢
                try simp [Region.binds, sayAt, List.getD_cons_zero, List.getD_cons_succ, Say.ok, Vl] at hd
                try (first | have hs := str_ok hd | have hs := str_ok hd.2 | have hs := str_ok hd.1 | (obtain ⟨hd1, hd2, hd3⟩ := hd; first | have hs := str_ok hd1 | have hs := str_ok hd2 | have hs := str_ok hd3))
                change Hid _ at hK
                obtain ⟨hcR, hfR, hzR⟩ := nwc hR
                first | (refine wanted_yes ?_ ?_; rfl) | (refine wanted_no ?_ ?_; rfl)
                go_wp2_with (first 
              | (go_at_call 33; refine (HEN.out _ (by repeat (first | assumption | exact Nw.refl _ | refine Nw.alloc ?_ _ | refine Nw.drew ?_ | refine Nw.drewN2 ?_ _ | (refine Nw.trans ?_ (by assumption))))).mono ?_; rintro e w9 ⟨v9, rfl, hown9, hn9⟩))
                all_goals (refine hK.out _ _ ?_ ?_ <;> first | (solve | (repeat (first | assumption | exact Nw.refl _ | refine Nw.alloc ?_ _ | refine Nw.drew ?_ | refine Nw.drewN2 ?_ _ | (refine Nw.trans ?_ (by assumption))))) | exact rfl | exact Own.sl (by assumption))
              try simp only [Act.put, List.setIfInBounds_toArray, List.set_cons_zero, List.set_cons_succ, Nat.reduceAdd, List.length_nil, List.length_cons, List.nil_append, List.cons_append]
            refine Stairs.nil ?_
            intro x wR hR hx
            have h4 := hx 4 (by decide)
            simp only [sayAt, List.getD_cons_zero, List.getD_cons_succ, Say.ok, Vl] at h4
            clear hx
            obtain ⟨hcR, hfR, hzR⟩ := nwc hR
            go_wp2
            go_roundw
            case rel => exact ⟨k9, by omega, by rw [hk9]; rfl, hn'.trans hR⟩
            case measure => simp [intOf]
          · have h0b : (de == 0) = false := beq_eq_false_iff_ne.2 h0e
            by_cases h5e : de = 5
            · subst h5e
              clear HD1 HSM HTB hD2 hr7 hLE HM6 h0e hst23
              refine wp_region_stairs (by kernel_rfl) (by kernel_rfl) (by kernel_rfl) ?_
              iterate 17
                refine Stairs.is ?_ ?_ ?_
                rotate_left 1
                · intro x wR hR hd K hK
                  simp only [Act.put, List.setIfInBounds_toArray, List.set_cons_zero, List.set_cons_succ, Nat.reduceAdd, List.length_nil, List.length_cons, List.nil_append, List.cons_append, Say.ok] at hK ⊢
                  clear hd
                  change Hid _ at hK
                  obtain ⟨hcR, hfR, hzR⟩ := nwc hR
                  first | (refine wanted_yes ?_ ?_; rfl) | (refine wanted_no ?_ ?_; rfl)
                  go_wp2_with (first 
                | (go_at_call 33; refine (HEN.out _ (by repeat (first | assumption | exact Nw.refl _ | refine Nw.alloc ?_ _ | refine Nw.drew ?_ | refine Nw.drewN2 ?_ _ | (refine Nw.trans ?_ (by assumption))))).mono ?_; rintro e w9 ⟨v9, rfl, hown9, hn9⟩))
                  all_goals (refine hK.out _ _ ?_ ?_ <;> first | (solve | (repeat (first | assumption | exact Nw.refl _ | refine Nw.alloc ?_ _ | refine Nw.drew ?_ | refine Nw.drewN2 ?_ _ | (refine Nw.trans ?_ (by assumption))))) | exact rfl | exact Own.sl (by assumption))
                try simp only [Act.put, List.setIfInBounds_toArray, List.set_cons_zero, List.set_cons_succ, Nat.reduceAdd, List.length_nil, List.length_cons, List.nil_append, List.cons_append]
              refine Stairs.nil ?_
              intro x wR hR hx
              clear hx
              obtain ⟨hcR, hfR, hzR⟩ := nwc hR
              go_wp2
              go_roundw
              case rel => exact ⟨k9, by omega, by rw [hk9]; rfl, hn'.trans hR⟩
              case measure => simp [intOf]
            · have h5b : (de == 5) = false := beq_eq_false_iff_ne.2 h5e
              have h5c : (de != 5) = true := by simpa using h5e
              have h0c : (de != 0) = true := by simpa using h0e
              have hdn := hD2 (Or.inr h5e)
              have ha5 := hdn.trans (congrArg (fun n : Nat => (n : Int)) HM6.out.symm)
              subst ha5
              clear HD1 HSM HTB hD2 hdn hr7 hLE HM6 h0e h5e hst23
              refine wp_region_stairs (by kernel_rfl) (by kernel_rfl) (by kernel_rfl) ?_
              iterate 17
                refine Stairs.is ?_ ?_ ?_
                rotate_left 1
                · intro x wR hR hd K hK
                  simp only [Act.put, List.setIfInBounds_toArray, List.set_cons_zero, List.set_cons_succ, Nat.reduceAdd, List.length_nil, List.length_cons, List.nil_append, List.cons_append, Say.ok] at hK ⊢
                  clear hd
                  change Hid _ at hK
                  obtain ⟨hcR, hfR, hzR⟩ := nwc hR
                  first | (refine wanted_yes ?_ ?_; rfl) | (refine wanted_no ?_ ?_; rfl)
                  go_wp2_with (first 
                | (go_at_call 33; refine (HEN.out _ (by repeat (first | assumption | exact Nw.refl _ | refine Nw.alloc ?_ _ | refine Nw.drew ?_ | refine Nw.drewN2 ?_ _ | (refine Nw.trans ?_ (by assumption))))).mono ?_; rintro e w9 ⟨v9, rfl, hown9, hn9⟩))
                  all_goals (refine hK.out _ _ ?_ ?_ <;> first | (solve | (repeat (first | assumption | exact Nw.refl _ | refine Nw.alloc ?_ _ | refine Nw.drew ?_ | refine Nw.drewN2 ?_ _ | (refine Nw.trans ?_ (by assumption))))) | exact rfl | exact Own.sl (by assumption))
                try simp only [Act.put, List.setIfInBounds_toArray, List.set_cons_zero, List.set_cons_succ, Nat.reduceAdd, List.length_nil, List.length_cons, List.nil_append, List.cons_append]
              refine Stairs.nil ?_
              intro x wR hR hx
              clear hx
              obtain ⟨hcR, hfR, hzR⟩ := nwc hR
              go_wp2
              go_roundw
              case rel => exact ⟨k9, by omega, by rw [hk9]; rfl, hn'.trans hR⟩
              case measure => simp [intOf]
        | 1, _ =>
          rw [show ((1 : Nat) : Int) = 1 from rfl]
          -- HB1: Bytes (hidden); Y1: the bytes; 2: the next number; HL1: Hid of the length
          have hbr := HB1.out.nw hn
          have hl5 := HL1.out
          obtain ⟨dt, dn, de, hD, hD1, hD2, hSM, hLE, hTB⟩ := dec_facts Y1 hl5
          have HDC := hid (show Calls Try.prog 38 #[_] wr (HandsD wr (dt, dn, de)) by rw [← hD]; exact decode_c _ Y1 wr hbr (by omega))
          have HST := hid (fun w' (h : Nw wr w') => str_ok (hbr.nw h))
          have HD1 := hid hD1
          have HSM := hid hSM
          have HTB := hid hTB
          clear hD hD1 hSM hTB
          obtain ⟨k9, hk9⟩ : ∃ k9 : Nat, k9 = 2 := ⟨_, rfl⟩
          go_upto_region 14 with (first
            | (go_at_call 38; refine HDC.out.mono ?_; rintro e w6 h6; obtain ⟨a1, a2, a3, a4, a5, a6, rfl, hr6, hn6, hm6, hk6⟩ := h6.open; dsimp only at hm6 hk6 hr6 ⊢; have HM6 := hid hm6; clear hm6 hk6 h6)
            | fail)
          obtain ⟨y0, y1⟩ := box2 w6 (.slice a1 a2 a3) (.slice a4 a5 a6) 26
          have hn7 := hn6.alloc (.cells #[.slice a1 a2 a3, .slice a4 a5 a6] 26)
          have hr7 := hr6.nw ((Nw.refl w6).alloc (.cells #[.slice a1 a2 a3, .slice a4 a5 a6] 26))
          have ly := lt_alloc w6 (.cells #[.slice a1 a2 a3, .slice a4 a5 a6] 26)
          have hn' := hn.trans hn7
          clear hn6 hr6 HDC i0 i1 i2 i3 hbr
          generalize w6.alloc (.cells #[.slice a1 a2 a3, .slice a4 a5 a6] 26) = w7 at *
          generalize w6.heap.size = g13 at *
          have hst23 := fun w' (h : Nw w7 w') => HST.out w' (hn7.trans h)
          clear HST hn7
          by_cases h0e : de = 0
          · subst h0e
            have hdn := hD2 (Or.inl rfl)
            have ha5 := hdn.trans (congrArg (fun n : Nat => (n : Int)) HM6.out.symm)
            subst ha5
            have HEN := hid (fun w' (h : Nw w7 w') => show Calls Try.prog 33 #[.agg #[.slice a1 a2 a3, .slice a4 a5 a6]] w' (Hands8 w' Y1) by
              rw [← HD1.out rfl]
              obtain ⟨x1, x2, ex, hx1, hx2⟩ := hr7.nw h
              cases ex
              exact encode_c _ _ dt w' hx1 hx2 HSM.out hLE HTB.out)
            clear HD1 HSM HTB hD2 hdn hr7 hLE HM6
            refine wp_region_stairs (by kernel_rfl) (by kernel_rfl) (by kernel_rfl) ?_
            iterate 4
              refine Stairs.is ?_ ?_ ?_
              rotate_left 1
              · intro x wR hR hd K hK
                simp only [Act.put, List.setIfInBounds_toArray, List.set_cons_zero, List.set_cons_succ, Nat.reduceAdd, List.length_nil, List.length_cons, List.nil_append, List.cons_append, Say.ok] at hK ⊢
                clear hd
                change Hid _ at hK
                obtain ⟨hcR, hfR, hzR⟩ := nwc hR
                first | (refine wanted_yes ?_ ?_; rfl) | (refine wanted_no ?_ ?_; rfl)
                go_wp2_with (first 
              | (go_at_call 33; refine (HEN.out _ (by repeat (first | assumption | exact Nw.refl _ | refine Nw.alloc ?_ _ | refine Nw.drew ?_ | refine Nw.drewN2 ?_ _ | (refine Nw.trans ?_ (by assumption))))).mono ?_; rintro e w9 ⟨v9, rfl, hown9, hn9⟩))
                all_goals (refine hK.out _ _ ?_ ?_ <;> first | (solve | (repeat (first | assumption | exact Nw.refl _ | refine Nw.alloc ?_ _ | refine Nw.drew ?_ | refine Nw.drewN2 ?_ _ | (refine Nw.trans ?_ (by assumption))))) | exact rfl | exact Own.sl (by assumption))
              try simp only [Act.put, List.setIfInBounds_toArray, List.set_cons_zero, List.set_cons_succ, Nat.reduceAdd, List.length_nil, List.length_cons, List.nil_append, List.cons_append]
            iterate 1
              refine Stairs.that (Reads8 Y1) (by simp) ?_ ?_
              · intro x wR hR hd K hK
                simp only [Act.put, List.setIfInBounds_toArray, List.set_cons_zero, List.set_cons_succ, Nat.reduceAdd, List.length_nil, List.length_cons, List.nil_append, List.cons_append, Say.ok] at hK ⊢
                clear hd
                change Hid _ at hK
                obtain ⟨hcR, hfR, hzR⟩ := nwc hR
                first | (refine wanted_yes ?_ ?_; rfl) | (refine wanted_no ?_ ?_; rfl)
                go_wp2_with (first 
              | (go_at_call 33; refine (HEN.out _ (by repeat (first | assumption | exact Nw.refl _ | refine Nw.alloc ?_ _ | refine Nw.drew ?_ | refine Nw.drewN2 ?_ _ | (refine Nw.trans ?_ (by assumption))))).mono ?_; rintro e w9 ⟨v9, rfl, hown9, hn9⟩))
                all_goals (refine hK.out _ _ ?_ ?_ <;> first | (solve | (repeat (first | assumption | exact Nw.refl _ | refine Nw.alloc ?_ _ | refine Nw.drew ?_ | refine Nw.drewN2 ?_ _ | (refine Nw.trans ?_ (by assumption))))) | exact rfl | exact Own.sl (by assumption))
              try simp only [Act.put, List.setIfInBounds_toArray, List.set_cons_zero, List.set_cons_succ, Nat.reduceAdd, List.length_nil, List.length_cons, List.nil_append, List.cons_append]
            iterate 12
              refine Stairs.is ?_ ?_ ?_
              rotate_left 1
              · intro x wR hR hd K hK
                simp only [Act.put, List.setIfInBounds_toArray, List.set_cons_zero, List.set_cons_succ, Nat.reduceAdd, List.length_nil, List.length_cons, List.nil_append, List.cons_append, Say.ok] at hK ⊢
                try simp [Region.binds, sayAt, List.getD_cons_zero, List.getD_cons_succ, Say.ok, Vl] at hd
                try (first | have hs := str_ok hd | have hs := str_ok hd.2 | have hs := str_ok hd.1 | (obtain ⟨hd1, hd2, hd3⟩ := hd; first | have hs := str_ok hd1 | have hs := str_ok hd2 | have hs := str_ok hd3))
                change Hid _ at hK
                obtain ⟨hcR, hfR, hzR⟩ := nwc hR
                first | (refine wanted_yes ?_ ?_; rfl) | (refine wanted_no ?_ ?_; rfl)
                go_wp2_with (first 
              | (go_at_call 33; refine (HEN.out _ (by repeat (first | assumption | exact Nw.refl _ | refine Nw.alloc ?_ _ | refine Nw.drew ?_ | refine Nw.drewN2 ?_ _ | (refine Nw.trans ?_ (by assumption))))).mono ?_; rintro e w9 ⟨v9, rfl, hown9, hn9⟩))
                all_goals (refine hK.out _ _ ?_ ?_ <;> first | (solve | (repeat (first | assumption | exact Nw.refl _ | refine Nw.alloc ?_ _ | refine Nw.drew ?_ | refine Nw.drewN2 ?_ _ | (refine Nw.trans ?_ (by assumption))))) | exact rfl | exact Own.sl (by assumption))
              try simp only [Act.put, List.setIfInBounds_toArray, List.set_cons_zero, List.set_cons_succ, Nat.reduceAdd, List.length_nil, List.length_cons, List.nil_append, List.cons_append]
            refine Stairs.nil ?_
            intro x wR hR hx
            have h4 := hx 4 (by decide)
            simp only [sayAt, List.getD_cons_zero, List.getD_cons_succ, Say.ok, Vl] at h4
            clear hx
            obtain ⟨hcR, hfR, hzR⟩ := nwc hR
            go_wp2
            go_roundw
            case rel => exact ⟨k9, by omega, by rw [hk9]; rfl, hn'.trans hR⟩
            case measure => simp [intOf]
          · have h0b : (de == 0) = false := beq_eq_false_iff_ne.2 h0e
            by_cases h5e : de = 5
            · subst h5e
              clear HD1 HSM HTB hD2 hr7 hLE HM6 h0e hst23
              refine wp_region_stairs (by kernel_rfl) (by kernel_rfl) (by kernel_rfl) ?_
              iterate 17
                refine Stairs.is ?_ ?_ ?_
                rotate_left 1
                · intro x wR hR hd K hK
                  simp only [Act.put, List.setIfInBounds_toArray, List.set_cons_zero, List.set_cons_succ, Nat.reduceAdd, List.length_nil, List.length_cons, List.nil_append, List.cons_append, Say.ok] at hK ⊢
                  clear hd
                  change Hid _ at hK
                  obtain ⟨hcR, hfR, hzR⟩ := nwc hR
                  first | (refine wanted_yes ?_ ?_; rfl) | (refine wanted_no ?_ ?_; rfl)
                  go_wp2_with (first 
                | (go_at_call 33; refine (HEN.out _ (by repeat (first | assumption | exact Nw.refl _ | refine Nw.alloc ?_ _ | refine Nw.drew ?_ | refine Nw.drewN2 ?_ _ | (refine Nw.trans ?_ (by assumption))))).mono ?_; rintro e w9 ⟨v9, rfl, hown9, hn9⟩))
                  all_goals (refine hK.out _ _ ?_ ?_ <;> first | (solve | (repeat (first | assumption | exact Nw.refl _ | refine Nw.alloc ?_ _ | refine Nw.drew ?_ | refine Nw.drewN2 ?_ _ | (refine Nw.trans ?_ (by assumption))))) | exact rfl | exact Own.sl (by assumption))
                try simp only [Act.put, List.setIfInBounds_toArray, List.set_cons_zero, List.set_cons_succ, Nat.reduceAdd, List.length_nil, List.length_cons, List.nil_append, List.cons_append]
              refine Stairs.nil ?_
              intro x wR hR hx
              clear hx
              obtain ⟨hcR, hfR, hzR⟩ := nwc hR
              go_wp2
              go_roundw
              case rel => exact ⟨k9, by omega, by rw [hk9]; rfl, hn'.trans hR⟩
              case measure => simp [intOf]
            · have h5b : (de == 5) = false := beq_eq_false_iff_ne.2 h5e
              have h5c : (de != 5) = true := by simpa using h5e
              have h0c : (de != 0) = true := by simpa using h0e
              have hdn := hD2 (Or.inr h5e)
              have ha5 := hdn.trans (congrArg (fun n : Nat => (n : Int)) HM6.out.symm)
              subst ha5
              clear HD1 HSM HTB hD2 hdn hr7 hLE HM6 h0e h5e hst23
              refine wp_region_stairs (by kernel_rfl) (by kernel_rfl) (by kernel_rfl) ?_
              iterate 17
                refine Stairs.is ?_ ?_ ?_
                rotate_left 1
                · intro x wR hR hd K hK
                  simp only [Act.put, List.setIfInBounds_toArray, List.set_cons_zero, List.set_cons_succ, Nat.reduceAdd, List.length_nil, List.length_cons, List.nil_append, List.cons_append, Say.ok] at hK ⊢
                  clear hd
                  change Hid _ at hK
                  obtain ⟨hcR, hfR, hzR⟩ := nwc hR
                  first | (refine wanted_yes ?_ ?_; rfl) | (refine wanted_no ?_ ?_; rfl)
                  go_wp2_with (first 
                | (go_at_call 33; refine (HEN.out _ (by repeat (first | assumption | exact Nw.refl _ | refine Nw.alloc ?_ _ | refine Nw.drew ?_ | refine Nw.drewN2 ?_ _ | (refine Nw.trans ?_ (by assumption))))).mono ?_; rintro e w9 ⟨v9, rfl, hown9, hn9⟩))
                  all_goals (refine hK.out _ _ ?_ ?_ <;> first | (solve | (repeat (first | assumption | exact Nw.refl _ | refine Nw.alloc ?_ _ | refine Nw.drew ?_ | refine Nw.drewN2 ?_ _ | (refine Nw.trans ?_ (by assumption))))) | exact rfl | exact Own.sl (by assumption))
                try simp only [Act.put, List.setIfInBounds_toArray, List.set_cons_zero, List.set_cons_succ, Nat.reduceAdd, List.length_nil, List.length_cons, List.nil_append, List.cons_append]
              refine Stairs.nil ?_
              intro x wR hR hx
              clear hx
              obtain ⟨hcR, hfR, hzR⟩ := nwc hR
              go_wp2
              go_roundw
              case rel => exact ⟨k9, by omega, by rw [hk9]; rfl, hn'.trans hR⟩
              case measure => simp [intOf]
        | 2, _ =>
          rw [show ((2 : Nat) : Int) = 2 from rfl]
          -- HB2: Bytes (hidden); Y2: the bytes; 3: the next number; HL2: Hid of the length
          have hbr := HB2.out.nw hn
          have hl5 := HL2.out
          obtain ⟨dt, dn, de, hD, hD1, hD2, hSM, hLE, hTB⟩ := dec_facts Y2 hl5
          have HDC := hid (show Calls Try.prog 38 #[_] wr (HandsD wr (dt, dn, de)) by rw [← hD]; exact decode_c _ Y2 wr hbr (by omega))
          have HST := hid (fun w' (h : Nw wr w') => str_ok (hbr.nw h))
          have HD1 := hid hD1
          have HSM := hid hSM
          have HTB := hid hTB
          clear hD hD1 hSM hTB
          obtain ⟨k9, hk9⟩ : ∃ k9 : Nat, k9 = 3 := ⟨_, rfl⟩
          go_upto_region 14 with (first
            | (go_at_call 38; refine HDC.out.mono ?_; rintro e w6 h6; obtain ⟨a1, a2, a3, a4, a5, a6, rfl, hr6, hn6, hm6, hk6⟩ := h6.open; dsimp only at hm6 hk6 hr6 ⊢; have HM6 := hid hm6; clear hm6 hk6 h6)
            | fail)
          obtain ⟨y0, y1⟩ := box2 w6 (.slice a1 a2 a3) (.slice a4 a5 a6) 26
          have hn7 := hn6.alloc (.cells #[.slice a1 a2 a3, .slice a4 a5 a6] 26)
          have hr7 := hr6.nw ((Nw.refl w6).alloc (.cells #[.slice a1 a2 a3, .slice a4 a5 a6] 26))
          have ly := lt_alloc w6 (.cells #[.slice a1 a2 a3, .slice a4 a5 a6] 26)
          have hn' := hn.trans hn7
          clear hn6 hr6 HDC i0 i1 i2 i3 hbr
          generalize w6.alloc (.cells #[.slice a1 a2 a3, .slice a4 a5 a6] 26) = w7 at *
          generalize w6.heap.size = g13 at *
          have hst23 := fun w' (h : Nw w7 w') => HST.out w' (hn7.trans h)
          clear HST hn7
          by_cases h0e : de = 0
          · subst h0e
            have hdn := hD2 (Or.inl rfl)
            have ha5 := hdn.trans (congrArg (fun n : Nat => (n : Int)) HM6.out.symm)
            subst ha5
            have HEN := hid (fun w' (h : Nw w7 w') => show Calls Try.prog 33 #[.agg #[.slice a1 a2 a3, .slice a4 a5 a6]] w' (Hands8 w' Y2) by
              rw [← HD1.out rfl]
              obtain ⟨x1, x2, ex, hx1, hx2⟩ := hr7.nw h
              cases ex
              exact encode_c _ _ dt w' hx1 hx2 HSM.out hLE HTB.out)
            clear HD1 HSM HTB hD2 hdn hr7 hLE HM6
            refine wp_region_stairs (by kernel_rfl) (by kernel_rfl) (by kernel_rfl) ?_
            iterate 4
              refine Stairs.is ?_ ?_ ?_
              rotate_left 1
              · intro x wR hR hd K hK
                simp only [Act.put, List.setIfInBounds_toArray, List.set_cons_zero, List.set_cons_succ, Nat.reduceAdd, List.length_nil, List.length_cons, List.nil_append, List.cons_append, Say.ok] at hK ⊢
                clear hd
                change Hid _ at hK
                obtain ⟨hcR, hfR, hzR⟩ := nwc hR
                first | (refine wanted_yes ?_ ?_; rfl) | (refine wanted_no ?_ ?_; rfl)
                go_wp2_with (first 
              | (go_at_call 33; refine (HEN.out _ (by repeat (first | assumption | exact Nw.refl _ | refine Nw.alloc ?_ _ | refine Nw.drew ?_ | refine Nw.drewN2 ?_ _ | (refine Nw.trans ?_ (by assumption))))).mono ?_; rintro e w9 ⟨v9, rfl, hown9, hn9⟩))
                all_goals (refine hK.out _ _ ?_ ?_ <;> first | (solve | (repeat (first | assumption | exact Nw.refl _ | refine Nw.alloc ?_ _ | refine Nw.drew ?_ | refine Nw.drewN2 ?_ _ | (refine Nw.trans ?_ (by assumption))))) | exact rfl | exact Own.sl (by assumption))
              try simp only [Act.put, List.setIfInBounds_toArray, List.set_cons_zero, List.set_cons_succ, Nat.reduceAdd, List.length_nil, List.length_cons, List.nil_append, List.cons_append]
            iterate 1
              refine Stairs.that (Reads8 Y2) (by simp) ?_ ?_
              · intro x wR hR hd K hK
                simp only [Act.put, List.setIfInBounds_toArray, List.set_cons_zero, List.set_cons_succ, Nat.reduceAdd, List.length_nil, List.length_cons, List.nil_append, List.cons_append, Say.ok] at hK ⊢
                clear hd
                change Hid _ at hK
                obtain ⟨hcR, hfR, hzR⟩ := nwc hR
                first | (refine wanted_yes ?_ ?_; rfl) | (refine wanted_no ?_ ?_; rfl)
                go_wp2_with (first 
              | (go_at_call 33; refine (HEN.out _ (by repeat (first | assumption | exact Nw.refl _ | refine Nw.alloc ?_ _ | refine Nw.drew ?_ | refine Nw.drewN2 ?_ _ | (refine Nw.trans ?_ (by assumption))))).mono ?_; rintro e w9 ⟨v9, rfl, hown9, hn9⟩))
                all_goals (refine hK.out _ _ ?_ ?_ <;> first | (solve | (repeat (first | assumption | exact Nw.refl _ | refine Nw.alloc ?_ _ | refine Nw.drew ?_ | refine Nw.drewN2 ?_ _ | (refine Nw.trans ?_ (by assumption))))) | exact rfl | exact Own.sl (by assumption))
              try simp only [Act.put, List.setIfInBounds_toArray, List.set_cons_zero, List.set_cons_succ, Nat.reduceAdd, List.length_nil, List.length_cons, List.nil_append, List.cons_append]
            iterate 12
              refine Stairs.is ?_ ?_ ?_
              rotate_left 1
              · intro x wR hR hd K hK
                simp only [Act.put, List.setIfInBounds_toArray, List.set_cons_zero, List.set_cons_succ, Nat.reduceAdd, List.length_nil, List.length_cons, List.nil_append, List.cons_append, Say.ok] at hK ⊢
                try simp [Region.binds, sayAt, List.getD_cons_zero, List.getD_cons_succ, Say.ok, Vl] at hd
                try (first | have hs := str_ok hd | have hs := str_ok hd.2 | have hs := str_ok hd.1 | (obtain ⟨hd1, hd2, hd3⟩ := hd; first | have hs := str_ok hd1 | have hs := str_ok hd2 | have hs := str_ok hd3))
                change Hid _ at hK
                obtain ⟨hcR, hfR, hzR⟩ := nwc hR
                first | (refine wanted_yes ?_ ?_; rfl) | (refine wanted_no ?_ ?_; rfl)
                go_wp2_with (first 
              | (go_at_call 33; refine (HEN.out _ (by repeat (first | assumption | exact Nw.refl _ | refine Nw.alloc ?_ _ | refine Nw.drew ?_ | refine Nw.drewN2 ?_ _ | (refine Nw.trans ?_ (by assumption))))).mono ?_; rintro e w9 ⟨v9, rfl, hown9, hn9⟩))
                all_goals (refine hK.out _ _ ?_ ?_ <;> first | (solve | (repeat (first | assumption | exact Nw.refl _ | refine Nw.alloc ?_ _ | refine Nw.drew ?_ | refine Nw.drewN2 ?_ _ | (refine Nw.trans ?_ (by assumption))))) | exact rfl | exact Own.sl (by assumption))
              try simp only [Act.put, List.setIfInBounds_toArray, List.set_cons_zero, List.set_cons_succ, Nat.reduceAdd, List.length_nil, List.length_cons, List.nil_append, List.cons_append]
            refine Stairs.nil ?_
            intro x wR hR hx
            have h4 := hx 4 (by decide)
            simp only [sayAt, List.getD_cons_zero, List.getD_cons_succ, Say.ok, Vl] at h4
            clear hx
            obtain ⟨hcR, hfR, hzR⟩ := nwc hR
            go_wp2
            go_roundw
            case rel => exact ⟨k9, by omega, by rw [hk9]; rfl, hn'.trans hR⟩
            case measure => simp [intOf]
          · have h0b : (de == 0) = false := beq_eq_false_iff_ne.2 h0e
            by_cases h5e : de = 5
            · subst h5e
              clear HD1 HSM HTB hD2 hr7 hLE HM6 h0e hst23
              refine wp_region_stairs (by kernel_rfl) (by kernel_rfl) (by kernel_rfl) ?_
              iterate 17
                refine Stairs.is ?_ ?_ ?_
                rotate_left 1
                · intro x wR hR hd K hK
                  simp only [Act.put, List.setIfInBounds_toArray, List.set_cons_zero, List.set_cons_succ, Nat.reduceAdd, List.length_nil, List.length_cons, List.nil_append, List.cons_append, Say.ok] at hK ⊢
                  clear hd
                  change Hid _ at hK
                  obtain ⟨hcR, hfR, hzR⟩ := nwc hR
                  first | (refine wanted_yes ?_ ?_; rfl) | (refine wanted_no ?_ ?_; rfl)
                  go_wp2_with (first 
                | (go_at_call 33; refine (HEN.out _ (by repeat (first | assumption | exact Nw.refl _ | refine Nw.alloc ?_ _ | refine Nw.drew ?_ | refine Nw.drewN2 ?_ _ | (refine Nw.trans ?_ (by assumption))))).mono ?_; rintro e w9 ⟨v9, rfl, hown9, hn9⟩))
                  all_goals (refine hK.out _ _ ?_ ?_ <;> first | (solve | (repeat (first | assumption | exact Nw.refl _ | refine Nw.alloc ?_ _ | refine Nw.drew ?_ | refine Nw.drewN2 ?_ _ | (refine Nw.trans ?_ (by assumption))))) | exact rfl | exact Own.sl (by assumption))
                try simp only [Act.put, List.setIfInBounds_toArray, List.set_cons_zero, List.set_cons_succ, Nat.reduceAdd, List.length_nil, List.length_cons, List.nil_append, List.cons_append]
              refine Stairs.nil ?_
              intro x wR hR hx
              clear hx
              obtain ⟨hcR, hfR, hzR⟩ := nwc hR
              go_wp2
              go_roundw
              case rel => exact ⟨k9, by omega, by rw [hk9]; rfl, hn'.trans hR⟩
              case measure => simp [intOf]
            · have h5b : (de == 5) = false := beq_eq_false_iff_ne.2 h5e
              have h5c : (de != 5) = true := by simpa using h5e
              have h0c : (de != 0) = true := by simpa using h0e
              have hdn := hD2 (Or.inr h5e)
              have ha5 := hdn.trans (congrArg (fun n : Nat => (n : Int)) HM6.out.symm)
              subst ha5
              clear HD1 HSM HTB hD2 hdn hr7 hLE HM6 h0e h5e hst23
              refine wp_region_stairs (by kernel_rfl) (by kernel_rfl) (by kernel_rfl) ?_
              iterate 17
                refine Stairs.is ?_ ?_ ?_
                rotate_left 1
                · intro x wR hR hd K hK
                  simp only [Act.put, List.setIfInBounds_toArray, List.set_cons_zero, List.set_cons_succ, Nat.reduceAdd, List.length_nil, List.length_cons, List.nil_append, List.cons_append, Say.ok] at hK ⊢
                  clear hd
                  change Hid _ at hK
                  obtain ⟨hcR, hfR, hzR⟩ := nwc hR
                  first | (refine wanted_yes ?_ ?_; rfl) | (refine wanted_no ?_ ?_; rfl)
                  go_wp2_with (first 
                | (go_at_call 33; refine (HEN.out _ (by repeat (first | assumption | exact Nw.refl _ | refine Nw.alloc ?_ _ | refine Nw.drew ?_ | refine Nw.drewN2 ?_ _ | (refine Nw.trans ?_ (by assumption))))).mono ?_; rintro e w9 ⟨v9, rfl, hown9, hn9⟩))
                  all_goals (refine hK.out _ _ ?_ ?_ <;> first | (solve | (repeat (first | assumption | exact Nw.refl _ | refine Nw.alloc ?_ _ | refine Nw.drew ?_ | refine Nw.drewN2 ?_ _ | (refine Nw.trans ?_ (by assumption))))) | exact rfl | exact Own.sl (by assumption))
                try simp only [Act.put, List.setIfInBounds_toArray, List.set_cons_zero, List.set_cons_succ, Nat.reduceAdd, List.length_nil, List.length_cons, List.nil_append, List.cons_append]
              refine Stairs.nil ?_
              intro x wR hR hx
              clear hx
              obtain ⟨hcR, hfR, hzR⟩ := nwc hR
              go_wp2
              go_roundw
              case rel => exact ⟨k9, by omega, by rw [hk9]; rfl, hn'.trans hR⟩
              case measure => simp [intOf]
        | 3, _ =>
          rw [show ((3 : Nat) : Int) = 3 from rfl]
          -- HB3: Bytes (hidden); Y3: the bytes; 4: the next number; HL3: Hid of the length
          have hbr := HB3.out.nw hn
          have hl5 := HL3.out
          obtain ⟨dt, dn, de, hD, hD1, hD2, hSM, hLE, hTB⟩ := dec_facts Y3 hl5
          have HDC := hid (show Calls Try.prog 38 #[_] wr (HandsD wr (dt, dn, de)) by rw [← hD]; exact decode_c _ Y3 wr hbr (by omega))
          have HST := hid (fun w' (h : Nw wr w') => str_ok (hbr.nw h))
          have HD1 := hid hD1
          have HSM := hid hSM
          have HTB := hid hTB
          clear hD hD1 hSM hTB
          obtain ⟨k9, hk9⟩ : ∃ k9 : Nat, k9 = 4 := ⟨_, rfl⟩
          go_upto_region 14 with (first
            | (go_at_call 38; refine HDC.out.mono ?_; rintro e w6 h6; obtain ⟨a1, a2, a3, a4, a5, a6, rfl, hr6, hn6, hm6, hk6⟩ := h6.open; dsimp only at hm6 hk6 hr6 ⊢; have HM6 := hid hm6; clear hm6 hk6 h6)
            | fail)
          obtain ⟨y0, y1⟩ := box2 w6 (.slice a1 a2 a3) (.slice a4 a5 a6) 26
          have hn7 := hn6.alloc (.cells #[.slice a1 a2 a3, .slice a4 a5 a6] 26)
          have hr7 := hr6.nw ((Nw.refl w6).alloc (.cells #[.slice a1 a2 a3, .slice a4 a5 a6] 26))
          have ly := lt_alloc w6 (.cells #[.slice a1 a2 a3, .slice a4 a5 a6] 26)
          have hn' := hn.trans hn7
          clear hn6 hr6 HDC i0 i1 i2 i3 hbr
          generalize w6.alloc (.cells #[.slice a1 a2 a3, .slice a4 a5 a6] 26) = w7 at *
          generalize w6.heap.size = g13 at *
          have hst23 := fun w' (h : Nw w7 w') => HST.out w' (hn7.trans h)
          clear HST hn7
          by_cases h0e : de = 0
          · subst h0e
            have hdn := hD2 (Or.inl rfl)
            have ha5 := hdn.trans (congrArg (fun n : Nat => (n : Int)) HM6.out.symm)
            subst ha5
            have HEN := hid (fun w' (h : Nw w7 w') => show Calls Try.prog 33 #[.agg #[.slice a1 a2 a3, .slice a4 a5 a6]] w' (Hands8 w' Y3) by
              rw [← HD1.out rfl]
              obtain ⟨x1, x2, ex, hx1, hx2⟩ := hr7.nw h
              cases ex
              exact encode_c _ _ dt w' hx1 hx2 HSM.out hLE HTB.out)
            clear HD1 HSM HTB hD2 hdn hr7 hLE HM6
            refine wp_region_stairs (by kernel_rfl) (by kernel_rfl) (by kernel_rfl) ?_
            iterate 4
              refine Stairs.is ?_ ?_ ?_
              rotate_left 1
              · intro x wR hR hd K hK
                simp only [Act.put, List.setIfInBounds_toArray, List.set_cons_zero, List.set_cons_succ, Nat.reduceAdd, List.length_nil, List.length_cons, List.nil_append, List.cons_append, Say.ok] at hK ⊢
                clear hd
                change Hid _ at hK
                obtain ⟨hcR, hfR, hzR⟩ := nwc hR
                first | (refine wanted_yes ?_ ?_; rfl) | (refine wanted_no ?_ ?_; rfl)
                go_wp2_with (first 
              | (go_at_call 33; refine (HEN.out _ (by repeat (first | assumption | exact Nw.refl _ | refine Nw.alloc ?_ _ | refine Nw.drew ?_ | refine Nw.drewN2 ?_ _ | (refine Nw.trans ?_ (by assumption))))).mono ?_; rintro e w9 ⟨v9, rfl, hown9, hn9⟩))
                all_goals (refine hK.out _ _ ?_ ?_ <;> first | (solve | (repeat (first | assumption | exact Nw.refl _ | refine Nw.alloc ?_ _ | refine Nw.drew ?_ | refine Nw.drewN2 ?_ _ | (refine Nw.trans ?_ (by assumption))))) | exact rfl | exact Own.sl (by assumption))
              try simp only [Act.put, List.setIfInBounds_toArray, List.set_cons_zero, List.set_cons_succ, Nat.reduceAdd, List.length_nil, List.length_cons, List.nil_append, List.cons_append]
            iterate 1
              refine Stairs.that (Reads8 Y3) (by simp) ?_ ?_
              · intro x wR hR hd K hK
                simp only [Act.put, List.setIfInBounds_toArray, List.set_cons_zero, List.set_cons_succ, Nat.reduceAdd, List.length_nil, List.length_cons, List.nil_append, List.cons_append, Say.ok] at hK ⊢
                clear hd
                change Hid _ at hK
                obtain ⟨hcR, hfR, hzR⟩ := nwc hR
                first | (refine wanted_yes ?_ ?_; rfl) | (refine wanted_no ?_ ?_; rfl)
                go_wp2_with (first 
              | (go_at_call 33; refine (HEN.out _ (by repeat (first | assumption | exact Nw.refl _ | refine Nw.alloc ?_ _ | refine Nw.drew ?_ | refine Nw.drewN2 ?_ _ | (refine Nw.trans ?_ (by assumption))))).mono ?_; rintro e w9 ⟨v9, rfl, hown9, hn9⟩))
                all_goals (refine hK.out _ _ ?_ ?_ <;> first | (solve | (repeat (first | assumption | exact Nw.refl _ | refine Nw.alloc ?_ _ | refine Nw.drew ?_ | refine Nw.drewN2 ?_ _ | (refine Nw.trans ?_ (by assumption))))) | exact rfl | exact Own.sl (by assumption))
              try simp only [Act.put, List.setIfInBounds_toArray, List.set_cons_zero, List.set_cons_succ, Nat.reduceAdd, List.length_nil, List.length_cons, List.nil_append, List.cons_append]
            iterate 12
              refine Stairs.is ?_ ?_ ?_
              rotate_left 1
              · intro x wR hR hd K hK
                simp only [Act.put, List.setIfInBounds_toArray, List.set_cons_zero, List.set_cons_succ, Nat.reduceAdd, List.length_nil, List.length_cons, List.nil_append, List.cons_append, Say.ok] at hK ⊢
                try simp [Region.binds, sayAt, List.getD_cons_zero, List.getD_cons_succ, Say.ok, Vl] at hd
                try (first | have hs := str_ok hd | have hs := str_ok hd.2 | have hs := str_ok hd.1 | (obtain ⟨hd1, hd2, hd3⟩ := hd; first | have hs := str_ok hd1 | have hs := str_ok hd2 | have hs := str_ok hd3))
                change Hid _ at hK
                obtain ⟨hcR, hfR, hzR⟩ := nwc hR
                first | (refine wanted_yes ?_ ?_; rfl) | (refine wanted_no ?_ ?_; rfl)
                go_wp2_with (first 
              | (go_at_call 33; refine (HEN.out _ (by repeat (first | assumption | exact Nw.refl _ | refine Nw.alloc ?_ _ | refine Nw.drew ?_ | refine Nw.drewN2 ?_ _ | (refine Nw.trans ?_ (by assumption))))).mono ?_; rintro e w9 ⟨v9, rfl, hown9, hn9⟩))
                all_goals (refine hK.out _ _ ?_ ?_ <;> first | (solve | (repeat (first | assumption | exact Nw.refl _ | refine Nw.alloc ?_ _ | refine Nw.drew ?_ | refine Nw.drewN2 ?_ _ | (refine Nw.trans ?_ (by assumption))))) | exact rfl | exact Own.sl (by assumption))
              try simp only [Act.put, List.setIfInBounds_toArray, List.set_cons_zero, List.set_cons_succ, Nat.reduceAdd, List.length_nil, List.length_cons, List.nil_append, List.cons_append]
            refine Stairs.nil ?_
            intro x wR hR hx
            have h4 := hx 4 (by decide)
            simp only [sayAt, List.getD_cons_zero, List.getD_cons_succ, Say.ok, Vl] at h4
            clear hx
            obtain ⟨hcR, hfR, hzR⟩ := nwc hR
            go_wp2
            go_roundw
            case rel => exact ⟨k9, by omega, by rw [hk9]; rfl, hn'.trans hR⟩
            case measure => simp [intOf]
          · have h0b : (de == 0) = false := beq_eq_false_iff_ne.2 h0e
            by_cases h5e : de = 5
            · subst h5e
              clear HD1 HSM HTB hD2 hr7 hLE HM6 h0e hst23
              refine wp_region_stairs (by kernel_rfl) (by kernel_rfl) (by kernel_rfl) ?_
              iterate 17
                refine Stairs.is ?_ ?_ ?_
                rotate_left 1
                · intro x wR hR hd K hK
                  simp only [Act.put, List.setIfInBounds_toArray, List.set_cons_zero, List.set_cons_succ, Nat.reduceAdd, List.length_nil, List.length_cons, List.nil_append, List.cons_append, Say.ok] at hK ⊢
                  clear hd
                  change Hid _ at hK
                  obtain ⟨hcR, hfR, hzR⟩ := nwc hR
                  first | (refine wanted_yes ?_ ?_; rfl) | (refine wanted_no ?_ ?_; rfl)
                  go_wp2_with (first 
                | (go_at_call 33; refine (HEN.out _ (by repeat (first | assumption | exact Nw.refl _ | refine Nw.alloc ?_ _ | refine Nw.drew ?_ | refine Nw.drewN2 ?_ _ | (refine Nw.trans ?_ (by assumption))))).mono ?_; rintro e w9 ⟨v9, rfl, hown9, hn9⟩))
                  all_goals (refine hK.out _ _ ?_ ?_ <;> first | (solve | (repeat (first | assumption | exact Nw.refl _ | refine Nw.alloc ?_ _ | refine Nw.drew ?_ | refine Nw.drewN2 ?_ _ | (refine Nw.trans ?_ (by assumption))))) | exact rfl | exact Own.sl (by assumption))
                try simp only [Act.put, List.setIfInBounds_toArray, List.set_cons_zero, List.set_cons_succ, Nat.reduceAdd, List.length_nil, List.length_cons, List.nil_append, List.cons_append]
              refine Stairs.nil ?_
              intro x wR hR hx
              clear hx
              obtain ⟨hcR, hfR, hzR⟩ := nwc hR
              go_wp2
              go_roundw
              case rel => exact ⟨k9, by omega, by rw [hk9]; rfl, hn'.trans hR⟩
              case measure => simp [intOf]
            · have h5b : (de == 5) = false := beq_eq_false_iff_ne.2 h5e
              have h5c : (de != 5) = true := by simpa using h5e
              have h0c : (de != 0) = true := by simpa using h0e
              have hdn := hD2 (Or.inr h5e)
              have ha5 := hdn.trans (congrArg (fun n : Nat => (n : Int)) HM6.out.symm)
              subst ha5
              clear HD1 HSM HTB hD2 hdn hr7 hLE HM6 h0e h5e hst23
              refine wp_region_stairs (by kernel_rfl) (by kernel_rfl) (by kernel_rfl) ?_
              iterate 17
                refine Stairs.is ?_ ?_ ?_
                rotate_left 1
                · intro x wR hR hd K hK
                  simp only [Act.put, List.setIfInBounds_toArray, List.set_cons_zero, List.set_cons_succ, Nat.reduceAdd, List.length_nil, List.length_cons, List.nil_append, List.cons_append, Say.ok] at hK ⊢
                  clear hd
                  change Hid _ at hK
                  obtain ⟨hcR, hfR, hzR⟩ := nwc hR
                  first | (refine wanted_yes ?_ ?_; rfl) | (refine wanted_no ?_ ?_; rfl)
                  go_wp2_with (first 
                | (go_at_call 33; refine (HEN.out _ (by repeat (first | assumption | exact Nw.refl _ | refine Nw.alloc ?_ _ | refine Nw.drew ?_ | refine Nw.drewN2 ?_ _ | (refine Nw.trans ?_ (by assumption))))).mono ?_; rintro e w9 ⟨v9, rfl, hown9, hn9⟩))
                  all_goals (refine hK.out _ _ ?_ ?_ <;> first | (solve | (repeat (first | assumption | exact Nw.refl _ | refine Nw.alloc ?_ _ | refine Nw.drew ?_ | refine Nw.drewN2 ?_ _ | (refine Nw.trans ?_ (by assumption))))) | exact rfl | exact Own.sl (by assumption))
                try simp only [Act.put, List.setIfInBounds_toArray, List.set_cons_zero, List.set_cons_succ, Nat.reduceAdd, List.length_nil, List.length_cons, List.nil_append, List.cons_append]
              refine Stairs.nil ?_
              intro x wR hR hx
              clear hx
              obtain ⟨hcR, hfR, hzR⟩ := nwc hR
              go_wp2
              go_roundw
              case rel => exact ⟨k9, by omega, by rw [hk9]; rfl, hn'.trans hR⟩
              case measure => simp [intOf]
        | 4, _ =>
          rw [show ((4 : Nat) : Int) = 4 from rfl]
          clear i0 i1 i2 i3
          go_wp2_with (first
            | (go_at_call 35; refine (awake_c _).mono ?_; rintro e w9 ⟨rfl, hn9⟩)
            | fail)
          go_ret
          exact ⟨rfl, hw7.trans (hn.trans hn9)⟩
end Lg
end Go.Proofs.Ytjelbfodkacipaa
