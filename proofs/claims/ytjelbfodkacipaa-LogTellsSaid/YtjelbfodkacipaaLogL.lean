/- LogCut walked: it returns true. No condition. -/
import Derived.Test.YtjelbfodkacipaaLogJ
import Derived.Test.YtjelbfodkacipaaTrQ
set_option linter.unusedSimpArgs false
set_option linter.unusedVariables false
namespace Go.Proofs.Ytjelbfodkacipaa
open Go.ChangeShapes Go.WideShapes Go.ChangeAt Go.RowKit
namespace Lg
open Go.Proofs.Ytjelbfodkacipaa.Lx (isIn nameB strs_open strs_cell)
open Go.Proofs.Ytjelbfodkacipaa.Sum (byte put right Hands8 HandsR)
open Go.Proofs.Ytjelbfodkacipaa.Rec (i64s_open)
open Go.Proofs.Ytjelbfodkacipaa.Tr (T Es tm ids mayP namesP nmB nOk Evs EC Small In EvIn box2 lt_alloc TrR evs_shape samet_same makeP make_may make_len make_small make_c3 u16s u16s_length pqr rcut_c ReadsT HandsT)
theorem make_is (start : Int) (ns : List Nat) : ∃ es, makeP start ns = (⟨pqr, es⟩ : T) := ⟨_, rfl⟩
theorem cut_may {es : Es} (hM : mayP (⟨pqr, es⟩ : T) = true) (hs : Small (⟨pqr, es⟩ : T)) (j : Nat) (hj : j ≤ es.length) (hl : es.length ≤ 60) (x y : Value) (w : World) (h1 : Sl w x (Lx.strs pqr)) (h2 : Evs w y es) : Calls Try.prog 42 #[.agg #[x, y], .int .i64 (j : Int)] w (HandsT w ⟨pqr, es.take j⟩) := by
  have := rcut_c x y ⟨pqr, es⟩ (j : Int) w h1 h2 hs (by omega) (by omega)
  rwa [Tr.cut_at hM (j : Int) j hj (Or.inl rfl)] at this
set_option maxRecDepth 20000 in
set_option maxHeartbeats 1600000 in
theorem cut_walk (start : Int) (h0 : 0 ≤ start) (h64 : start < 18446744073709551616) (v1 : Value) (ns : List Nat) (c : Nat) (w : World) (hv1 : Sl w v1 (u16s ns)) (hns : ∀ n ∈ ns, n ≤ 65535) (hc : c ≤ 65535) :
    Calls Try.prog 14 #[.int .u64 start, v1, .int .u16 (c : Int)] w fun e w' => e = .returned (.bool true) ∧ Nw w w' := by
  have HM1 := hid (fun w' (h : Nw w w') => make_c3 start h0 h64 v1 ns w' (hv1.nw h) hns)
  have HMM := hid (make_may start h0 ns)
  have HSM := hid (make_small start h0 ns)
  have HLE := hid (make_len start h0 ns)
  have HTB := hid (make_tb start h0 ns)
  have hme := make_enc start h0 ns
  obtain ⟨es, hE⟩ := make_is start ns
  obtain ⟨p5, k5, rfl, _, _, _, _⟩ := hv1.open (u16s_length ns)
  rw [hE] at HM1 HMM HSM HLE HTB hme
  dsimp only at HM1 HLE HTB
  clear hv1 hns hE
  have HEE := hid (fun (x y : Value) w' (h1 : Sl w' x (Lx.strs pqr)) (h2 : Evs w' y es) => encode_c x y ⟨pqr, es⟩ w' h1 h2 HSM.out (Nat.le_trans HLE.out (by decide)) HTB.out)
  have hem : encP (⟨pqr, es⟩ : T) = headerP pqr ++ recsX es := by unfold encP; rw [if_pos HMM.out]
  have HHD := hid (fun v w' (h : Bytes w' v (encP (⟨pqr, es⟩ : T))) => show Calls Try.prog 41 #[v] w' (HandsHd w' (pqr, ((headerP pqr).length : Int), 0)) by rw [← (back HMM.out HTB.out).2.1]; exact head_c v _ w' h (by omega))
  have hhl := (back HMM.out HTB.out).2.2
  dsimp only at hhl
  have hpq : namesP pqr = true := may_names HMM.out
  have hfine := may_fine HMM.out HTB.out
  have hchd := fun k (hk : k < (headerP pqr).length) => cut_head (x := recsX es) hpq hk
  have hcdc := fun k j h1 h2 h3 h4 => cut_dec (l := pqr) (es := es) (k := k) (j := j) hpq hfine h1 h2 h3 h4
  rw [← hem] at hchd hcdc
  obtain ⟨A, hA⟩ : ∃ A : Nat → Nat, A = fun j => (headerP pqr).length + (recsX (es.take j)).length := ⟨_, rfl⟩
  have HA0 := hid (show A 0 = (headerP pqr).length by rw [hA]; rfl)
  have HAS := hid (show ∀ j, j < es.length → A (j + 1) = A j + (14 + (ids es j).length) from fun j hj => by rw [hA]; dsimp only; rw [recsX_step hj]; omega)
  have hcd2 := fun k (h5 : k ≤ (encP (⟨pqr, es⟩ : T)).length) j (h1 : A j ≤ k) (h3 : j ≤ es.length) (h4 : j = es.length ∨ k < A (j + 1)) => show decP ((encP (⟨pqr, es⟩ : T)).take k) = ((⟨pqr, es.take j⟩ : T), ((j : Int), if k = A j then (0 : Int) else 7)) by
    have := hcdc k j (by rw [hA] at h1; exact h1) h5 h3 (by rw [hA] at h4; exact h4)
    rw [hA]
    exact this
  have HCH := hid hchd
  have HC2 := hid hcd2
  have HEI := hid (fun j (hj : j < es.length) => show (ids es j).length ≤ 1000000000 from HSM.out.i j hj)
  clear hA hchd hcdc hcd2 hpq hfine hem
  generalize encP (⟨pqr, es⟩ : T) = em at *
  generalize (headerP pqr).length = H at *
  obtain ⟨L, hL⟩ : ∃ L, L = em.length := ⟨_, rfl⟩
  have HL := hid hL
  rw [← hL] at hme hhl HC2
  obtain ⟨k, hk⟩ : ∃ k, k = c % (L + 1) := ⟨_, rfl⟩
  have hkL : k ≤ L := by have := Nat.mod_lt c (show 0 < L + 1 by omega); omega
  have hm1 : (c : Int) % ((L : Int) + 1) = (k : Int) := by rw [show (L : Int) + 1 = ((L + 1 : Nat) : Int) by omega, hk, ← Int.natCast_emod]
  have ht1 : (c : Int).tmod ((L : Int) + 1) = (k : Int) := by rw [Int.tmod_eq_emod_of_nonneg (by omega)]; exact hm1
  have hd0 : (((L : Int) + 1) == 0) = false := beq_eq_false_iff_ne.2 (by omega)
  have hdn : (L : Int) + 1 ≠ 0 := by omega
  have HDC := hid (fun v w' (h : Bytes w' v (em.take k)) => decode_c v (em.take k) w' h (by rw [List.length_take]; omega))
  obtain ⟨⟨dt, dn, de⟩, hD⟩ : ∃ d, decP (em.take k) = d := ⟨_, rfl⟩
  rw [hD] at HDC
  have HDQ := hid hD
  clear hD hL hk
  generalize hnn : es.length = n at *
  generalize ns.length = nl at *
  have HNN := hid hnn
  clear hnn
  go_enter Try.func14, Try.ntmps14
  go_upto_region 2 with (first
    | (go_at_call 23; refine (HM1.out _ (by repeat (first | assumption | exact Nw.refl _ | refine Nw.alloc ?_ _ | refine Nw.drew ?_ | refine Nw.drewN2 ?_ _ | (refine Nw.trans ?_ (by assumption))))).mono ?_; rintro e w2 ⟨q1, c1, q2, c2, rfl, hs1, he1, hn2⟩)
    | fail)
  obtain ⟨u0, u1⟩ := box2 w2 (.slice q1 3 c1) (.slice q2 n c2) 26
  have hn3 := (Nw.refl w2).alloc (.cells #[.slice q1 3 c1, .slice q2 n c2] 26)
  have lu := lt_alloc w2 (.cells #[.slice q1 3 c1, .slice q2 n c2] 26)
  replace hs1 := hs1.nw hn3
  replace he1 := he1.nw hn3
  have hw3 : Nw w (w2.alloc (.cells #[.slice q1 3 c1, .slice q2 n c2] 26)) := hn2.trans hn3
  clear hn2 hn3 HM1
  generalize w2.alloc (.cells #[.slice q1 3 c1, .slice q2 n c2] 26) = w3 at *
  generalize w2.heap.size = g7 at *
  go_upto_region 3 with (first
    | (go_at_call 33; refine (HEE.out _ _ _ hs1 he1).mono ?_; rintro e w4 ⟨v4, rfl, hown4, hn4⟩; obtain ⟨q4, c4, rfl, hc4, hx4, hz4, hcs4⟩ := hown4.sl.open (n := L) ((u8s_length _).trans HL.out.symm))
    | fail)
  have hbe : Bytes w4 (.slice q4 L c4) em := hown4.sl
  replace hs1 := hs1.nw hn4
  replace he1 := he1.nw hn4
  replace u0 := hn4.cell u0
  replace u1 := hn4.cell u1
  replace lu := Nat.lt_of_lt_of_le lu hn4.size
  have hw4 := hw3.trans hn4
  have hfr := bytes_front hcs4 (by rw [← HL.out]; exact hc4) hx4 hz4 k (by rw [← HL.out]; exact hkL)
  have hkc : k ≤ c4 := by omega
  clear hown4 hn4 hw3 HEE hcs4
  unfold maxLen at hx4
  go_upto_region 6 with (first
    | (go_at_call 41; refine (HHD.out _ _ hbe).mono ?_; rintro e w5 ⟨v5, rfl, hs5, hn5⟩; obtain ⟨q5, c5, rfl, _⟩ := strs_open hs5; replace u0 := hn5.cell u0; replace u1 := hn5.cell u1; replace hs1 := hs1.nw hn5; replace he1 := he1.nw hn5; replace lu := Nat.lt_of_lt_of_le lu hn5.size; dsimp only)
    | fail)
  have hfr5 := hfr.nw hn5
  have hw5 := hw4.trans hn5
  clear hfr hbe hw4 hn5 hs5 HHD
  go_upto_region 8 with (first
    | (go_at_call 38; refine (HDC.out _ _ hfr5).mono ?_; rintro e w6 h6; obtain ⟨a1, a2, a3, a4, a5, a6, rfl, hr6, hn6, hm6, hk6⟩ := h6.open; dsimp only at hm6 hk6 hr6 ⊢; have HM6 := hid hm6; clear hm6 hk6 h6)
    | fail)
  obtain ⟨y0, y1⟩ := box2 w6 (.slice a1 a2 a3) (.slice a4 a5 a6) 26
  have hn7 := hn6.alloc (.cells #[.slice a1 a2 a3, .slice a4 a5 a6] 26)
  have hr8 := hr6.nw ((Nw.refl w6).alloc (.cells #[.slice a1 a2 a3, .slice a4 a5 a6] 26))
  have ly := lt_alloc w6 (.cells #[.slice a1 a2 a3, .slice a4 a5 a6] 26)
  replace hs1 := hs1.nw hn7
  replace he1 := he1.nw hn7
  replace u0 := hn7.cell u0
  replace u1 := hn7.cell u1
  replace lu := Nat.lt_of_lt_of_le lu hn7.size
  have hw7 := hw5.trans hn7
  clear hn6 hn7 hr6 hfr5 hw5 HDC
  generalize w6.alloc (.cells #[.slice a1 a2 a3, .slice a4 a5 a6] 26) = w7 at *
  generalize w6.heap.size = g13 at *
  by_cases hkH : k < H
  · have hdk : decide ((k : Int) < (H : Int)) = true := decide_eq_true (by omega)
    obtain ⟨e1, e2, e3⟩ : dt = (⟨[], []⟩ : T) ∧ dn = (0 : Int) ∧ de = (5 : Int) := by
      have := HDQ.out.symm.trans (HCH.out k hkH)
      simp only [Prod.mk.injEq] at this
      exact this
    subst e1 e2 e3
    have ha5 : a5 = 0 := HM6.out
    subst ha5
    go_wp2_with (first
      | (go_at_call 35; refine (awake_c _).mono ?_; rintro e w9 ⟨rfl, hn9⟩)
      | fail)
    go_ret
    exact ⟨rfl, hw7.trans hn9⟩
  · have hdk : decide ((k : Int) < (H : Int)) = false := decide_eq_false (by omega)
    have HCD := hid (HC2.out k hkL)
    clear HC2 HCH HM6
    have hw8 := Nw.refl w7
    obtain ⟨_, _, e9, hc9, hm9, hz9, hec⟩ := id he1
    rw [HNN.out] at e9 hc9
    cases e9
    have HEC := hid hec
    clear hec
    unfold maxLen at hm9
    go_wp2
    go_loopw [16, 17, 19, 70] (fun wh at_ _ i wr => ∃ j : Nat, j ≤ n ∧ wh = .int .i64 j ∧ at_ = .int .i64 (A j) ∧ i = .int .i64 j ∧ A j ≤ k ∧ Nw w7 wr) (fun _ _ _ i _ => n - (intOf i).toNat)
    case atStart => exact ⟨0, Nat.zero_le _, rfl, by rw [HA0.out], rfl, by rw [HA0.out]; omega, Nw.refl _⟩
    case round =>
      obtain ⟨j, hj, rfl, rfl, rfl, hAk, hn⟩ := hrel
      replace u0 := hn.cell u0
      replace u1 := hn.cell u1
      replace y0 := hn.cell y0
      replace y1 := hn.cell y1
      replace lu := Nat.lt_of_lt_of_le lu hn.size
      replace ly := Nat.lt_of_lt_of_le ly hn.size
      by_cases hlt : j < n
      · have hdj : decide (j < n) = true := decide_eq_true hlt
        have hjl : j < es.length := by rw [HNN.out]; exact hlt
        have hst := HAS.out j hlt
        have hil := HEI.out j hlt
        obtain ⟨b1, o1, vi, rfl, c0, c1', hsv⟩ := (HEC.out.nw hn) j hjl
        obtain ⟨pi, ci, rfl, _⟩ := i64s_open hsv
        have gb1 := World.block_lt_of_cell? wr _ c0
        simp only at gb1
        generalize tm es j = tj at *
        obtain ⟨il, hile⟩ : ∃ il, il = (ids es j).length := ⟨_, rfl⟩
        rw [← hile] at hst hil c1'
        clear hile hsv
        go_upto_region 14 with fail
        obtain ⟨z0, z1⟩ := box2 wr (.int .u64 tj) (.slice pi il ci) 39
        have hnz := (Nw.refl wr).alloc (.cells #[.int .u64 tj, .slice pi il ci] 39)
        have lz := lt_alloc wr (.cells #[.int .u64 tj, .slice pi il ci] 39)
        have hn' := hn.trans hnz
        replace u0 := hnz.cell u0
        replace u1 := hnz.cell u1
        replace y0 := hnz.cell y0
        replace y1 := hnz.cell y1
        replace lu := Nat.lt_of_lt_of_le lu hnz.size
        replace ly := Nat.lt_of_lt_of_le ly hnz.size
        clear hnz c0 c1' gb1 hn
        generalize wr.alloc (.cells #[.int .u64 tj, .slice pi il ci] 39) = wz at *
        generalize wr.heap.size = g19 at *
        by_cases hgt : k < A (j + 1)
        · have hdg : decide ((k : Int) < (A j : Int) + 14 + (il : Int)) = true := decide_eq_true (by omega)
          go_upto_region 18 with fail
          -- behind the loop: j: the number of whole records
          obtain ⟨e1, e2, e3⟩ : dt = (⟨pqr, es.take j⟩ : T) ∧ dn = (j : Int) ∧ de = (if k = A j then (0 : Int) else 7) := by
            have := HDQ.out.symm.trans (HCD.out j (by omega) (by omega) (by first | exact Or.inl rfl | exact Or.inr (by omega)))
            simp only [Prod.mk.injEq] at this
            exact this
          subst e1 e2
          have HCT := hid (fun w' (h : Nw wz w') => cut_may HMM.out HSM.out j (by rw [HNN.out]; omega) (by rw [HNN.out]; exact HLE.out) _ _ w' (hs1.nw (hw8.trans (hn'.trans h))) (he1.nw (hw8.trans (hn'.trans h))))
          have HSS := hid (fun w' v (h : Nw wz w') (hv : TrR w' v ⟨pqr, es.take j⟩) => samet_same _ v _ w' (hr8.nw (hn'.trans h)) hv)
          clear HCD HDQ
          generalize es.take j = esj at *
          by_cases hka : k = A j
          · rw [if_pos hka] at e3
            subst e3
            have hd9 : (((A j : Nat) : Int) == (k : Int)) = true := by rw [hka]; simp
            clear hka
            go_upto_region 21 with fail
            try simp only [hd9]
            refine wp_region_stairs (by kernel_rfl) (by kernel_rfl) (by kernel_rfl) ?_
            iterate 12
              refine Stairs.is ?_ ?_ ?_
              rotate_left 1
              · intro x wR hR hd K hK
                simp only [Act.put, List.setIfInBounds_toArray, List.set_cons_zero, List.set_cons_succ, Nat.reduceAdd, List.length_nil, List.length_cons, List.nil_append, List.cons_append, Say.ok] at hK ⊢
                clear hd
                change Hid _ at hK
                obtain ⟨hcR, hfR, hzR⟩ := nwc hR
                first | (refine wanted_yes ?_ ?_; rfl) | (refine wanted_no ?_ ?_; rfl)
                go_wp2_with (first 
              | (go_at_call 42; refine (HCT.out _ (by repeat (first | assumption | exact Nw.refl _ | refine Nw.alloc ?_ _ | refine Nw.drew ?_ | refine Nw.drewN2 ?_ _ | (refine Nw.trans ?_ (by assumption))))).mono ?_; rintro e w9 ⟨v9, rfl, hr9, hn9⟩)
              | (go_at_call 31; refine (HSS.out _ _ (by repeat (first | assumption | exact Nw.refl _ | refine Nw.alloc ?_ _ | refine Nw.drew ?_ | refine Nw.drewN2 ?_ _ | (refine Nw.trans ?_ (by assumption)))) (by first | exact hd | exact hd.1 | exact hd.2.1 | exact hd.2)).mono ?_; rintro e w9 ⟨rfl, hn9⟩)
              | (go_at_call 35; refine (awake_c _).mono ?_; rintro e w9 ⟨rfl, hn9⟩))
                all_goals (refine hK.out _ _ ?_ ?_ <;> first | (solve | (repeat (first | assumption | exact Nw.refl _ | refine Nw.alloc ?_ _ | refine Nw.drew ?_ | refine Nw.drewN2 ?_ _ | (refine Nw.trans ?_ (by assumption))))) | exact rfl | exact hr9)
              try simp only [Act.put, List.setIfInBounds_toArray, List.set_cons_zero, List.set_cons_succ, Nat.reduceAdd, List.length_nil, List.length_cons, List.nil_append, List.cons_append]
            iterate 1
              refine Stairs.that (ReadsT ⟨pqr, esj⟩) (by simp) ?_ ?_
              · intro x wR hR hd K hK
                simp only [Act.put, List.setIfInBounds_toArray, List.set_cons_zero, List.set_cons_succ, Nat.reduceAdd, List.length_nil, List.length_cons, List.nil_append, List.cons_append, Say.ok] at hK ⊢
                clear hd
                change Hid _ at hK
                obtain ⟨hcR, hfR, hzR⟩ := nwc hR
                first | (refine wanted_yes ?_ ?_; rfl) | (refine wanted_no ?_ ?_; rfl)
                go_wp2_with (first 
              | (go_at_call 42; refine (HCT.out _ (by repeat (first | assumption | exact Nw.refl _ | refine Nw.alloc ?_ _ | refine Nw.drew ?_ | refine Nw.drewN2 ?_ _ | (refine Nw.trans ?_ (by assumption))))).mono ?_; rintro e w9 ⟨v9, rfl, hr9, hn9⟩)
              | (go_at_call 31; refine (HSS.out _ _ (by repeat (first | assumption | exact Nw.refl _ | refine Nw.alloc ?_ _ | refine Nw.drew ?_ | refine Nw.drewN2 ?_ _ | (refine Nw.trans ?_ (by assumption)))) (by first | exact hd | exact hd.1 | exact hd.2.1 | exact hd.2)).mono ?_; rintro e w9 ⟨rfl, hn9⟩)
              | (go_at_call 35; refine (awake_c _).mono ?_; rintro e w9 ⟨rfl, hn9⟩))
                all_goals (refine hK.out _ _ ?_ ?_ <;> first | (solve | (repeat (first | assumption | exact Nw.refl _ | refine Nw.alloc ?_ _ | refine Nw.drew ?_ | refine Nw.drewN2 ?_ _ | (refine Nw.trans ?_ (by assumption))))) | exact rfl | exact hr9)
              try simp only [Act.put, List.setIfInBounds_toArray, List.set_cons_zero, List.set_cons_succ, Nat.reduceAdd, List.length_nil, List.length_cons, List.nil_append, List.cons_append]
            iterate 6
              refine Stairs.is ?_ ?_ ?_
              rotate_left 1
              · intro x wR hR hd K hK
                simp only [Act.put, List.setIfInBounds_toArray, List.set_cons_zero, List.set_cons_succ, Nat.reduceAdd, List.length_nil, List.length_cons, List.nil_append, List.cons_append, Say.ok] at hK ⊢
                try simp [Region.binds, sayAt, List.getD_cons_zero, List.getD_cons_succ, Say.ok, Vl] at hd
                try (first | have hs := str_ok hd | have hs := str_ok hd.2 | have hs := str_ok hd.1 | (obtain ⟨hd1, hd2, hd3⟩ := hd; first | have hs := str_ok hd1 | have hs := str_ok hd2 | have hs := str_ok hd3))
                change Hid _ at hK
                obtain ⟨hcR, hfR, hzR⟩ := nwc hR
                first | (refine wanted_yes ?_ ?_; rfl) | (refine wanted_no ?_ ?_; rfl)
                go_wp2_with (first 
              | (go_at_call 42; refine (HCT.out _ (by repeat (first | assumption | exact Nw.refl _ | refine Nw.alloc ?_ _ | refine Nw.drew ?_ | refine Nw.drewN2 ?_ _ | (refine Nw.trans ?_ (by assumption))))).mono ?_; rintro e w9 ⟨v9, rfl, hr9, hn9⟩)
              | (go_at_call 31; refine (HSS.out _ _ (by repeat (first | assumption | exact Nw.refl _ | refine Nw.alloc ?_ _ | refine Nw.drew ?_ | refine Nw.drewN2 ?_ _ | (refine Nw.trans ?_ (by assumption)))) (by first | exact hd | exact hd.1 | exact hd.2.1 | exact hd.2)).mono ?_; rintro e w9 ⟨rfl, hn9⟩)
              | (go_at_call 35; refine (awake_c _).mono ?_; rintro e w9 ⟨rfl, hn9⟩))
                all_goals (refine hK.out _ _ ?_ ?_ <;> first | (solve | (repeat (first | assumption | exact Nw.refl _ | refine Nw.alloc ?_ _ | refine Nw.drew ?_ | refine Nw.drewN2 ?_ _ | (refine Nw.trans ?_ (by assumption))))) | exact rfl | exact hr9)
              try simp only [Act.put, List.setIfInBounds_toArray, List.set_cons_zero, List.set_cons_succ, Nat.reduceAdd, List.length_nil, List.length_cons, List.nil_append, List.cons_append]
            refine Stairs.nil ?_
            intro x wR hR hx
            have h12 := hx 12 (by decide)
            simp only [sayAt, List.getD_cons_zero, List.getD_cons_succ, Say.ok, Vl] at h12
            clear hx
            obtain ⟨hcR, hfR, hzR⟩ := nwc hR
            go_wp2
            go_ret
            exact ⟨rfl, hw7.trans (hw8.trans (hn'.trans hR))⟩
          · rw [if_neg hka] at e3
            subst e3
            have hd9 : (((A j : Nat) : Int) == (k : Int)) = false := beq_eq_false_iff_ne.2 (by omega)
            clear hka
            go_upto_region 21 with fail
            try simp only [hd9]
            refine wp_region_stairs (by kernel_rfl) (by kernel_rfl) (by kernel_rfl) ?_
            iterate 12
              refine Stairs.is ?_ ?_ ?_
              rotate_left 1
              · intro x wR hR hd K hK
                simp only [Act.put, List.setIfInBounds_toArray, List.set_cons_zero, List.set_cons_succ, Nat.reduceAdd, List.length_nil, List.length_cons, List.nil_append, List.cons_append, Say.ok] at hK ⊢
                clear hd
                change Hid _ at hK
                obtain ⟨hcR, hfR, hzR⟩ := nwc hR
                first | (refine wanted_yes ?_ ?_; rfl) | (refine wanted_no ?_ ?_; rfl)
                go_wp2_with (first 
              | (go_at_call 42; refine (HCT.out _ (by repeat (first | assumption | exact Nw.refl _ | refine Nw.alloc ?_ _ | refine Nw.drew ?_ | refine Nw.drewN2 ?_ _ | (refine Nw.trans ?_ (by assumption))))).mono ?_; rintro e w9 ⟨v9, rfl, hr9, hn9⟩)
              | (go_at_call 31; refine (HSS.out _ _ (by repeat (first | assumption | exact Nw.refl _ | refine Nw.alloc ?_ _ | refine Nw.drew ?_ | refine Nw.drewN2 ?_ _ | (refine Nw.trans ?_ (by assumption)))) (by first | exact hd | exact hd.1 | exact hd.2.1 | exact hd.2)).mono ?_; rintro e w9 ⟨rfl, hn9⟩)
              | (go_at_call 35; refine (awake_c _).mono ?_; rintro e w9 ⟨rfl, hn9⟩))
                all_goals (refine hK.out _ _ ?_ ?_ <;> first | (solve | (repeat (first | assumption | exact Nw.refl _ | refine Nw.alloc ?_ _ | refine Nw.drew ?_ | refine Nw.drewN2 ?_ _ | (refine Nw.trans ?_ (by assumption))))) | exact rfl | exact hr9)
              try simp only [Act.put, List.setIfInBounds_toArray, List.set_cons_zero, List.set_cons_succ, Nat.reduceAdd, List.length_nil, List.length_cons, List.nil_append, List.cons_append]
            iterate 1
              refine Stairs.that (ReadsT ⟨pqr, esj⟩) (by simp) ?_ ?_
              · intro x wR hR hd K hK
                simp only [Act.put, List.setIfInBounds_toArray, List.set_cons_zero, List.set_cons_succ, Nat.reduceAdd, List.length_nil, List.length_cons, List.nil_append, List.cons_append, Say.ok] at hK ⊢
                clear hd
                change Hid _ at hK
                obtain ⟨hcR, hfR, hzR⟩ := nwc hR
                first | (refine wanted_yes ?_ ?_; rfl) | (refine wanted_no ?_ ?_; rfl)
                go_wp2_with (first 
              | (go_at_call 42; refine (HCT.out _ (by repeat (first | assumption | exact Nw.refl _ | refine Nw.alloc ?_ _ | refine Nw.drew ?_ | refine Nw.drewN2 ?_ _ | (refine Nw.trans ?_ (by assumption))))).mono ?_; rintro e w9 ⟨v9, rfl, hr9, hn9⟩)
              | (go_at_call 31; refine (HSS.out _ _ (by repeat (first | assumption | exact Nw.refl _ | refine Nw.alloc ?_ _ | refine Nw.drew ?_ | refine Nw.drewN2 ?_ _ | (refine Nw.trans ?_ (by assumption)))) (by first | exact hd | exact hd.1 | exact hd.2.1 | exact hd.2)).mono ?_; rintro e w9 ⟨rfl, hn9⟩)
              | (go_at_call 35; refine (awake_c _).mono ?_; rintro e w9 ⟨rfl, hn9⟩))
                all_goals (refine hK.out _ _ ?_ ?_ <;> first | (solve | (repeat (first | assumption | exact Nw.refl _ | refine Nw.alloc ?_ _ | refine Nw.drew ?_ | refine Nw.drewN2 ?_ _ | (refine Nw.trans ?_ (by assumption))))) | exact rfl | exact hr9)
              try simp only [Act.put, List.setIfInBounds_toArray, List.set_cons_zero, List.set_cons_succ, Nat.reduceAdd, List.length_nil, List.length_cons, List.nil_append, List.cons_append]
            iterate 6
              refine Stairs.is ?_ ?_ ?_
              rotate_left 1
              · intro x wR hR hd K hK
                simp only [Act.put, List.setIfInBounds_toArray, List.set_cons_zero, List.set_cons_succ, Nat.reduceAdd, List.length_nil, List.length_cons, List.nil_append, List.cons_append, Say.ok] at hK ⊢
                try simp [Region.binds, sayAt, List.getD_cons_zero, List.getD_cons_succ, Say.ok, Vl] at hd
                try (first | have hs := str_ok hd | have hs := str_ok hd.2 | have hs := str_ok hd.1 | (obtain ⟨hd1, hd2, hd3⟩ := hd; first | have hs := str_ok hd1 | have hs := str_ok hd2 | have hs := str_ok hd3))
                change Hid _ at hK
                obtain ⟨hcR, hfR, hzR⟩ := nwc hR
                first | (refine wanted_yes ?_ ?_; rfl) | (refine wanted_no ?_ ?_; rfl)
                go_wp2_with (first 
              | (go_at_call 42; refine (HCT.out _ (by repeat (first | assumption | exact Nw.refl _ | refine Nw.alloc ?_ _ | refine Nw.drew ?_ | refine Nw.drewN2 ?_ _ | (refine Nw.trans ?_ (by assumption))))).mono ?_; rintro e w9 ⟨v9, rfl, hr9, hn9⟩)
              | (go_at_call 31; refine (HSS.out _ _ (by repeat (first | assumption | exact Nw.refl _ | refine Nw.alloc ?_ _ | refine Nw.drew ?_ | refine Nw.drewN2 ?_ _ | (refine Nw.trans ?_ (by assumption)))) (by first | exact hd | exact hd.1 | exact hd.2.1 | exact hd.2)).mono ?_; rintro e w9 ⟨rfl, hn9⟩)
              | (go_at_call 35; refine (awake_c _).mono ?_; rintro e w9 ⟨rfl, hn9⟩))
                all_goals (refine hK.out _ _ ?_ ?_ <;> first | (solve | (repeat (first | assumption | exact Nw.refl _ | refine Nw.alloc ?_ _ | refine Nw.drew ?_ | refine Nw.drewN2 ?_ _ | (refine Nw.trans ?_ (by assumption))))) | exact rfl | exact hr9)
              try simp only [Act.put, List.setIfInBounds_toArray, List.set_cons_zero, List.set_cons_succ, Nat.reduceAdd, List.length_nil, List.length_cons, List.nil_append, List.cons_append]
            refine Stairs.nil ?_
            intro x wR hR hx
            have h12 := hx 12 (by decide)
            simp only [sayAt, List.getD_cons_zero, List.getD_cons_succ, Say.ok, Vl] at h12
            clear hx
            obtain ⟨hcR, hfR, hzR⟩ := nwc hR
            go_wp2
            go_ret
            exact ⟨rfl, hw7.trans (hw8.trans (hn'.trans hR))⟩
        · have hdg : decide ((k : Int) < (A j : Int) + 14 + (il : Int)) = false := decide_eq_false (by omega)
          go_wp2
          go_roundw
          case rel => exact ⟨j + 1, by omega, by go_num, by rw [hst]; go_num, by go_num, by omega, hn'⟩
          case measure => (simp [intOf] <;> omega)
      · obtain rfl : j = n := by omega
        have hdj : decide (j < j) = false := decide_eq_false (by omega)
        go_upto_region 18 with fail
        -- behind the loop: j: the number of whole records
        obtain ⟨e1, e2, e3⟩ : dt = (⟨pqr, es.take j⟩ : T) ∧ dn = (j : Int) ∧ de = (if k = A j then (0 : Int) else 7) := by
          have := HDQ.out.symm.trans (HCD.out j (by omega) (by omega) (by first | exact Or.inl rfl | exact Or.inr (by omega)))
          simp only [Prod.mk.injEq] at this
          exact this
        subst e1 e2
        have HCT := hid (fun w' (h : Nw wr w') => cut_may HMM.out HSM.out j (by rw [HNN.out]; omega) (by rw [HNN.out]; exact HLE.out) _ _ w' (hs1.nw (hw8.trans (hn.trans h))) (he1.nw (hw8.trans (hn.trans h))))
        have HSS := hid (fun w' v (h : Nw wr w') (hv : TrR w' v ⟨pqr, es.take j⟩) => samet_same _ v _ w' (hr8.nw (hn.trans h)) hv)
        clear HCD HDQ
        generalize es.take j = esj at *
        by_cases hka : k = A j
        · rw [if_pos hka] at e3
          subst e3
          have hd9 : (((A j : Nat) : Int) == (k : Int)) = true := by rw [hka]; simp
          clear hka
          go_upto_region 21 with fail
          try simp only [hd9]
          refine wp_region_stairs (by kernel_rfl) (by kernel_rfl) (by kernel_rfl) ?_
          iterate 12
            refine Stairs.is ?_ ?_ ?_
            rotate_left 1
            · intro x wR hR hd K hK
              simp only [Act.put, List.setIfInBounds_toArray, List.set_cons_zero, List.set_cons_succ, Nat.reduceAdd, List.length_nil, List.length_cons, List.nil_append, List.cons_append, Say.ok] at hK ⊢
              clear hd
              change Hid _ at hK
              obtain ⟨hcR, hfR, hzR⟩ := nwc hR
              first | (refine wanted_yes ?_ ?_; rfl) | (refine wanted_no ?_ ?_; rfl)
              go_wp2_with (first 
            | (go_at_call 42; refine (HCT.out _ (by repeat (first | assumption | exact Nw.refl _ | refine Nw.alloc ?_ _ | refine Nw.drew ?_ | refine Nw.drewN2 ?_ _ | (refine Nw.trans ?_ (by assumption))))).mono ?_; rintro e w9 ⟨v9, rfl, hr9, hn9⟩)
            | (go_at_call 31; refine (HSS.out _ _ (by repeat (first | assumption | exact Nw.refl _ | refine Nw.alloc ?_ _ | refine Nw.drew ?_ | refine Nw.drewN2 ?_ _ | (refine Nw.trans ?_ (by assumption)))) (by first | exact hd | exact hd.1 | exact hd.2.1 | exact hd.2)).mono ?_; rintro e w9 ⟨rfl, hn9⟩)
            | (go_at_call 35; refine (awake_c _).mono ?_; rintro e w9 ⟨rfl, hn9⟩))
              all_goals (refine hK.out _ _ ?_ ?_ <;> first | (solve | (repeat (first | assumption | exact Nw.refl _ | refine Nw.alloc ?_ _ | refine Nw.drew ?_ | refine Nw.drewN2 ?_ _ | (refine Nw.trans ?_ (by assumption))))) | exact rfl | exact hr9)
            try simp only [Act.put, List.setIfInBounds_toArray, List.set_cons_zero, List.set_cons_succ, Nat.reduceAdd, List.length_nil, List.length_cons, List.nil_append, List.cons_append]
          iterate 1
            refine Stairs.that (ReadsT ⟨pqr, esj⟩) (by simp) ?_ ?_
            · intro x wR hR hd K hK
              simp only [Act.put, List.setIfInBounds_toArray, List.set_cons_zero, List.set_cons_succ, Nat.reduceAdd, List.length_nil, List.length_cons, List.nil_append, List.cons_append, Say.ok] at hK ⊢
              clear hd
              change Hid _ at hK
              obtain ⟨hcR, hfR, hzR⟩ := nwc hR
              first | (refine wanted_yes ?_ ?_; rfl) | (refine wanted_no ?_ ?_; rfl)
              go_wp2_with (first 
            | (go_at_call 42; refine (HCT.out _ (by repeat (first | assumption | exact Nw.refl _ | refine Nw.alloc ?_ _ | refine Nw.drew ?_ | refine Nw.drewN2 ?_ _ | (refine Nw.trans ?_ (by assumption))))).mono ?_; rintro e w9 ⟨v9, rfl, hr9, hn9⟩)
            | (go_at_call 31; refine (HSS.out _ _ (by repeat (first | assumption | exact Nw.refl _ | refine Nw.alloc ?_ _ | refine Nw.drew ?_ | refine Nw.drewN2 ?_ _ | (refine Nw.trans ?_ (by assumption)))) (by first | exact hd | exact hd.1 | exact hd.2.1 | exact hd.2)).mono ?_; rintro e w9 ⟨rfl, hn9⟩)
            | (go_at_call 35; refine (awake_c _).mono ?_; rintro e w9 ⟨rfl, hn9⟩))
              all_goals (refine hK.out _ _ ?_ ?_ <;> first | (solve | (repeat (first | assumption | exact Nw.refl _ | refine Nw.alloc ?_ _ | refine Nw.drew ?_ | refine Nw.drewN2 ?_ _ | (refine Nw.trans ?_ (by assumption))))) | exact rfl | exact hr9)
            try simp only [Act.put, List.setIfInBounds_toArray, List.set_cons_zero, List.set_cons_succ, Nat.reduceAdd, List.length_nil, List.length_cons, List.nil_append, List.cons_append]
          iterate 6
            refine Stairs.is ?_ ?_ ?_
            rotate_left 1
            · intro x wR hR hd K hK
              simp only [Act.put, List.setIfInBounds_toArray, List.set_cons_zero, List.set_cons_succ, Nat.reduceAdd, List.length_nil, List.length_cons, List.nil_append, List.cons_append, Say.ok] at hK ⊢
              try simp [Region.binds, sayAt, List.getD_cons_zero, List.getD_cons_succ, Say.ok, Vl] at hd
              try (first | have hs := str_ok hd | have hs := str_ok hd.2 | have hs := str_ok hd.1 | (obtain ⟨hd1, hd2, hd3⟩ := hd; first | have hs := str_ok hd1 | have hs := str_ok hd2 | have hs := str_ok hd3))
              change Hid _ at hK
              obtain ⟨hcR, hfR, hzR⟩ := nwc hR
              first | (refine wanted_yes ?_ ?_; rfl) | (refine wanted_no ?_ ?_; rfl)
              go_wp2_with (first 
            | (go_at_call 42; refine (HCT.out _ (by repeat (first | assumption | exact Nw.refl _ | refine Nw.alloc ?_ _ | refine Nw.drew ?_ | refine Nw.drewN2 ?_ _ | (refine Nw.trans ?_ (by assumption))))).mono ?_; rintro e w9 ⟨v9, rfl, hr9, hn9⟩)
            | (go_at_call 31; refine (HSS.out _ _ (by repeat (first | assumption | exact Nw.refl _ | refine Nw.alloc ?_ _ | refine Nw.drew ?_ | refine Nw.drewN2 ?_ _ | (refine Nw.trans ?_ (by assumption)))) (by first | exact hd | exact hd.1 | exact hd.2.1 | exact hd.2)).mono ?_; rintro e w9 ⟨rfl, hn9⟩)
            | (go_at_call 35; refine (awake_c _).mono ?_; rintro e w9 ⟨rfl, hn9⟩))
              all_goals (refine hK.out _ _ ?_ ?_ <;> first | (solve | (repeat (first | assumption | exact Nw.refl _ | refine Nw.alloc ?_ _ | refine Nw.drew ?_ | refine Nw.drewN2 ?_ _ | (refine Nw.trans ?_ (by assumption))))) | exact rfl | exact hr9)
            try simp only [Act.put, List.setIfInBounds_toArray, List.set_cons_zero, List.set_cons_succ, Nat.reduceAdd, List.length_nil, List.length_cons, List.nil_append, List.cons_append]
          refine Stairs.nil ?_
          intro x wR hR hx
          have h12 := hx 12 (by decide)
          simp only [sayAt, List.getD_cons_zero, List.getD_cons_succ, Say.ok, Vl] at h12
          clear hx
          obtain ⟨hcR, hfR, hzR⟩ := nwc hR
          go_wp2
          go_ret
          exact ⟨rfl, hw7.trans (hw8.trans (hn.trans hR))⟩
        · rw [if_neg hka] at e3
          subst e3
          have hd9 : (((A j : Nat) : Int) == (k : Int)) = false := beq_eq_false_iff_ne.2 (by omega)
          clear hka
          go_upto_region 21 with fail
          try simp only [hd9]
          refine wp_region_stairs (by kernel_rfl) (by kernel_rfl) (by kernel_rfl) ?_
          iterate 12
            refine Stairs.is ?_ ?_ ?_
            rotate_left 1
            · intro x wR hR hd K hK
              simp only [Act.put, List.setIfInBounds_toArray, List.set_cons_zero, List.set_cons_succ, Nat.reduceAdd, List.length_nil, List.length_cons, List.nil_append, List.cons_append, Say.ok] at hK ⊢
              clear hd
              change Hid _ at hK
              obtain ⟨hcR, hfR, hzR⟩ := nwc hR
              first | (refine wanted_yes ?_ ?_; rfl) | (refine wanted_no ?_ ?_; rfl)
              go_wp2_with (first 
            | (go_at_call 42; refine (HCT.out _ (by repeat (first | assumption | exact Nw.refl _ | refine Nw.alloc ?_ _ | refine Nw.drew ?_ | refine Nw.drewN2 ?_ _ | (refine Nw.trans ?_ (by assumption))))).mono ?_; rintro e w9 ⟨v9, rfl, hr9, hn9⟩)
            | (go_at_call 31; refine (HSS.out _ _ (by repeat (first | assumption | exact Nw.refl _ | refine Nw.alloc ?_ _ | refine Nw.drew ?_ | refine Nw.drewN2 ?_ _ | (refine Nw.trans ?_ (by assumption)))) (by first | exact hd | exact hd.1 | exact hd.2.1 | exact hd.2)).mono ?_; rintro e w9 ⟨rfl, hn9⟩)
            | (go_at_call 35; refine (awake_c _).mono ?_; rintro e w9 ⟨rfl, hn9⟩))
              all_goals (refine hK.out _ _ ?_ ?_ <;> first | (solve | (repeat (first | assumption | exact Nw.refl _ | refine Nw.alloc ?_ _ | refine Nw.drew ?_ | refine Nw.drewN2 ?_ _ | (refine Nw.trans ?_ (by assumption))))) | exact rfl | exact hr9)
            try simp only [Act.put, List.setIfInBounds_toArray, List.set_cons_zero, List.set_cons_succ, Nat.reduceAdd, List.length_nil, List.length_cons, List.nil_append, List.cons_append]
          iterate 1
            refine Stairs.that (ReadsT ⟨pqr, esj⟩) (by simp) ?_ ?_
            · intro x wR hR hd K hK
              simp only [Act.put, List.setIfInBounds_toArray, List.set_cons_zero, List.set_cons_succ, Nat.reduceAdd, List.length_nil, List.length_cons, List.nil_append, List.cons_append, Say.ok] at hK ⊢
              clear hd
              change Hid _ at hK
              obtain ⟨hcR, hfR, hzR⟩ := nwc hR
              first | (refine wanted_yes ?_ ?_; rfl) | (refine wanted_no ?_ ?_; rfl)
              go_wp2_with (first 
            | (go_at_call 42; refine (HCT.out _ (by repeat (first | assumption | exact Nw.refl _ | refine Nw.alloc ?_ _ | refine Nw.drew ?_ | refine Nw.drewN2 ?_ _ | (refine Nw.trans ?_ (by assumption))))).mono ?_; rintro e w9 ⟨v9, rfl, hr9, hn9⟩)
            | (go_at_call 31; refine (HSS.out _ _ (by repeat (first | assumption | exact Nw.refl _ | refine Nw.alloc ?_ _ | refine Nw.drew ?_ | refine Nw.drewN2 ?_ _ | (refine Nw.trans ?_ (by assumption)))) (by first | exact hd | exact hd.1 | exact hd.2.1 | exact hd.2)).mono ?_; rintro e w9 ⟨rfl, hn9⟩)
            | (go_at_call 35; refine (awake_c _).mono ?_; rintro e w9 ⟨rfl, hn9⟩))
              all_goals (refine hK.out _ _ ?_ ?_ <;> first | (solve | (repeat (first | assumption | exact Nw.refl _ | refine Nw.alloc ?_ _ | refine Nw.drew ?_ | refine Nw.drewN2 ?_ _ | (refine Nw.trans ?_ (by assumption))))) | exact rfl | exact hr9)
            try simp only [Act.put, List.setIfInBounds_toArray, List.set_cons_zero, List.set_cons_succ, Nat.reduceAdd, List.length_nil, List.length_cons, List.nil_append, List.cons_append]
          iterate 6
            refine Stairs.is ?_ ?_ ?_
            rotate_left 1
            · intro x wR hR hd K hK
              simp only [Act.put, List.setIfInBounds_toArray, List.set_cons_zero, List.set_cons_succ, Nat.reduceAdd, List.length_nil, List.length_cons, List.nil_append, List.cons_append, Say.ok] at hK ⊢
              try simp [Region.binds, sayAt, List.getD_cons_zero, List.getD_cons_succ, Say.ok, Vl] at hd
              try (first | have hs := str_ok hd | have hs := str_ok hd.2 | have hs := str_ok hd.1 | (obtain ⟨hd1, hd2, hd3⟩ := hd; first | have hs := str_ok hd1 | have hs := str_ok hd2 | have hs := str_ok hd3))
              change Hid _ at hK
              obtain ⟨hcR, hfR, hzR⟩ := nwc hR
              first | (refine wanted_yes ?_ ?_; rfl) | (refine wanted_no ?_ ?_; rfl)
              go_wp2_with (first 
            | (go_at_call 42; refine (HCT.out _ (by repeat (first | assumption | exact Nw.refl _ | refine Nw.alloc ?_ _ | refine Nw.drew ?_ | refine Nw.drewN2 ?_ _ | (refine Nw.trans ?_ (by assumption))))).mono ?_; rintro e w9 ⟨v9, rfl, hr9, hn9⟩)
            | (go_at_call 31; refine (HSS.out _ _ (by repeat (first | assumption | exact Nw.refl _ | refine Nw.alloc ?_ _ | refine Nw.drew ?_ | refine Nw.drewN2 ?_ _ | (refine Nw.trans ?_ (by assumption)))) (by first | exact hd | exact hd.1 | exact hd.2.1 | exact hd.2)).mono ?_; rintro e w9 ⟨rfl, hn9⟩)
            | (go_at_call 35; refine (awake_c _).mono ?_; rintro e w9 ⟨rfl, hn9⟩))
              all_goals (refine hK.out _ _ ?_ ?_ <;> first | (solve | (repeat (first | assumption | exact Nw.refl _ | refine Nw.alloc ?_ _ | refine Nw.drew ?_ | refine Nw.drewN2 ?_ _ | (refine Nw.trans ?_ (by assumption))))) | exact rfl | exact hr9)
            try simp only [Act.put, List.setIfInBounds_toArray, List.set_cons_zero, List.set_cons_succ, Nat.reduceAdd, List.length_nil, List.length_cons, List.nil_append, List.cons_append]
          refine Stairs.nil ?_
          intro x wR hR hx
          have h12 := hx 12 (by decide)
          simp only [sayAt, List.getD_cons_zero, List.getD_cons_succ, Say.ok, Vl] at h12
          clear hx
          obtain ⟨hcR, hfR, hzR⟩ := nwc hR
          go_wp2
          go_ret
          exact ⟨rfl, hw7.trans (hw8.trans (hn.trans hR))⟩
end Lg
end Go.Proofs.Ytjelbfodkacipaa
