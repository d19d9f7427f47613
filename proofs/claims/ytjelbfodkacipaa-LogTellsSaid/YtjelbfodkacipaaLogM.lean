/- LogTells walked: it returns true. No condition. -/
import Derived.Test.YtjelbfodkacipaaLogL
set_option linter.unusedSimpArgs false
set_option linter.unusedVariables false
namespace Go.Proofs.Ytjelbfodkacipaa
open Go.ChangeShapes Go.WideShapes Go.ChangeAt Go.RowKit
namespace Lg
open Go.Proofs.Ytjelbfodkacipaa.Lx (isIn nameB strs_open strs_cell)
open Go.Proofs.Ytjelbfodkacipaa.Sum (byte put right Hands8 HandsR)
open Go.Proofs.Ytjelbfodkacipaa.Rec (i64s_open rec_len)
open Go.Proofs.Ytjelbfodkacipaa.Tr (T Es tm ids mayP namesP nmB nOk Evs EC Small In EvIn box2 lt_alloc TrR evs_shape samet_same makeP make_may make_len make_small make_c3 u16s u16s_length pqr rcut_c ReadsT HandsT)
set_option maxRecDepth 20000 in
set_option maxHeartbeats 1600000 in
theorem tells_walk (start : Int) (h0 : 0 ≤ start) (h64 : start < 18446744073709551616) (v1 : Value) (ns : List Nat) (wh at_ : Nat) (x : UInt8) (w : World) (hv1 : Sl w v1 (u16s ns)) (hns : ∀ n ∈ ns, n ≤ 65535) (hwh : wh ≤ 255) (hat : at_ ≤ 255) :
    Calls Try.prog 15 #[.int .u64 start, v1, .int .u8 (wh : Int), .int .u8 (at_ : Int), .int .u8 (x.toNat : Int)] w fun e w' => e = .returned (.bool true) ∧ Nw w w' := by
  have HM1 := hid (fun w' (h : Nw w w') => make_c3 start h0 h64 v1 ns w' (hv1.nw h) hns)
  have HMM := hid (make_may start h0 ns)
  have HSM := hid (make_small start h0 ns)
  have HLE := hid (make_len start h0 ns)
  have HTB := hid (make_tb start h0 ns)
  have hme := make_enc start h0 ns
  obtain ⟨es, hE⟩ := make_is start ns
  obtain ⟨p5, k5, rfl, _, _, _, _⟩ := hv1.open (u16s_length ns)
  rw [hE] at HM1 HMM HSM HLE HTB hme
  dsimp only at HM1 HLE HTB
  clear hv1 hns hE
  have HEE := hid (fun (x y : Value) w' (h1 : Sl w' x (Lx.strs pqr)) (h2 : Evs w' y es) => encode_c x y ⟨pqr, es⟩ w' h1 h2 HSM.out (Nat.le_trans HLE.out (by decide)) HTB.out)
  have hem : encP (⟨pqr, es⟩ : T) = headerP pqr ++ recsX es := by unfold encP; rw [if_pos HMM.out]
  have HHD := hid (fun v w' (h : Bytes w' v (encP (⟨pqr, es⟩ : T))) => show Calls Try.prog 41 #[v] w' (HandsHd w' (pqr, ((headerP pqr).length : Int), 0)) by rw [← (back HMM.out HTB.out).2.1]; exact head_c v _ w' h (by omega))
  have hhl := (back HMM.out HTB.out).2.2
  dsimp only at hhl
  have hpq : namesP pqr = true := may_names HMM.out
  have hfine := may_fine HMM.out HTB.out
  obtain ⟨A, hA⟩ : ∃ A : Nat → Nat, A = fun j => (headerP pqr).length + (recsX (es.take j)).length := ⟨_, rfl⟩
  have HA0 := hid (show A 0 = (headerP pqr).length by rw [hA]; rfl)
  have HAS := hid (show ∀ j, j < es.length → A (j + 1) = A j + (14 + (ids es j).length) from fun j hj => by rw [hA]; dsimp only; rw [recsX_step hj]; omega)
  have hAL : ∀ j, j < es.length → A (j + 1) ≤ (encP (⟨pqr, es⟩ : T)).length := fun j hj => by
    rw [hA, hem]
    dsimp only
    rw [recsX_step hj, recsX_at hj]
    simp only [List.length_append, rec_len]
    omega
  have hHT := fun k (hk : k < es.length) m (hm : m < 12 + (ids es k).length) (z y : UInt8) (hy : (encP (⟨pqr, es⟩ : T))[A k + 2 + m]? = some y) (hz : z ≠ y) => show decP ((encP (⟨pqr, es⟩ : T)).set (A k + 2 + m) z) = ((⟨pqr, es.take k⟩ : T), ((k : Int), (6 : Int))) by
    rw [hem] at hy ⊢
    rw [hA] at hy ⊢
    exact tells_dec hpq hfine hk hm (fun y' hy' => by rw [hy] at hy'; cases hy'; exact hz)
  have HT := hid hHT
  have HAL := hid hAL
  have HEI := hid (fun j (hj : j < es.length) => show (ids es j).length ≤ 1000000000 from HSM.out.i j hj)
  clear hA hpq hfine hem hHT hAL
  generalize encP (⟨pqr, es⟩ : T) = em at *
  generalize (headerP pqr).length = H at *
  obtain ⟨L, hL⟩ : ∃ L, L = em.length := ⟨_, rfl⟩
  have HL := hid hL
  rw [← hL] at hme hhl HAL
  clear hL
  generalize hnn : es.length = n at *
  generalize ns.length = nl at *
  have HNN := hid hnn
  clear hnn
  go_enter Try.func15, Try.ntmps15
  go_upto_region 2 with (first
    | (go_at_call 23; refine (HM1.out _ (by repeat (first | assumption | exact Nw.refl _ | refine Nw.alloc ?_ _ | refine Nw.drew ?_ | refine Nw.drewN2 ?_ _ | (refine Nw.trans ?_ (by assumption))))).mono ?_; rintro e w2 ⟨q1, c1, q2, c2, rfl, hs1, he1, hn2⟩)
    | fail)
  obtain ⟨u0, u1⟩ := box2 w2 (.slice q1 3 c1) (.slice q2 n c2) 26
  have hn3 := (Nw.refl w2).alloc (.cells #[.slice q1 3 c1, .slice q2 n c2] 26)
  have lu := lt_alloc w2 (.cells #[.slice q1 3 c1, .slice q2 n c2] 26)
  replace hs1 := hs1.nw hn3
  replace he1 := he1.nw hn3
  have hw3 : Nw w (w2.alloc (.cells #[.slice q1 3 c1, .slice q2 n c2] 26)) := hn2.trans hn3
  clear hn2 hn3 HM1
  generalize w2.alloc (.cells #[.slice q1 3 c1, .slice q2 n c2] 26) = w3 at *
  generalize w2.heap.size = g7 at *
  go_upto_region 3 with (first
    | (go_at_call 33; refine (HEE.out _ _ _ hs1 he1).mono ?_; rintro e w4 ⟨v4, rfl, hown4, hn4⟩; obtain ⟨q4, c4, rfl, hc4, hx4, hz4, hcs4⟩ := hown4.sl.open (n := L) ((u8s_length _).trans HL.out.symm))
    | fail)
  have hbe : Bytes w4 (.slice q4 L c4) em := hown4.sl
  replace hs1 := hs1.nw hn4
  replace he1 := he1.nw hn4
  replace u0 := hn4.cell u0
  replace u1 := hn4.cell u1
  replace lu := Nat.lt_of_lt_of_le lu hn4.size
  have hw4 := hw3.trans hn4
  clear hown4 hn4 hw3 HEE hcs4
  unfold maxLen at hx4
  go_upto_region 4 with (first
    | (go_at_call 41; refine (HHD.out _ _ hbe).mono ?_; rintro e w5 ⟨v5, rfl, hs5, hn5⟩; obtain ⟨q5, c5, rfl, _⟩ := strs_open hs5; replace u0 := hn5.cell u0; replace u1 := hn5.cell u1; replace hs1 := hs1.nw hn5; replace he1 := he1.nw hn5; replace lu := Nat.lt_of_lt_of_le lu hn5.size; replace hbe := hbe.nw hn5; dsimp only)
    | fail)
  have hw5 := hw4.trans hn5
  clear hw4 hn5 hs5 HHD
  by_cases hn0 : n = 0
  · have hdn : ((n : Int) == 0) = true := by rw [hn0]; rfl
    subst hn0
    -- the law says nothing: no events, or nothing changed
    go_wp2_with (first
      | (go_at_call 35; refine (awake_c _).mono ?_; rintro e w9 ⟨rfl, hn9⟩)
      | fail)
    go_ret
    exact ⟨rfl, hw5.trans hn9⟩
  · have hdn : ((n : Int) == 0) = false := beq_eq_false_iff_ne.2 (by omega)
    have hni : (n : Int) ≠ 0 := by omega
    by_cases hx : x = 0
    · have hdx : ((x.toNat : Int) == 0) = true := by rw [hx]; rfl
      subst hx
      -- the law says nothing: no events, or nothing changed
      go_wp2_with (first
        | (go_at_call 35; refine (awake_c _).mono ?_; rintro e w9 ⟨rfl, hn9⟩)
        | fail)
      go_ret
      exact ⟨rfl, hw5.trans hn9⟩
    · have hdx : ((x.toNat : Int) == 0) = false := beq_eq_false_iff_ne.2 (fun h => hx (UInt8.toNat_inj.1 (by have h3 : (x.toNat : Int) = 0 := h; have h4 : x.toNat = 0 := (by omega); exact h4.trans rfl)))
      obtain ⟨k, hk⟩ : ∃ k, k = wh % n := ⟨_, rfl⟩
      have hkn : k < n := by have := Nat.mod_lt wh (show 0 < n by omega); omega
      have hm1 : (wh : Int) % (n : Int) = (k : Int) := by rw [hk, ← Int.natCast_emod]
      have ht1 : (wh : Int).tmod (n : Int) = (k : Int) := by rw [Int.tmod_eq_emod_of_nonneg (by omega)]; exact hm1
      have hd0 : ((n : Int) == 0) = false := hdn
      obtain ⟨_, _, e9, hc9, hm9, hz9, hec⟩ := id he1
      rw [HNN.out] at e9 hc9
      cases e9
      have HEC := hid hec
      have HZ9 := hid hz9
      unfold maxLen at hm9
      have hkc : k ≤ c2 := by omega
      obtain ⟨b1, o1, _, rfl, _⟩ := hec 0 (by rw [HNN.out]; omega)
      clear hec hk hz9
      have hnx := Nw.refl w5
      go_upto_region 8 with fail
      go_loopw [14, 18, 63] (fun at_ _ i wr => ∃ j : Nat, j ≤ k ∧ at_ = .int .i64 (A j) ∧ i = .int .i64 j ∧ A j ≤ L ∧ Nw w5 wr) (fun _ _ i _ => k - (intOf i).toNat)
      case atStart => exact ⟨0, Nat.zero_le _, by rw [HA0.out], rfl, by rw [HA0.out]; omega, Nw.refl _⟩
      case round =>
        obtain ⟨j, hj, rfl, rfl, hAj, hn⟩ := hrel
        replace u0 := hn.cell u0
        replace u1 := hn.cell u1
        replace lu := Nat.lt_of_lt_of_le lu hn.size
        by_cases hlt : j < k
        · have hdj : decide (j < k) = true := decide_eq_true hlt
          have hst := HAS.out j (by omega)
          have hal := HAL.out j (by omega)
          have hil := HEI.out j (by omega)
          obtain ⟨b2, o2, vi, e2, c0, c1', hsv⟩ := (HEC.out.nw hn) j (by rw [HNN.out]; omega)
          cases e2
          obtain ⟨pi, ci, rfl, _⟩ := i64s_open hsv
          have gb1 := World.block_lt_of_cell? wr _ c0
          simp only at gb1
          generalize tm es j = tj at *
          obtain ⟨il, hile⟩ : ∃ il, il = (ids es j).length := ⟨_, rfl⟩
          rw [← hile] at hst hil c1'
          clear hile hsv
          go_upto_region 10 with fail
          obtain ⟨z0, z1⟩ := box2 wr (.int .u64 tj) (.slice pi il ci) 39
          have hnz := (Nw.refl wr).alloc (.cells #[.int .u64 tj, .slice pi il ci] 39)
          have lz := lt_alloc wr (.cells #[.int .u64 tj, .slice pi il ci] 39)
          have hn' := hn.trans hnz
          clear hnz c0 c1' gb1 hn u0 u1 lu
          generalize wr.alloc (.cells #[.int .u64 tj, .slice pi il ci] 39) = wz at *
          generalize wr.heap.size = g19 at *
          go_wp2
          go_roundw
          case rel => exact ⟨j + 1, by omega, by rw [hst]; go_num, by go_num, by omega, hn'⟩
          case measure => (simp [intOf] <;> omega)
        · obtain rfl : j = k := by omega
          have hdj : decide (j < j) = false := decide_eq_false (by omega)
          have hst := HAS.out j hkn
          have hal := HAL.out j hkn
          have hil := HEI.out j hkn
          have HTJ := hid (HT.out j hkn)
          obtain ⟨b2, o2, vi, e2, c0, c1', hsv⟩ := (HEC.out.nw hn) j (by rw [HNN.out]; omega)
          cases e2
          obtain ⟨pi, ci, rfl, _⟩ := i64s_open hsv
          have gb1 := World.block_lt_of_cell? wr _ c0
          simp only at gb1
          obtain ⟨il, hile⟩ : ∃ il, il = (ids es j).length := ⟨_, rfl⟩
          rw [← hile] at hst hil c1' HTJ
          clear hile hsv
          obtain ⟨m, hm⟩ : ∃ m, m = at_ % (12 + il) := ⟨_, rfl⟩
          have hml : m < 12 + il := by have := Nat.mod_lt at_ (show 0 < 12 + il by omega); omega
          have hmi : (at_ : Int) % (12 + (il : Int)) = (m : Int) := by rw [show 12 + (il : Int) = ((12 + il : Nat) : Int) by omega, hm, ← Int.natCast_emod]
          have hti : (at_ : Int).tmod (12 + (il : Int)) = (m : Int) := by rw [Int.tmod_eq_emod_of_nonneg (by omega)]; exact hmi
          have hdi : ((12 + (il : Int)) == 0) = false := beq_eq_false_iff_ne.2 (by omega)
          have hdi2 : (12 + (il : Int)) ≠ 0 := by omega
          obtain ⟨i, hi⟩ : ∃ i, i = A j + 2 + m := ⟨_, rfl⟩
          have hiL : i < L := by omega
          have hii : (A j : Int) + 2 + (m : Int) = (i : Int) := by omega
          have hdL : decide ((L : Int) ≤ (i : Int)) = false := decide_eq_false (by omega)
          have hdLn : decide (L ≤ i) = false := decide_eq_false (by omega)
          obtain ⟨y, hy⟩ : ∃ y, em[i]? = some y := ⟨em[i]'(by rw [← HL.out]; exact hiL), by rw [List.getElem?_eq_getElem]⟩
          have hxv := xor_val y x
          have hne := LgP.xor_ne y x hx
          have HF := hid (show decP (em.set i (y ^^^ x)) = ((⟨pqr, es.take j⟩ : T), ((j : Int), (6 : Int))) by
            rw [hi]
            exact HTJ.out m hml (y ^^^ x) y (by rw [← hi]; exact hy) hne)
          have hbr := hbe.nw hn
          have HXL := hid (show (u8s em).length = L by rw [u8s_length]; exact HL.out.symm)
          have hw6 := hw5.trans hn
          replace hs1 := hs1.nw hn
          replace he1 := he1.nw hn
          clear hm hi HTJ hbe hn hw5
          go_upto_region 13 with (first
            | (at_builtin; refine app1 rfl _ _ _ rfl _ _ _ Try.underlying51 info_u8 rfl (by decide) ((Nw.refl wr).alloc _) (Own.new wr _ _ [] (Nat.le_refl _) (Nat.zero_le _)) rfl (hbr.nw ((Nw.refl wr).alloc _)) rfl (u8s_one _) ?_ ?_; rotate_left; (simp only [u8s_length, List.length_nil, HXL.out]; omega); intro v7 w7 hown7 hg7 hn7; rw [List.nil_append] at hown7; obtain ⟨g, c7, rfl, hB7, hc7, hm7, hownb, hcs7⟩ := own_at' hown7 HXL.out (by omega))
            | fail)
          have u07 := hn7.cell u0
          have u17 := hn7.cell u1
          replace c0 := hn7.cell c0
          replace c1' := hn7.cell c1'
          have lu7 := Nat.lt_of_lt_of_le lu hn7.size
          replace gb1 := Nat.lt_of_lt_of_le gb1 hn7.size
          have q1' := hownb.cell HXL.out.symm i (by rw [HXL.out]; omega)
          rw [u8s_get em i y hy] at q1'
          have q2' := hownb.frozen HXL.out.symm i
          have q3 := hownb.set HXL.out.symm i (.int .u8 ((y.toNat ^^^ x.toNat : Nat) : Int))
          rw [show (u8s em).set i (.int .u8 ((y.toNat ^^^ x.toNat : Nat) : Int)) = u8s (em.set i (y ^^^ x)) by rw [u8s_set, UInt8.toNat_xor]] at q3
          have hn8 : Nw wr (w7.setCell ⟨g, i, none⟩ (.int .u8 ((y.toNat ^^^ x.toNat : Nat) : Int))) := hn7.setCell hB7 _
          have hb8 : Bytes (w7.setCell ⟨g, i, none⟩ (.int .u8 ((y.toNat ^^^ x.toNat : Nat) : Int))) (.slice (some ⟨g, 0, none⟩) L c7) (em.set i (y ^^^ x)) := q3.sl
          have hel : (em.set i (y ^^^ x)).length ≤ 1000000000 := by rw [List.length_set, ← HL.out]; omega
          have HDC := hid (fun w' v (h : Bytes w' v (em.set i (y ^^^ x))) => show Calls Try.prog 38 #[v] w' (HandsD w' ((⟨pqr, es.take j⟩ : T), ((j : Int), (6 : Int)))) by rw [← HF.out]; exact decode_c v _ w' h hel)
          clear hcs7 hown7 hownb q3 hg7
          generalize em.set i (y ^^^ x) = em2 at *
          go_upto_region 17 with fail
          generalize hW : w7.setCell ⟨g, i, none⟩ (.int .u8 ((y.toNat ^^^ x.toNat : Nat) : Int)) = w8 at *
          replace u0 := hn8.cell u0
          replace u1 := hn8.cell u1
          replace lu := Nat.lt_of_lt_of_le lu hn8.size
          replace hs1 := hs1.nw hn8
          replace he1 := he1.nw hn8
          have hw8 := hw6.trans hn8
          clear hW q1' q2' u07 u17 c0 c1' lu7 gb1 hw6 hn7 hn8 hbr
          go_upto_region 18 with (first
            | (go_at_call 38; refine (HDC.out _ _ hb8).mono ?_; rintro e w9 h9; obtain ⟨a1, a2, a3, a4, a5, a6, rfl, hr9, hn9, hm9', hk9'⟩ := h9.open; dsimp only at hr9 ⊢; clear h9 hm9' hk9')
            | fail)
          obtain ⟨y0, y1⟩ := box2 w9 (.slice a1 a2 a3) (.slice a4 a5 a6) 26
          have hnA := hn9.alloc (.cells #[.slice a1 a2 a3, .slice a4 a5 a6] 26)
          have hrA := hr9.nw ((Nw.refl w9).alloc (.cells #[.slice a1 a2 a3, .slice a4 a5 a6] 26))
          have ly := lt_alloc w9 (.cells #[.slice a1 a2 a3, .slice a4 a5 a6] 26)
          replace hs1 := hs1.nw hnA
          replace he1 := he1.nw hnA
          replace u0 := hnA.cell u0
          replace u1 := hnA.cell u1
          replace lu := Nat.lt_of_lt_of_le lu hnA.size
          have hwA := hw8.trans hnA
          clear hn9 hnA hr9 hw8 hb8 HDC
          generalize w9.alloc (.cells #[.slice a1 a2 a3, .slice a4 a5 a6] 26) = wA at *
          generalize w9.heap.size = g21 at *
          have HCT := hid (fun w' (h : Nw wA w') => cut_may HMM.out HSM.out j (by rw [HNN.out]; omega) (by rw [HNN.out]; exact HLE.out) _ _ w' (hs1.nw h) (he1.nw h))
          have HSS := hid (fun w' v (h : Nw wA w') (hv : TrR w' v ⟨pqr, es.take j⟩) => samet_same _ v _ w' (hrA.nw h) hv)
          generalize es.take j = esj at *
          refine wp_region_stairs (by kernel_rfl) (by kernel_rfl) (by kernel_rfl) ?_
          iterate 11
            refine Stairs.is ?_ ?_ ?_
            rotate_left 1
            · intro x wR hR hd K hK
              simp only [Act.put, List.setIfInBounds_toArray, List.set_cons_zero, List.set_cons_succ, Nat.reduceAdd, List.length_nil, List.length_cons, List.nil_append, List.cons_append, Say.ok] at hK ⊢
              clear hd
              change Hid _ at hK
              obtain ⟨hcR, hfR, hzR⟩ := nwc hR
              first | (refine wanted_yes ?_ ?_; rfl) | (refine wanted_no ?_ ?_; rfl)
              go_wp2_with (first 
            | (go_at_call 42; refine (HCT.out _ (by repeat (first | assumption | exact Nw.refl _ | refine Nw.alloc ?_ _ | refine Nw.drew ?_ | refine Nw.drewN2 ?_ _ | (refine Nw.trans ?_ (by assumption))))).mono ?_; rintro e w9 ⟨v9, rfl, hr9, hn9⟩)
            | (go_at_call 31; refine (HSS.out _ _ (by repeat (first | assumption | exact Nw.refl _ | refine Nw.alloc ?_ _ | refine Nw.drew ?_ | refine Nw.drewN2 ?_ _ | (refine Nw.trans ?_ (by assumption)))) (by first | exact hd | exact hd.1 | exact hd.2.1 | exact hd.2)).mono ?_; rintro e w9 ⟨rfl, hn9⟩)
            | (go_at_call 35; refine (awake_c _).mono ?_; rintro e w9 ⟨rfl, hn9⟩))
              all_goals (refine hK.out _ _ ?_ ?_ <;> first | (solve | (repeat (first | assumption | exact Nw.refl _ | refine Nw.alloc ?_ _ | refine Nw.drew ?_ | refine Nw.drewN2 ?_ _ | (refine Nw.trans ?_ (by assumption))))) | exact rfl | exact hr9)
            try simp only [Act.put, List.setIfInBounds_toArray, List.set_cons_zero, List.set_cons_succ, Nat.reduceAdd, List.length_nil, List.length_cons, List.nil_append, List.cons_append]
          iterate 1
            refine Stairs.that (ReadsT ⟨pqr, esj⟩) (by simp) ?_ ?_
            · intro x wR hR hd K hK
              simp only [Act.put, List.setIfInBounds_toArray, List.set_cons_zero, List.set_cons_succ, Nat.reduceAdd, List.length_nil, List.length_cons, List.nil_append, List.cons_append, Say.ok] at hK ⊢
              clear hd
              change Hid _ at hK
              obtain ⟨hcR, hfR, hzR⟩ := nwc hR
              first | (refine wanted_yes ?_ ?_; rfl) | (refine wanted_no ?_ ?_; rfl)
              go_wp2_with (first 
            | (go_at_call 42; refine (HCT.out _ (by repeat (first | assumption | exact Nw.refl _ | refine Nw.alloc ?_ _ | refine Nw.drew ?_ | refine Nw.drewN2 ?_ _ | (refine Nw.trans ?_ (by assumption))))).mono ?_; rintro e w9 ⟨v9, rfl, hr9, hn9⟩)
            | (go_at_call 31; refine (HSS.out _ _ (by repeat (first | assumption | exact Nw.refl _ | refine Nw.alloc ?_ _ | refine Nw.drew ?_ | refine Nw.drewN2 ?_ _ | (refine Nw.trans ?_ (by assumption)))) (by first | exact hd | exact hd.1 | exact hd.2.1 | exact hd.2)).mono ?_; rintro e w9 ⟨rfl, hn9⟩)
            | (go_at_call 35; refine (awake_c _).mono ?_; rintro e w9 ⟨rfl, hn9⟩))
              all_goals (refine hK.out _ _ ?_ ?_ <;> first | (solve | (repeat (first | assumption | exact Nw.refl _ | refine Nw.alloc ?_ _ | refine Nw.drew ?_ | refine Nw.drewN2 ?_ _ | (refine Nw.trans ?_ (by assumption))))) | exact rfl | exact hr9)
            try simp only [Act.put, List.setIfInBounds_toArray, List.set_cons_zero, List.set_cons_succ, Nat.reduceAdd, List.length_nil, List.length_cons, List.nil_append, List.cons_append]
          iterate 6
            refine Stairs.is ?_ ?_ ?_
            rotate_left 1
            · intro x wR hR hd K hK
              simp only [Act.put, List.setIfInBounds_toArray, List.set_cons_zero, List.set_cons_succ, Nat.reduceAdd, List.length_nil, List.length_cons, List.nil_append, List.cons_append, Say.ok] at hK ⊢
              try simp [Region.binds, sayAt, List.getD_cons_zero, List.getD_cons_succ, Say.ok, Vl] at hd
              try (first | have hs := str_ok hd | have hs := str_ok hd.2 | have hs := str_ok hd.1 | (obtain ⟨hd1, hd2, hd3⟩ := hd; first | have hs := str_ok hd1 | have hs := str_ok hd2 | have hs := str_ok hd3))
              change Hid _ at hK
              obtain ⟨hcR, hfR, hzR⟩ := nwc hR
              first | (refine wanted_yes ?_ ?_; rfl) | (refine wanted_no ?_ ?_; rfl)
              go_wp2_with (first 
            | (go_at_call 42; refine (HCT.out _ (by repeat (first | assumption | exact Nw.refl _ | refine Nw.alloc ?_ _ | refine Nw.drew ?_ | refine Nw.drewN2 ?_ _ | (refine Nw.trans ?_ (by assumption))))).mono ?_; rintro e w9 ⟨v9, rfl, hr9, hn9⟩)
            | (go_at_call 31; refine (HSS.out _ _ (by repeat (first | assumption | exact Nw.refl _ | refine Nw.alloc ?_ _ | refine Nw.drew ?_ | refine Nw.drewN2 ?_ _ | (refine Nw.trans ?_ (by assumption)))) (by first | exact hd | exact hd.1 | exact hd.2.1 | exact hd.2)).mono ?_; rintro e w9 ⟨rfl, hn9⟩)
            | (go_at_call 35; refine (awake_c _).mono ?_; rintro e w9 ⟨rfl, hn9⟩))
              all_goals (refine hK.out _ _ ?_ ?_ <;> first | (solve | (repeat (first | assumption | exact Nw.refl _ | refine Nw.alloc ?_ _ | refine Nw.drew ?_ | refine Nw.drewN2 ?_ _ | (refine Nw.trans ?_ (by assumption))))) | exact rfl | exact hr9)
            try simp only [Act.put, List.setIfInBounds_toArray, List.set_cons_zero, List.set_cons_succ, Nat.reduceAdd, List.length_nil, List.length_cons, List.nil_append, List.cons_append]
          refine Stairs.nil ?_
          intro x wR hR hx
          have h11 := hx 11 (by decide)
          simp only [sayAt, List.getD_cons_zero, List.getD_cons_succ, Say.ok, Vl] at h11
          clear hx
          obtain ⟨hcR, hfR, hzR⟩ := nwc hR
          go_wp2
          go_ret
          exact ⟨rfl, hwA.trans hR⟩
end Lg
end Go.Proofs.Ytjelbfodkacipaa
