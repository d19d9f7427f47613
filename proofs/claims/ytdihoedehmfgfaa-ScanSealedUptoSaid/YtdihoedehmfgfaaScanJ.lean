/- ScanSealed walked: it returns true. No condition but lengths. -/
import Derived.Test.YtdihoedehmfgfaaScanH
import Derived.Test.YtdihoedehmfgfaaOpn
set_option linter.unusedSimpArgs false
set_option linter.unusedVariables false
namespace Go.Proofs.Ytdihoedehmfgfaa
open Go.ChangeShapes Go.WideShapes Go.ChangeAt Go.RowKit
theorem u16_of (n : Int) (h : 0 ≤ n ∧ n ≤ 65535) : ∃ m : Nat, n = (m : Int) ∧ m ≤ 65535 := ⟨n.toNat, by omega, by omega⟩
namespace Sc
open Go.Proofs.Ytdihoedehmfgfaa.Lx (strs strs_open)
open Go.Proofs.Ytdihoedehmfgfaa.Rec (i64s_open)
open Go.Proofs.Ytdihoedehmfgfaa.Sum (Hands8)
open Go.Proofs.Ytdihoedehmfgfaa.Tr (T Es tm ids Evs EC box2 lt_alloc)
open Go.Proofs.Ytdihoedehmfgfaa.Lg (nmsS sealed_c sealP sealP_len)
/-- Bytes of a known length. -/
def LenS (n : Nat) (S : List UInt8) : Says := fun w v => ∃ q c, v = .slice q n c ∧ Bytes w (.slice q n c) S
theorem LenS.stab (n : Nat) (S : List UInt8) : Stab (LenS n S) := fun _ _ _ ⟨q, c, e, h⟩ hn => ⟨q, c, e, h.nw hn⟩
set_option maxRecDepth 20000 in
set_option maxHeartbeats 1600000 in
theorem sealed_walk (vn ve vs : Value) (l : List ByteArray) (es : Es) (sc : List Int) (f : Nat) (w : World) (hvn : Sl w vn (strs l)) (hve : Evs w ve es) (hnm : (nmsS l).length ≤ 2000000) (htb : ∀ i, i < es.length → 0 ≤ tm es i ∧ tm es i < 18446744073709551616)
    (hs : Sl w vs (i64s sc)) (hls : sc.length ≤ 1000000000) (hx : ∀ x ∈ sc, -9223372036854775808 ≤ x ∧ x ≤ 9223372036854775807) (hf : f ≤ 65535) :
    Calls Try.prog 5 #[vn, ve, vs, .int .u16 (f : Int)] w fun e w' => e = .returned (.bool true) ∧ Nw w w' := by
  have HSE := hid (fun w' (h : Nw w w') h1 h2 h3 => sealed_c vn ve l es w' (hvn.nw h) (hve.nw h) h1 (by omega) h2 h3 htb)
  have HSN := hid (fun w' (h : Nw w w') h1 => sealed_c vn (.slice none 0 0) l [] w' (hvn.nw h) (Evs.nil _) h1 (by omega) (Nat.zero_le _) (fun i hi => by cases hi) (fun i hi => by cases hi))
  have HL1 := hid (fun h => sealP_len l es h)
  have hl0 := sealP_len l [] (fun i hi => by cases hi)
  have HSL := hid (fun w' (h : Nw w w') => hs.nw h)
  obtain ⟨pn, capn, rfl, hcn, hmn, _, hcc⟩ := strs_open hvn
  obtain ⟨p, cap, rfl, hcap, hmx, hp0, hec⟩ := hve
  obtain ⟨ps, ks, rfl, _, _, _, _⟩ := hs.open (i64s_length sc)
  have HEC := hid hec
  unfold maxLen at hmn hmx
  clear hvn hcc hec hp0 htb hs
  generalize hS0 : sealP l [] = S0 at *
  clear hS0
  obtain ⟨N0, hN0⟩ : ∃ N0, S0.length = N0 := ⟨_, rfl⟩
  rw [hN0, List.length_nil] at hl0
  have HN0 := hid hN0
  clear hN0
  -- watchglass/watchglasslaw12.ScanSealed: the function; 10: the event's slot; 23: the counter; 9: the region behind the loop
  by_cases hb1 : 300 < l.length ∨ 300 < es.length
  · by_cases hb2 : 300 < l.length
    · have hd1 : decide ((300 : Int) < l.length) = true := decide_eq_true (by omega)
      go_enter Try.func5, Try.ntmps5
      go_wp2_with (first
        | (go_at_call 15; refine (awake_c _).mono ?_; rintro e w9 ⟨rfl, hn9⟩)
        | fail)
      go_ret
      exact ⟨rfl, hn9⟩
    · have hd1 : decide ((300 : Int) < l.length) = false := decide_eq_false (by omega)
      have hd2 : decide ((300 : Int) < es.length) = true := decide_eq_true (by omega)
      go_enter Try.func5, Try.ntmps5
      go_wp2_with (first
        | (go_at_call 15; refine (awake_c _).mono ?_; rintro e w9 ⟨rfl, hn9⟩)
        | fail)
      go_ret
      exact ⟨rfl, hn9⟩
  have hd1 : decide ((300 : Int) < l.length) = false := decide_eq_false (by omega)
  have hd2 : decide ((300 : Int) < es.length) = false := decide_eq_false (by omega)
  have hln : l.length ≤ 300 := by omega
  have hel : es.length ≤ 300 := by omega
  clear hb1
  go_enter Try.func5, Try.ntmps5
  go_upto_region 4 with fail
  go_loopw [10, 23] (fun _ i wr => ∃ j : Nat, j ≤ es.length ∧ i = .int .i64 j ∧ Hid (∀ i, i < j → (ids es i).length ≤ 300) ∧ Nw w wr) (fun _ i _ => es.length - (intOf i).toNat)
  case atStart => exact ⟨0, Nat.zero_le _, rfl, hid (fun i hi => by omega), Nw.refl _⟩
  case round =>
    obtain ⟨j, hj, rfl, HJ0, hn⟩ := hrel
    by_cases hlt : j < es.length
    · have hdj : decide (j < es.length) = true := decide_eq_true hlt
      obtain ⟨b2, o2, vi, e2, c0, c1', hsv⟩ := (HEC.out.nw hn) j hlt
      subst e2
      obtain ⟨pi, ci, rfl, _⟩ := i64s_open hsv
      have gb1 := World.block_lt_of_cell? wr _ c0
      simp only at gb1
      generalize tm es j = tj at *
      have HJ := hid (fun (h : (ids es j).length ≤ 300) => show ∀ i, i < j + 1 → (ids es i).length ≤ 300 from fun i hi => by
        by_cases hij : i = j
        · rw [hij]; exact h
        · exact HJ0.out i (by omega))
      generalize (ids es j).length = il at *
      clear hsv
      go_upto_region 6 with fail
      obtain ⟨z0, z1⟩ := box2 wr (.int .u64 tj) (.slice pi il ci) 38
      have hnz := (Nw.refl wr).alloc (.cells #[.int .u64 tj, .slice pi il ci] 38)
      have lz := lt_alloc wr (.cells #[.int .u64 tj, .slice pi il ci] 38)
      have hn' := hn.trans hnz
      clear hnz c0 c1' gb1 hn
      generalize wr.alloc (.cells #[.int .u64 tj, .slice pi il ci] 38) = wz at *
      generalize wr.heap.size = g19 at *
      by_cases h3 : 300 < il
      · have hd3 : decide ((300 : Int) < il) = true := decide_eq_true (by omega)
        go_wp2_with (first
          | (go_at_call 15; refine (awake_c _).mono ?_; rintro e w9 ⟨rfl, hn9⟩)
          | fail)
        go_ret
        exact ⟨rfl, hn'.trans hn9⟩
      · have hd3 : decide ((300 : Int) < il) = false := decide_eq_false (by omega)
        go_wp2
        go_roundw
        case rel => exact ⟨j + 1, by omega, by go_num, hid (HJ.out (by omega)), hn'⟩
        case measure => (simp [intOf] <;> omega)
    · obtain rfl : j = es.length := by omega
      have hdj : decide (es.length < es.length) = false := decide_eq_false (by omega)
      have HC1 := hid (fun w' (h : Nw w w') => HSE.out w' h (by omega) hel HJ0.out)
      have HC2 := hid (fun w' (h : Nw w w') => HSN.out w' h (by omega))
      have hl1 := HL1.out HJ0.out
      generalize sealP l es = Y at *
      obtain ⟨N, hN⟩ : ∃ N, Y.length = N := ⟨_, rfl⟩
      have HN := hid hN
      have hNb : N ≤ 200000000 := by omega
      obtain ⟨fm, hfm⟩ : ∃ fm, fm = f % (N + 3) := ⟨_, rfl⟩
      have hfb : fm < N + 3 := by rw [hfm]; exact Nat.mod_lt _ (by omega)
      have hf1 : (f : Int) % ((N : Int) + 3) = (fm : Int) := by rw [show (N : Int) + 3 = ((N + 3 : Nat) : Int) by omega, hfm, ← Int.natCast_emod]
      have hf2 : (f : Int).tmod ((N : Int) + 3) = (fm : Int) := by rw [Int.tmod_eq_emod_of_nonneg (by omega)]; exact hf1
      have hz1 : (((N : Int) + 3) == 0) = false := beq_eq_false_iff_ne.2 (by omega)
      have hz3 : (N : Int) + 3 ≠ 0 := by omega
      have HSC1 := hid (fun v w' (hv : Bytes w' v Y) (h : Nw w w') => scanned_c v _ Y sc ((fm : Int) - 1) (N0 : Int) (l.length : Int) w' hv (HSL.out w' h) (by omega) hls hx (by omega) (by omega) (by omega) (by omega) (by omega) (by omega))
      have HSC2 := hid (fun v w' (hv : Bytes w' v Y) (h : Nw w w') => scanned_c v _ Y sc (-1) 0 3 w' hv (HSL.out w' h) (by omega) hls hx (by omega) (by omega) (by omega) (by omega) (by omega) (by omega))
      clear hN hfm hl1 HL1 HJ0 HEC HSE HSN hls hx
      go_upto_region 10 with (first
        | (go_at_call 19; refine (HC1.out _ hn).mono ?_; rintro e w4 ⟨v4, rfl, hown4, hn4⟩; have hs4 : Bytes w4 v4 Y := hown4.sl; obtain ⟨q4, c4, rfl, _⟩ := hown4.sl.open (n := N) ((u8s_length _).trans HN.out))
        | fail)
      have hw4 := hn.trans hn4
      have HA := hid (fun w' (h : Nw w4 w') => HSC1.out _ w' (hs4.nw h) (hw4.trans h))
      have HB := hid (fun w' (h : Nw w4 w') => HSC2.out _ w' (hs4.nw h) (hw4.trans h))
      have HD := hid (fun w' (h : Nw w4 w') => HC2.out w' (hw4.trans h))
      have stL := LenS.stab N0 S0
      clear hn hn4 hown4 hs4 HSC1 HSC2 HC1 HC2
      refine wp_region_stairs (by kernel_rfl) (by kernel_rfl) (by kernel_rfl) ?_
      iterate 10
        refine Stairs.is ?_ ?_ ?_
        rotate_left 1
        · intro x wR hR hd K hK
          simp only [Act.put, List.setIfInBounds_toArray, List.set_cons_zero, List.set_cons_succ, Nat.reduceAdd, List.length_nil, List.length_cons, List.nil_append, List.cons_append, Say.ok] at hK ⊢
          clear hd
          change Hid _ at hK
          obtain ⟨hcR, hfR, hzR⟩ := nwc hR
          first | (refine wanted_yes ?_ ?_; rfl) | (refine wanted_no ?_ ?_; rfl)
          go_wp2_with (first 
        | (go_at_call 19; refine (HD.out _ (by repeat (first | assumption | exact Nw.refl _ | refine Nw.alloc ?_ _ | refine Nw.drew ?_ | refine Nw.drewN2 ?_ _ | (refine Nw.trans ?_ (by assumption))))).mono ?_; rintro e w5 ⟨v5, rfl, hown5, hn5⟩; obtain ⟨q5, c5, rfl, _⟩ := hown5.sl.open (n := N0) ((u8s_length _).trans HN0.out))
        | (go_at_call 14; (with_reducible refine (HA.out _ (by repeat (first | assumption | exact Nw.refl _ | refine Nw.alloc ?_ _ | refine Nw.drew ?_ | refine Nw.drewN2 ?_ _ | (refine Nw.trans ?_ (by assumption))))).mono ?_); rintro e w5 ⟨rfl, hn5⟩)
        | (go_at_call 14; (with_reducible refine (HB.out _ (by repeat (first | assumption | exact Nw.refl _ | refine Nw.alloc ?_ _ | refine Nw.drew ?_ | refine Nw.drewN2 ?_ _ | (refine Nw.trans ?_ (by assumption))))).mono ?_); rintro e w5 ⟨rfl, hn5⟩)
        | (go_at_call 15; refine (awake_c _).mono ?_; rintro e w5 ⟨rfl, hn5⟩))
          all_goals (refine hK.out _ _ ?_ ?_ <;> first | (solve | (repeat (first | assumption | exact Nw.refl _ | refine Nw.alloc ?_ _ | refine Nw.drew ?_ | refine Nw.drewN2 ?_ _ | (refine Nw.trans ?_ (by assumption))))) | exact rfl | exact ⟨_, _, rfl, hown5.sl⟩)
        try simp only [Act.put, List.setIfInBounds_toArray, List.set_cons_zero, List.set_cons_succ, Nat.reduceAdd, List.length_nil, List.length_cons, List.nil_append, List.cons_append]
      iterate 1
        refine Stairs.that (LenS N0 S0) (by first | assumption | simp) ?_ ?_
        · intro x wR hR hd K hK
          simp only [Act.put, List.setIfInBounds_toArray, List.set_cons_zero, List.set_cons_succ, Nat.reduceAdd, List.length_nil, List.length_cons, List.nil_append, List.cons_append, Say.ok] at hK ⊢
          clear hd
          change Hid _ at hK
          obtain ⟨hcR, hfR, hzR⟩ := nwc hR
          first | (refine wanted_yes ?_ ?_; rfl) | (refine wanted_no ?_ ?_; rfl)
          go_wp2_with (first 
        | (go_at_call 19; refine (HD.out _ (by repeat (first | assumption | exact Nw.refl _ | refine Nw.alloc ?_ _ | refine Nw.drew ?_ | refine Nw.drewN2 ?_ _ | (refine Nw.trans ?_ (by assumption))))).mono ?_; rintro e w5 ⟨v5, rfl, hown5, hn5⟩; obtain ⟨q5, c5, rfl, _⟩ := hown5.sl.open (n := N0) ((u8s_length _).trans HN0.out))
        | (go_at_call 14; (with_reducible refine (HA.out _ (by repeat (first | assumption | exact Nw.refl _ | refine Nw.alloc ?_ _ | refine Nw.drew ?_ | refine Nw.drewN2 ?_ _ | (refine Nw.trans ?_ (by assumption))))).mono ?_); rintro e w5 ⟨rfl, hn5⟩)
        | (go_at_call 14; (with_reducible refine (HB.out _ (by repeat (first | assumption | exact Nw.refl _ | refine Nw.alloc ?_ _ | refine Nw.drew ?_ | refine Nw.drewN2 ?_ _ | (refine Nw.trans ?_ (by assumption))))).mono ?_); rintro e w5 ⟨rfl, hn5⟩)
        | (go_at_call 15; refine (awake_c _).mono ?_; rintro e w5 ⟨rfl, hn5⟩))
          all_goals (refine hK.out _ _ ?_ ?_ <;> first | (solve | (repeat (first | assumption | exact Nw.refl _ | refine Nw.alloc ?_ _ | refine Nw.drew ?_ | refine Nw.drewN2 ?_ _ | (refine Nw.trans ?_ (by assumption))))) | exact rfl | exact ⟨_, _, rfl, hown5.sl⟩)
        try simp only [Act.put, List.setIfInBounds_toArray, List.set_cons_zero, List.set_cons_succ, Nat.reduceAdd, List.length_nil, List.length_cons, List.nil_append, List.cons_append]
      iterate 13
        refine Stairs.is ?_ ?_ ?_
        rotate_left 1
        · intro x wR hR hd K hK
          simp only [Act.put, List.setIfInBounds_toArray, List.set_cons_zero, List.set_cons_succ, Nat.reduceAdd, List.length_nil, List.length_cons, List.nil_append, List.cons_append, Say.ok] at hK ⊢
          try simp [Region.binds, sayAt, List.getD_cons_zero, List.getD_cons_succ, Say.ok, Vl] at hd
          try (first | have hs := str_ok hd | have hs := str_ok hd.2 | have hs := str_ok hd.1 | (obtain ⟨hd1, hd2, hd3⟩ := hd; first | have hs := str_ok hd1 | have hs := str_ok hd2 | have hs := str_ok hd3))
          try (obtain ⟨q9, c9, h9, _⟩ := hd; simp only [h9] at hK ⊢)
          change Hid _ at hK
          obtain ⟨hcR, hfR, hzR⟩ := nwc hR
          first | (refine wanted_yes ?_ ?_; rfl) | (refine wanted_no ?_ ?_; rfl)
          go_wp2_with (first 
        | (go_at_call 19; refine (HD.out _ (by repeat (first | assumption | exact Nw.refl _ | refine Nw.alloc ?_ _ | refine Nw.drew ?_ | refine Nw.drewN2 ?_ _ | (refine Nw.trans ?_ (by assumption))))).mono ?_; rintro e w5 ⟨v5, rfl, hown5, hn5⟩; obtain ⟨q5, c5, rfl, _⟩ := hown5.sl.open (n := N0) ((u8s_length _).trans HN0.out))
        | (go_at_call 14; (with_reducible refine (HA.out _ (by repeat (first | assumption | exact Nw.refl _ | refine Nw.alloc ?_ _ | refine Nw.drew ?_ | refine Nw.drewN2 ?_ _ | (refine Nw.trans ?_ (by assumption))))).mono ?_); rintro e w5 ⟨rfl, hn5⟩)
        | (go_at_call 14; (with_reducible refine (HB.out _ (by repeat (first | assumption | exact Nw.refl _ | refine Nw.alloc ?_ _ | refine Nw.drew ?_ | refine Nw.drewN2 ?_ _ | (refine Nw.trans ?_ (by assumption))))).mono ?_); rintro e w5 ⟨rfl, hn5⟩)
        | (go_at_call 15; refine (awake_c _).mono ?_; rintro e w5 ⟨rfl, hn5⟩))
          all_goals (refine hK.out _ _ ?_ ?_ <;> first | (solve | (repeat (first | assumption | exact Nw.refl _ | refine Nw.alloc ?_ _ | refine Nw.drew ?_ | refine Nw.drewN2 ?_ _ | (refine Nw.trans ?_ (by assumption))))) | exact rfl | exact ⟨_, _, rfl, hown5.sl⟩)
        try simp only [Act.put, List.setIfInBounds_toArray, List.set_cons_zero, List.set_cons_succ, Nat.reduceAdd, List.length_nil, List.length_cons, List.nil_append, List.cons_append]
      refine Stairs.nil ?_
      intro x wR hR hx
      have h10 := hx 10 (by decide)
      simp only [sayAt, List.getD_cons_zero, List.getD_cons_succ, Say.ok, Vl] at h10
      clear hx
      obtain ⟨hcR, hfR, hzR⟩ := nwc hR
      go_wp2
      go_ret
      exact ⟨rfl, hw4.trans hR⟩
end Sc
end Go.Proofs.Ytdihoedehmfgfaa
