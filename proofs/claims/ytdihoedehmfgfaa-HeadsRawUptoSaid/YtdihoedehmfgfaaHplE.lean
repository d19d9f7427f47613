/- HeadsPlays, HeadsRaw walked: they return true. No condition but lengths. -/
import Derived.Test.YtdihoedehmfgfaaHplD
import Derived.Test.YtdihoedehmfgfaaJHk
import Derived.Test.YtdihoedehmfgfaaSpoil
import Derived.Test.YtdihoedehmfgfaaJLo
set_option linter.unusedSimpArgs false
set_option linter.unusedVariables false
namespace Go.Proofs.Ytdihoedehmfgfaa
open Go.ChangeShapes Go.WideShapes Go.ChangeAt Go.RowKit
namespace Hp
open Go.Proofs.Ytdihoedehmfgfaa.Rec (none_ get i64s_open)
open Go.Proofs.Ytdihoedehmfgfaa.Lx (strs strs_open)
open Go.Proofs.Ytdihoedehmfgfaa.Tr (T Es tm ids Evs EC Small box2 lt_alloc makeP make_may make_len make_small make_c3 u16s u16s_length pqr pqr_new)
open Go.Proofs.Ytdihoedehmfgfaa.Lg (encP rencode_c spoil_c spoilP spoil_len make_tb make_enc nmsS sealed_c sealP sealP_len)
set_option maxRecDepth 20000 in
set_option maxHeartbeats 1600000 in
theorem headsplays_walk (start : Int) (h0 : 0 ≤ start) (h64 : start < 18446744073709551616) (v1 vs va : Value) (ns : List Nat) (sc : List Int) (fault size : Int) (al : List Ha) (w : World) (hv1 : Sl w v1 (u16s ns)) (hns : ∀ n ∈ ns, n ≤ 65535) (hs : Sl w vs (i64s sc)) (hls : sc.length ≤ 1000000000) (hx : ∀ x ∈ sc, -9223372036854775808 ≤ x ∧ x ≤ 9223372036854775807) (hf1 : -9223372036854775808 ≤ fault) (hf2 : fault ≤ 9223372036854775807) (ha : Has w va al) :
    Calls Try.prog 11 #[.int .u64 start, v1, vs, .int .i64 fault, .int .i64 size, va] w fun e w' => e = .returned (.bool true) ∧ Nw w w' := by
  have HM1 := hid (fun w' (h : Nw w w') => make_c3 start h0 h64 v1 ns w' (hv1.nw h) hns)
  have HEE := hid (fun (x y : Value) w' (h1 : Sl w' x (Lx.strs pqr)) (h2 : Evs w' y (makeP start ns).evs) => rencode_c x y (makeP start ns) w' h1 h2 (make_small start h0 ns) (Nat.le_trans (make_len start h0 ns) (by decide)) (make_tb start h0 ns))
  have hme := make_enc start h0 ns
  have HPL := hid (fun v w' (hv : Bytes w' v (encP (makeP start ns))) (h : Nw w w') (hal : al.length ≤ 300) => plays_c v vs va _ sc fault size al w' hv (hs.nw h) (ha.nw h) (by omega) hls hx hal hf1 hf2)
  obtain ⟨pa, ka, rfl, hka, hkm, hk0, hac⟩ := ha
  obtain ⟨p5, k5, rfl, _, _, _, _⟩ := hv1.open (u16s_length ns)
  obtain ⟨ps, ks, rfl, _, _, _, _⟩ := hs.open (i64s_length sc)
  unfold maxLen at hkm
  clear hv1 hns hs hac hx hls
  generalize encP (makeP start ns) = em at *
  generalize makeP start ns = a at *
  by_cases hal : (300 : Int) < (al.length : Int)
  · have hd300 : decide ((300 : Int) < (al.length : Int)) = true := decide_eq_true hal
    have hd300n : decide (300 < al.length) = true := decide_eq_true (by omega)
    clear HEE HPL HM1
    go_enter Try.func11, Try.ntmps11
    go_wp2_with (first
      | (go_at_call 33; refine (awake_c _).mono ?_; rintro e' w12 ⟨rfl, hn12⟩)
      | fail)
    go_ret
    exact ⟨rfl, hn12⟩
  have hd300 : decide ((300 : Int) < (al.length : Int)) = false := decide_eq_false hal
  have hd300n : decide (300 < al.length) = false := decide_eq_false (by omega)
  have hal3 : al.length ≤ 300 := by omega
  clear hal
  go_enter Try.func11, Try.ntmps11
  go_wp2_with (first
    | (go_at_call 18; refine (HM1.out _ (Nw.refl _)).mono ?_; rintro e w2 ⟨q1, c1, q2, c2, rfl, hs1, he1, hn2⟩)
    | (go_at_call 17; refine (HEE.out _ _ _ hs1 he1).mono ?_; rintro e w3 ⟨v3, rfl, hown3, hn3⟩; have hbe : Bytes w3 v3 em := hown3.sl; obtain ⟨q3, c3, rfl, _⟩ := hbe.open)
    | (go_at_call 38; refine (HPL.out _ _ hbe (hn2.trans hn3) hal3).mono ?_; rintro e w4 ⟨rfl, hn4⟩)
    | (go_at_call 33; refine (awake_c _).mono ?_; rintro e' w12 ⟨rfl, hn12⟩)
    | fail)
  go_ret
  exact ⟨rfl, hn2.trans (hn3.trans (hn4.trans hn12))⟩
set_option maxRecDepth 20000 in
set_option maxHeartbeats 1600000 in
theorem headsraw_walk (vb : Value) (b : List UInt8) (start : Int) (h0 : 0 ≤ start) (h64 : start < 18446744073709551616) (v1 ve vs va : Value) (ns : List Nat) (at_ cut : Nat) (x : UInt8) (es : Es) (sc : List Int) (fault size : Int) (al : List Ha) (w : World) (hb : Bytes w vb b) (hbl : b.length ≤ 10000000) (hv1 : Sl w v1 (u16s ns)) (hns : ∀ n ∈ ns, n ≤ 65535) (hat : at_ ≤ 65535) (hcu : cut ≤ 65535)
    (hve : Evs w ve es) (htb : ∀ i, i < es.length → 0 ≤ tm es i ∧ tm es i < 18446744073709551616)
    (hs : Sl w vs (i64s sc)) (hls : sc.length ≤ 1000000000) (hx : ∀ x ∈ sc, -9223372036854775808 ≤ x ∧ x ≤ 9223372036854775807) (hf1 : -9223372036854775808 ≤ fault) (hf2 : fault ≤ 9223372036854775807) (ha : Has w va al) :
    Calls Try.prog 12 #[vb, .int .u64 start, v1, .int .u16 (at_ : Int), .int .u16 (cut : Int), .int .u8 (x.toNat : Int), ve, vs, .int .i64 fault, .int .i64 size, va] w fun e w' => e = .returned (.bool true) ∧ Nw w w' := by
  have HM1 := hid (fun w' (h : Nw w w') => make_c3 start h0 h64 v1 ns w' (hv1.nw h) hns)
  have HEE := hid (fun (x y : Value) w' (h1 : Sl w' x (Lx.strs pqr)) (h2 : Evs w' y (makeP start ns).evs) => rencode_c x y (makeP start ns) w' h1 h2 (make_small start h0 ns) (Nat.le_trans (make_len start h0 ns) (by decide)) (make_tb start h0 ns))
  have hme := make_enc start h0 ns
  have s1 := spoil_len (encP (makeP start ns)) [] at_ cut x
  have HSP := hid (fun (v : Value) w' (h1 : Bytes w' v (encP (makeP start ns))) => spoil_c v (.slice none 0 0) _ [] at_ cut x w' h1 (Sl.nil w') (by omega) (Nat.zero_le _) hat hcu)
  have HSE := hid (fun v w' (h : Nw w w') (hv : Sl w' v (Lx.strs pqr)) (h2 : es.length ≤ 300) h3 => sealed_c v ve pqr es w' hv (hve.nw h) (by decide) (by decide) h2 h3 htb)
  have HL1 := hid (fun h => sealP_len pqr es h)
  have HPL := hid (fun v B f w' (hv : Bytes w' v B) (h : Nw w w') (hl : B.length ≤ 20000000) (hal : al.length ≤ 300) h1 h2 => plays_c v vs va B sc f size al w' hv (hs.nw h) (ha.nw h) hl hls hx hal h1 h2)
  have HB := hid (fun w' (h : Nw w w') => hb.nw h)
  obtain ⟨pa, ka, rfl, hka, hkm, hk0, hac⟩ := ha
  obtain ⟨p4, k4, rfl, _, _, _, _⟩ := hb.open
  obtain ⟨p5, k5, rfl, _, _, _, _⟩ := hv1.open (u16s_length ns)
  obtain ⟨ps, ks, rfl, _, _, _, _⟩ := hs.open (i64s_length sc)
  obtain ⟨p, cap, rfl, hcap, hmx, hp0, hec⟩ := hve
  have HEC := hid hec
  unfold maxLen at hkm hmx
  clear hv1 hns hs hac hx hls hb hec hp0 htb
  generalize hY2 : spoilP (encP (makeP start ns)) at_ cut x [] = Y2 at *
  clear hY2
  rw [List.length_nil] at s1
  generalize encP (makeP start ns) = em at *
  generalize makeP start ns = a at *
  have hY2 : Y2.length ≤ 20000000 := by omega
  clear s1 hme
  by_cases hb1 : 300 < al.length ∨ 300 < es.length
  · by_cases hb2 : 300 < al.length
    · have hd1 : decide ((300 : Int) < al.length) = true := decide_eq_true (by omega)
      have hd1n : decide (300 < al.length) = true := decide_eq_true (by omega)
      clear HEE HPL HM1 HSP HSE HL1 HB HEC
      go_enter Try.func12, Try.ntmps12
      go_wp2_with (first
        | (go_at_call 33; refine (awake_c _).mono ?_; rintro e' w12 ⟨rfl, hn12⟩)
        | fail)
      go_ret
      exact ⟨rfl, hn12⟩
    · have hd1 : decide ((300 : Int) < al.length) = false := decide_eq_false (by omega)
      have hd1n : decide (300 < al.length) = false := decide_eq_false (by omega)
      have hd2 : decide ((300 : Int) < es.length) = true := decide_eq_true (by omega)
      have hd2n : decide (300 < es.length) = true := decide_eq_true (by omega)
      clear HEE HPL HM1 HSP HSE HL1 HB HEC
      go_enter Try.func12, Try.ntmps12
      go_wp2_with (first
        | (go_at_call 33; refine (awake_c _).mono ?_; rintro e' w12 ⟨rfl, hn12⟩)
        | fail)
      go_ret
      exact ⟨rfl, hn12⟩
  have hd1 : decide ((300 : Int) < al.length) = false := decide_eq_false (by omega)
  have hd1n : decide (300 < al.length) = false := decide_eq_false (by omega)
  have hd2 : decide ((300 : Int) < es.length) = false := decide_eq_false (by omega)
  have hd2n : decide (300 < es.length) = false := decide_eq_false (by omega)
  have hln : al.length ≤ 300 := by omega
  have hel : es.length ≤ 300 := by omega
  clear hb1
  go_enter Try.func12, Try.ntmps12
  go_upto_region 4 with fail
  go_loopw [24, 36] (fun _ i wr => ∃ j : Nat, j ≤ es.length ∧ i = .int .i64 j ∧ Hid (∀ i, i < j → (ids es i).length ≤ 300) ∧ Nw w wr) (fun _ i _ => es.length - (intOf i).toNat)
  case atStart => exact ⟨0, Nat.zero_le _, rfl, hid (fun i hi => by omega), Nw.refl _⟩
  case round =>
    obtain ⟨j, hj, rfl, HJ0, hn⟩ := hrel
    by_cases hlt : j < es.length
    · have hdj : decide (j < es.length) = true := decide_eq_true hlt
      obtain ⟨b2, o2, vi, e2, c0, c1', hsv⟩ := HEC.out j hlt
      replace c0 := hn.cell c0
      replace c1' := hn.cell c1'
      subst e2
      obtain ⟨pi, ci, rfl, _⟩ := i64s_open hsv
      have gb1 := World.block_lt_of_cell? wr _ c0
      simp only at gb1
      generalize tm es j = tj at *
      have HJ := hid (fun (h : (ids es j).length ≤ 300) => show ∀ i, i < j + 1 → (ids es i).length ≤ 300 from fun i hi => by
        by_cases hij : i = j
        · rw [hij]; exact h
        · exact HJ0.out i (by omega))
      generalize (ids es j).length = il at *
      clear hsv
      go_upto_region 6 with fail
      obtain ⟨z0, z1⟩ := box2 wr (.int .u64 tj) (.slice pi il ci) 38
      have hnz := (Nw.refl wr).alloc (.cells #[.int .u64 tj, .slice pi il ci] 38)
      have lz := lt_alloc wr (.cells #[.int .u64 tj, .slice pi il ci] 38)
      have hn' := hn.trans hnz
      clear hnz c0 c1' gb1 hn
      generalize wr.alloc (.cells #[.int .u64 tj, .slice pi il ci] 38) = wz at *
      generalize wr.heap.size = g19 at *
      by_cases h3 : 300 < il
      · have hd3 : decide ((300 : Int) < il) = true := decide_eq_true (by omega)
        have hd3n : decide (300 < il) = true := decide_eq_true (by omega)
        go_wp2_with (first
          | (go_at_call 33; refine (awake_c _).mono ?_; rintro e' w12 ⟨rfl, hn12⟩)
          | fail)
        go_ret
        exact ⟨rfl, hn'.trans hn12⟩
      · have hd3 : decide ((300 : Int) < il) = false := decide_eq_false (by omega)
        have hd3n : decide (300 < il) = false := decide_eq_false (by omega)
        go_wp2
        go_roundw
        case rel => exact ⟨j + 1, by omega, by go_num, hid (HJ.out (by omega)), hn'⟩
        case measure => (simp [intOf] <;> omega)
    · obtain rfl : j = es.length := by omega
      have hdj : decide (es.length < es.length) = false := decide_eq_false (by omega)
      have HC1 := hid (fun v w' (h : Nw w w') hv => HSE.out v w' h hv hel HJ0.out)
      have hl1 := HL1.out HJ0.out
      have hpl : (nmsS pqr).length = 6 := by decide
      generalize sealP pqr es = Y3 at *
      have hY3 : Y3.length ≤ 20000000 := by omega
      clear hl1 hpl HL1 HJ0 HEC HSE
      have HP1 := hid (fun w' (h : Nw w w') => HPL.out _ b fault w' (HB.out w' h) h (by omega) hln hf1 hf2)
      have HP2 := hid (fun v w' (hv : Bytes w' v Y2) (h : Nw w w') => HPL.out v Y2 fault w' hv h hY2 hln hf1 hf2)
      have HP3 := hid (fun v w' (hv : Bytes w' v Y3) (h : Nw w w') => HPL.out v Y3 (-1) w' hv h hY3 hln (by omega) (by omega))
      clear HPL HB
      go_wp2_with (first
        | (go_at_call 38; (with_reducible refine (HP1.out _ hn).mono ?_); rintro e w1 ⟨rfl, hn1⟩)
        | (go_at_call 18; refine (HM1.out _ (hn.trans hn1)).mono ?_; rintro e w2 ⟨q1, c1, q2, c2, rfl, hs1, he1, hn2⟩)
        | (go_at_call 17; refine (HEE.out _ _ _ hs1 he1).mono ?_; rintro e w3 ⟨v3, rfl, hown3, hn3⟩; have hbe : Bytes w3 v3 em := hown3.sl; obtain ⟨q3, c3, rfl, _⟩ := hbe.open; have hw3 := hn.trans (hn1.trans (hn2.trans hn3)))
        | (go_at_call 16; refine (HSP.out _ _ hbe).mono ?_; rintro e w4 ⟨v4, rfl, hown4, hn4⟩; have hs4 : Bytes w4 v4 Y2 := hown4.sl; obtain ⟨q4, c4, rfl, _⟩ := hs4.open)
        | (go_at_call 38; (with_reducible refine (HP2.out _ _ hs4 (hw3.trans hn4)).mono ?_); rintro e w5 ⟨rfl, hn5⟩; have hw5 := hw3.trans (hn4.trans hn5))
        | (go_at_call 19; refine (HC1.out _ _ (hw5.alloc _) (pqr_new w5 _ rfl)).mono ?_; rintro e w6 ⟨v6, rfl, hown6, hn6⟩; have hs6 : Bytes w6 v6 Y3 := hown6.sl; obtain ⟨q6, c6, rfl, _⟩ := hs6.open)
        | (go_at_call 38; (with_reducible refine (HP3.out _ _ hs6 ((hw5.alloc _).trans hn6)).mono ?_); rintro e w7 ⟨rfl, hn7⟩)
        | (go_at_call 33; refine (awake_c _).mono ?_; rintro e' w12 ⟨rfl, hn12⟩)
        | fail)
      go_ret
      exact ⟨rfl, (hw5.alloc _).trans (hn6.trans (hn7.trans hn12))⟩
end Hp
end Go.Proofs.Ytdihoedehmfgfaa
