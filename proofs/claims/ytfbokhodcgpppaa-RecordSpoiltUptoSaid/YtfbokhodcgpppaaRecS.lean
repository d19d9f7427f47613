/- RecordSpoilt walked: for any time, bits, names, places, bytes it returns true. No condition but lengths. -/
import Derived.Test.YtfbokhodcgpppaaRecM
import Derived.Test.YtfbokhodcgpppaaMkF
import Derived.Test.YtfbokhodcgpppaaAppF
namespace Go.Proofs.Ytfbokhodcgpppaa
open Go.ChangeShapes Go.WideShapes Go.ChangeAt Go.RowKit
namespace Rec
open Go.Proofs.Ytfbokhodcgpppaa.Sum (Hands8 byte byte_val)
def forged (I : List UInt8) (z : UInt8) : List UInt8 := (((List.replicate 10 0 ++ I).set 0 (byte ((8 + (I.length : Int)) / 256))).set 1 (byte ((8 + (I.length : Int)) % 256))).set 9 z
theorem forged_len (I : List UInt8) (z : UInt8) : (forged I z).length = 10 + I.length := by simp [forged]; omega
set_option maxRecDepth 20000 in
set_option maxHeartbeats 900000 in
theorem spoilt_walk (vi vr : Value) (ids0 rest : List UInt8) (p : Int) (t : Int) (x : Words.Wd) (at_ : Nat) (z : UInt8) (cut : Nat) (w : World) (hi : Bytes w vi ids0) (hr : Bytes w vr rest) (hli : ids0.length ≤ 100000000) (hlr : rest.length ≤ 100000000)
    (hp1 : -9223372036854775808 ≤ p) (hp2 : p ≤ 9223372036854775807) (h0 : 0 ≤ t) (h1 : t < 18446744073709551616) (hat : at_ ≤ 255) (hcu : cut ≤ 255) :
    Calls Try.prog 11 #[.int .u64 t, .int .u64 (x.toNat : Int), .int .i64 p, .int .u8 (at_ : Int), .int .u8 (z.toNat : Int), .int .u8 (cut : Int), vi, vr] w fun e w' => e = .returned (.bool true) ∧ Nw w w' := by
  obtain ⟨q, cap, rfl, hcap, hmx, _, hci⟩ := hi.open
  obtain ⟨q2, cap2, rfl, hcap2, hmx2, _, _⟩ := hr.open
  have hev := fun w => event_c t x w h0 h1
  have hri := ids_rise x
  have hml := ids_len x
  generalize ids x = m at *
  have HEV := hid hev
  have hrl := rec_len t m
  have HPE := hid (show putE [] t m = rec_ t m by rw [putE_yes hri]; rfl)
  generalize rec_ t m = Rb at *
  obtain ⟨D, hD⟩ : ∃ D, D = Rb ++ rest := ⟨_, rfl⟩
  have hDl : D.length = Rb.length + rest.length := by rw [hD, List.length_append]
  have HD := hid (show [] ++ u8s Rb ++ u8s rest = u8s D by rw [List.nil_append, u8s_append, hD])
  obtain ⟨cu, hcu2⟩ : ∃ cu, cu = cut % 7 := ⟨_, rfl⟩
  have hcu7 : cu ≤ 6 := by omega
  have hcm : (cut : Int) % 7 = (cu : Int) := by omega
  obtain ⟨M, hM⟩ : ∃ M, D.length = M + cu := ⟨D.length - cu, by omega⟩
  have hMb : M ≤ 200000000 := by omega
  have hMpos : 0 < M := by omega
  have hNp : 0 < M + cu := by omega
  have hN0 : M + cu ≠ 0 := by omega
  have hRb : Rb.length ≤ 100 := by omega
  have hdl : (((M + cu : Nat) : Int) == 0) = false := beq_eq_false_iff_ne.2 (by omega)
  have hxl : (u8s D).length = M + cu := by rw [u8s_length]; exact hM
  have HXL := hid hxl
  obtain ⟨j, hj⟩ : ∃ j, j = at_ % (M + cu) := ⟨_, rfl⟩
  have hjL : j < M + cu := by rw [hj]; exact Nat.mod_lt _ (by omega)
  have hmod : (at_ : Int) % ((M : Int) + (cu : Int)) = (j : Int) := by rw [hj, show ((M : Int) + (cu : Int)) = ((M + cu : Nat) : Int) by omega, ← Int.natCast_emod]
  have htm : (at_ : Int).tmod ((M : Int) + (cu : Int)) = (j : Int) := by rw [Int.tmod_eq_emod_of_nonneg (by omega)]; exact hmod
  obtain ⟨y, hy⟩ : ∃ y, D[j]? = some y := ⟨D[j]'(by omega), by rw [List.getElem?_eq_getElem]⟩
  have hxv := xor_val y z
  have HM := hid hM
  clear hev hri hxl hrl hD hDl hj hM hcu2
  go_enter Try.func11, Try.ntmps11
  go_upto_region 4 with (first
    | (go_at_call 18; refine (HEV.out _).mono ?_; rintro e w1 ⟨v1, rfl, hs1, hn1⟩; obtain ⟨p1, c1, rfl, _⟩ := i64s_open hs1)
    | (go_at_call 19; refine (put_c _ _ [] t m _ (Bytes.nil _) (hs1.nw (by repeat (first | assumption | exact Nw.refl _ | refine Nw.alloc ?_ _ | refine Nw.drew ?_ | refine Nw.drewN2 ?_ _ | (refine Nw.trans ?_ (by assumption))))) h0 h1 (by simp)).mono ?_; rintro e w2 ⟨v2, rfl, hown2, hn2⟩; rw [HPE.out] at hown2; obtain ⟨p2, c2, rfl, _⟩ := hown2.sl.open (n := Rb.length) (u8s_length _))
    | (at_builtin; refine app1 rfl _ _ _ rfl _ _ _ Try.underlying22 info_u8 rfl (by decide) (hn2) (hown2) rfl (hr.nw (by repeat (first | assumption | exact Nw.refl _ | refine Nw.alloc ?_ _ | refine Nw.drew ?_ | refine Nw.drewN2 ?_ _ | (refine Nw.trans ?_ (by assumption))))) rfl (u8s_one _) ?_ ?_; rotate_left; (simp only [u8s_length]; omega); intro v3 w3 hown3 hg3 hn3; rw [← List.nil_append (u8s Rb), HD.out] at hown3; obtain ⟨g, c3, rfl, hB, hc3', hm3, hown, hcs⟩ := own_at hown3 HXL.out (by omega); clear hown2)
    | fail)
  have q1 := hown.cell HXL.out.symm j (by rw [HXL.out]; omega)
  rw [u8s_get D j y hy] at q1
  have q2 := hown.frozen HXL.out.symm j
  have q3 := hown.set HXL.out.symm j (.int .u8 ((y.toNat ^^^ z.toNat : Nat) : Int))
  rw [show (u8s D).set j (.int .u8 ((y.toNat ^^^ z.toNat : Nat) : Int)) = u8s (D.set j (y ^^^ z)) by rw [u8s_set, UInt8.toNat_xor]] at q3
  have hw3 : Nw w w3 := (by repeat (first | assumption | exact Nw.refl _ | refine Nw.alloc ?_ _ | refine Nw.drew ?_ | refine Nw.drewN2 ?_ _ | (refine Nw.trans ?_ (by assumption))))
  have q5 : Nw w (w3.setCell ⟨g, j, none⟩ (.int .u8 ((y.toNat ^^^ z.toNat : Nat) : Int))) := hw3.setCell (Nat.le_trans (Nw.size (show Nw w w1 from (by repeat (first | assumption | exact Nw.refl _ | refine Nw.alloc ?_ _ | refine Nw.drew ?_ | refine Nw.drewN2 ?_ _ | (refine Nw.trans ?_ (by assumption)))))) hB) _
  have q4 : Bytes (w3.setCell ⟨g, j, none⟩ (.int .u8 ((y.toNat ^^^ z.toNat : Nat) : Int))) (.slice (some ⟨g, 0, none⟩) (M + cu) c3) (D.set j (y ^^^ z)) := by
    have := q3.sl
    exact this
  have q6 := bytes_take q4 M (by rw [List.length_set, HM.out]; omega)
  obtain ⟨Y, hY⟩ : ∃ Y, Y = (D.set j (y ^^^ z)).take M := ⟨_, rfl⟩
  rw [← hY] at q6
  have hYl : Y.length ≤ 1000000000 := by rw [hY, List.length_take]; omega
  clear hown hcs q3 q4 hY hs1 hn1 hn2 hn3 hw3 hown3
  go_upto_region 5 with fail
  generalize hW : w3.setCell ⟨g, j, none⟩ (.int .u8 ((y.toNat ^^^ z.toNat : Nat) : Int)) = w4 at *
  clear hW q1 q2
  have hi4 := hi.nw q5
  have hr4 := hr.nw q5
  have hmin : min ((M : Int) + (cu : Int)) (cu : Int) = (cu : Int) := by omega
  have hMc : M ≤ c3 := by omega
  have hMp : (cu : Int) < (M : Int) + (cu : Int) := by omega
  clear hi hr hci
  by_cases h70 : ids0.length ≤ 70
  · have hd70 : decide ((70 : Int) < ids0.length) = false := decide_eq_false (by omega)
    have hIR := hi4
    have hIl : ids0.length ≤ 70 := h70
    generalize hI : ids0 = I at *
    clear hI
    -- I: the ids as they stand, at most seventy
    obtain ⟨C, hC⟩ : ∃ C, C = forged I z := ⟨_, rfl⟩
    obtain ⟨P2, hP2⟩ : ∃ P2, P2 = Sum.put C := ⟨_, rfl⟩
    have hCl : C.length = 10 + I.length := by rw [hC, forged_len]
    have hCb : C.length ≤ 1073741824 := by omega
    have hP2l : P2.length ≤ 1000000000 := by rw [hP2, put_len]; omega
    have hP2m : P2.length ≤ 1000 := by rw [hP2, put_len]; omega
    have HC := hid hC
    have HP2 := hid hP2
    have HCl := hid hCl
    clear hC hP2 hCl
    go_upto_region 10 with (first
      | (at_make; refine mk1f rfl _ _ _ rfl _ _ _ Try.underlying22 info_u8 (by decide) rfl (Nw.refl w4) 10 rfl rfl ?_ ?_ ?_ ?_; rotate_left; rfl; rfl; omega; intro w5 hown5 hn5 hg5)
      | (at_builtin; refine app1 rfl _ _ _ rfl _ _ _ Try.underlying22 info_u8 rfl (by decide) (hn5) (hown5) rfl ((hIR.nw hn5)) rfl (u8s_one _) ?_ ?_; rotate_left; (simp [u8s]; omega); intro v6 w6 hown6 hg6 hn6; obtain ⟨g6, c6, rfl, hB6, hc6', hm6, hown6b, hcs6⟩ := own_at hown6 (n := 10 + I.length) (by simp [u8s]; omega) (by omega)))
    have hw6 : Nw w w6 := q5.trans hn6
    have o1 := hown6b.cell (n := 10 + I.length) (by simp [u8s]; omega) 0 (by simp [u8s])
    have o2 := hown6b.cell (n := 10 + I.length) (by simp [u8s]; omega) 1 (by simp [u8s])
    have o3 := hown6b.cell (n := 10 + I.length) (by simp [u8s]; omega) 9 (by simp [u8s])
    simp [List.replicate] at o1 o2 o3
    have f1 := hown6b.frozen (n := 10 + I.length) (by simp [u8s]; omega) 0
    have f2 := hown6b.frozen (n := 10 + I.length) (by simp [u8s]; omega) 1
    have f3 := hown6b.frozen (n := 10 + I.length) (by simp [u8s]; omega) 9
    have s1 := ((hown6b.set (n := 10 + I.length) (by simp [u8s]; omega) 0 (.int .u8 ((8 + (I.length : Int)) / 256))).set (n := 10 + I.length) (by simp [u8s]; omega) 1 (.int .u8 ((8 + (I.length : Int)) % 256))).set (n := 10 + I.length) (by simp [u8s]; omega) 9 (.int .u8 (z.toNat : Int))
    have hfx : (((List.replicate 10 (Value.int .u8 0) ++ u8s I).set 0 (.int .u8 ((8 + (I.length : Int)) / 256))).set 1 (.int .u8 ((8 + (I.length : Int)) % 256))).set 9 (.int .u8 (z.toNat : Int)) = u8s C := by
      rw [HC.out]
      unfold forged
      rw [u8s_set, u8s_set, u8s_set, byte_val _ (by omega) (by omega), byte_val _ (by omega) (by omega), ← u8s_append]
      rfl
    rw [hfx] at s1
    have hw10 : Nw w (((w6.setCell ⟨g6, 0, none⟩ (.int .u8 ((8 + (I.length : Int)) / 256))).setCell ⟨g6, 1, none⟩ (.int .u8 ((8 + (I.length : Int)) % 256))).setCell ⟨g6, 9, none⟩ (.int .u8 (z.toNat : Int))) := ((hw6.setCell (p := ⟨g6, 0, none⟩) (Nat.le_trans q5.size hB6) _).setCell (p := ⟨g6, 1, none⟩) (Nat.le_trans q5.size hB6) _).setCell (p := ⟨g6, 9, none⟩) (Nat.le_trans q5.size hB6) _
    have hw410 : Nw w4 (((w6.setCell ⟨g6, 0, none⟩ (.int .u8 ((8 + (I.length : Int)) / 256))).setCell ⟨g6, 1, none⟩ (.int .u8 ((8 + (I.length : Int)) % 256))).setCell ⟨g6, 9, none⟩ (.int .u8 (z.toNat : Int))) := ((hn6.setCell (p := ⟨g6, 0, none⟩) hB6 _).setCell (p := ⟨g6, 1, none⟩) hB6 _).setCell (p := ⟨g6, 9, none⟩) hB6 _
    have hbC := s1.sl
    have hbY := q6.nw hw410
    have hbR := hr4.nw hw410
    clear hfx hown6b hown6 hcs6 s1 q6 hr4 hown5 hn5 hg5 hg6 hg3 hIR
    go_upto_region 11 with fail
    generalize hW10 : (((w6.setCell ⟨g6, 0, none⟩ (.int .u8 ((8 + (I.length : Int)) / 256))).setCell ⟨g6, 1, none⟩ (.int .u8 ((8 + (I.length : Int)) % 256))).setCell ⟨g6, 9, none⟩ (.int .u8 (z.toNat : Int))) = w10 at *
    clear hW10 hw410 o1 o2 o3 f1 f2 f3
    obtain ⟨E2, hE2⟩ : ∃ E2, E2 = P2 ++ rest := ⟨_, rfl⟩
    have hE2l : E2.length ≤ 1000000000 := by rw [hE2, List.length_append]; omega
    have HE2 := hid hE2
    have hbC2 : Bytes w10 (.slice (some ⟨g6, 0, none⟩) (10 + I.length) c6) C := hbC
    clear hE2 hbC
    go_wp2_with (first
      | (go_at_call 25; refine (got_c _ _ _ _ (Bytes.nw (by assumption) (by repeat (first | assumption | exact Nw.refl _ | refine Nw.alloc ?_ _ | refine Nw.drew ?_ | refine Nw.drewN2 ?_ _ | (refine Nw.trans ?_ (by assumption))))) (by assumption) hp1 hp2).mono ?_; rintro e wG ⟨rfl, hnG⟩)
      | (go_at_call 26; refine (Sum.rput_c _ C _ (hbC2.nw (by repeat (first | assumption | exact Nw.refl _ | refine Nw.alloc ?_ _ | refine Nw.drew ?_ | refine Nw.drewN2 ?_ _ | (refine Nw.trans ?_ (by assumption))))) hCb).mono ?_; rintro e wP ⟨vP, rfl, hownP, hnP⟩; rw [← HP2.out] at hownP; have hbP : Bytes wP vP P2 := hownP.sl; obtain ⟨pP, cP, rfl, _⟩ := hbP.open)
      | (at_builtin; refine unguard (by rfl) ?_; refine app1 rfl _ _ _ rfl _ _ _ Try.underlying22 info_u8 rfl (by decide) hnP hownP rfl (hbR.nw (by repeat (first | assumption | exact Nw.refl _ | refine Nw.alloc ?_ _ | refine Nw.drew ?_ | refine Nw.drewN2 ?_ _ | (refine Nw.trans ?_ (by assumption))))) rfl (u8s_one _) ?_ ?_; rotate_left; (simp only [u8s_length]; omega); intro vE wE hownE hgE hnE; have hbE : Bytes wE vE E2 := (by unfold Bytes; rw [HE2.out, ← u8s_append]; exact hownE.sl); obtain ⟨pE, cE, rfl, _⟩ := hbE.open)
      | (go_at_call 21; refine (awake_c _).mono ?_; rintro e wA ⟨rfl, hnA⟩)
      | fail)
    go_ret
    exact ⟨rfl, hw10.trans (by repeat (first | assumption | exact Nw.refl _ | refine Nw.alloc ?_ _ | refine Nw.drew ?_ | refine Nw.drewN2 ?_ _ | (refine Nw.trans ?_ (by assumption))))⟩
  · have hd70 : decide ((70 : Int) < ids0.length) = true := decide_eq_true (by omega)
    have hIR := bytes_take hi4 70 (by omega)
    have hIl : (ids0.take 70).length = 70 := by rw [List.length_take]; omega
    have hcap70 : 70 ≤ cap := by omega
    clear hi4
    generalize ids0.take 70 = I at *
    go_upto_region 8 with fail
    rw [← hIl] at hIR ⊢
    have hIl2 : I.length ≤ 70 := by omega
    clear hIl hd70 h70
    have hIl := hIl2
    clear hIl2
    -- I: the ids as they stand, at most seventy
    obtain ⟨C, hC⟩ : ∃ C, C = forged I z := ⟨_, rfl⟩
    obtain ⟨P2, hP2⟩ : ∃ P2, P2 = Sum.put C := ⟨_, rfl⟩
    have hCl : C.length = 10 + I.length := by rw [hC, forged_len]
    have hCb : C.length ≤ 1073741824 := by omega
    have hP2l : P2.length ≤ 1000000000 := by rw [hP2, put_len]; omega
    have hP2m : P2.length ≤ 1000 := by rw [hP2, put_len]; omega
    have HC := hid hC
    have HP2 := hid hP2
    have HCl := hid hCl
    clear hC hP2 hCl
    go_upto_region 10 with (first
      | (at_make; refine mk1f rfl _ _ _ rfl _ _ _ Try.underlying22 info_u8 (by decide) rfl (Nw.refl w4) 10 rfl rfl ?_ ?_ ?_ ?_; rotate_left; rfl; rfl; omega; intro w5 hown5 hn5 hg5)
      | (at_builtin; refine app1 rfl _ _ _ rfl _ _ _ Try.underlying22 info_u8 rfl (by decide) (hn5) (hown5) rfl ((hIR.nw hn5)) rfl (u8s_one _) ?_ ?_; rotate_left; (simp [u8s]; omega); intro v6 w6 hown6 hg6 hn6; obtain ⟨g6, c6, rfl, hB6, hc6', hm6, hown6b, hcs6⟩ := own_at hown6 (n := 10 + I.length) (by simp [u8s]; omega) (by omega)))
    have hw6 : Nw w w6 := q5.trans hn6
    have o1 := hown6b.cell (n := 10 + I.length) (by simp [u8s]; omega) 0 (by simp [u8s])
    have o2 := hown6b.cell (n := 10 + I.length) (by simp [u8s]; omega) 1 (by simp [u8s])
    have o3 := hown6b.cell (n := 10 + I.length) (by simp [u8s]; omega) 9 (by simp [u8s])
    simp [List.replicate] at o1 o2 o3
    have f1 := hown6b.frozen (n := 10 + I.length) (by simp [u8s]; omega) 0
    have f2 := hown6b.frozen (n := 10 + I.length) (by simp [u8s]; omega) 1
    have f3 := hown6b.frozen (n := 10 + I.length) (by simp [u8s]; omega) 9
    have s1 := ((hown6b.set (n := 10 + I.length) (by simp [u8s]; omega) 0 (.int .u8 ((8 + (I.length : Int)) / 256))).set (n := 10 + I.length) (by simp [u8s]; omega) 1 (.int .u8 ((8 + (I.length : Int)) % 256))).set (n := 10 + I.length) (by simp [u8s]; omega) 9 (.int .u8 (z.toNat : Int))
    have hfx : (((List.replicate 10 (Value.int .u8 0) ++ u8s I).set 0 (.int .u8 ((8 + (I.length : Int)) / 256))).set 1 (.int .u8 ((8 + (I.length : Int)) % 256))).set 9 (.int .u8 (z.toNat : Int)) = u8s C := by
      rw [HC.out]
      unfold forged
      rw [u8s_set, u8s_set, u8s_set, byte_val _ (by omega) (by omega), byte_val _ (by omega) (by omega), ← u8s_append]
      rfl
    rw [hfx] at s1
    have hw10 : Nw w (((w6.setCell ⟨g6, 0, none⟩ (.int .u8 ((8 + (I.length : Int)) / 256))).setCell ⟨g6, 1, none⟩ (.int .u8 ((8 + (I.length : Int)) % 256))).setCell ⟨g6, 9, none⟩ (.int .u8 (z.toNat : Int))) := ((hw6.setCell (p := ⟨g6, 0, none⟩) (Nat.le_trans q5.size hB6) _).setCell (p := ⟨g6, 1, none⟩) (Nat.le_trans q5.size hB6) _).setCell (p := ⟨g6, 9, none⟩) (Nat.le_trans q5.size hB6) _
    have hw410 : Nw w4 (((w6.setCell ⟨g6, 0, none⟩ (.int .u8 ((8 + (I.length : Int)) / 256))).setCell ⟨g6, 1, none⟩ (.int .u8 ((8 + (I.length : Int)) % 256))).setCell ⟨g6, 9, none⟩ (.int .u8 (z.toNat : Int))) := ((hn6.setCell (p := ⟨g6, 0, none⟩) hB6 _).setCell (p := ⟨g6, 1, none⟩) hB6 _).setCell (p := ⟨g6, 9, none⟩) hB6 _
    have hbC := s1.sl
    have hbY := q6.nw hw410
    have hbR := hr4.nw hw410
    clear hfx hown6b hown6 hcs6 s1 q6 hr4 hown5 hn5 hg5 hg6 hg3 hIR
    go_upto_region 11 with fail
    generalize hW10 : (((w6.setCell ⟨g6, 0, none⟩ (.int .u8 ((8 + (I.length : Int)) / 256))).setCell ⟨g6, 1, none⟩ (.int .u8 ((8 + (I.length : Int)) % 256))).setCell ⟨g6, 9, none⟩ (.int .u8 (z.toNat : Int))) = w10 at *
    clear hW10 hw410 o1 o2 o3 f1 f2 f3
    obtain ⟨E2, hE2⟩ : ∃ E2, E2 = P2 ++ rest := ⟨_, rfl⟩
    have hE2l : E2.length ≤ 1000000000 := by rw [hE2, List.length_append]; omega
    have HE2 := hid hE2
    have hbC2 : Bytes w10 (.slice (some ⟨g6, 0, none⟩) (10 + I.length) c6) C := hbC
    clear hE2 hbC
    go_wp2_with (first
      | (go_at_call 25; refine (got_c _ _ _ _ (Bytes.nw (by assumption) (by repeat (first | assumption | exact Nw.refl _ | refine Nw.alloc ?_ _ | refine Nw.drew ?_ | refine Nw.drewN2 ?_ _ | (refine Nw.trans ?_ (by assumption))))) (by assumption) hp1 hp2).mono ?_; rintro e wG ⟨rfl, hnG⟩)
      | (go_at_call 26; refine (Sum.rput_c _ C _ (hbC2.nw (by repeat (first | assumption | exact Nw.refl _ | refine Nw.alloc ?_ _ | refine Nw.drew ?_ | refine Nw.drewN2 ?_ _ | (refine Nw.trans ?_ (by assumption))))) hCb).mono ?_; rintro e wP ⟨vP, rfl, hownP, hnP⟩; rw [← HP2.out] at hownP; have hbP : Bytes wP vP P2 := hownP.sl; obtain ⟨pP, cP, rfl, _⟩ := hbP.open)
      | (at_builtin; refine unguard (by rfl) ?_; refine app1 rfl _ _ _ rfl _ _ _ Try.underlying22 info_u8 rfl (by decide) hnP hownP rfl (hbR.nw (by repeat (first | assumption | exact Nw.refl _ | refine Nw.alloc ?_ _ | refine Nw.drew ?_ | refine Nw.drewN2 ?_ _ | (refine Nw.trans ?_ (by assumption))))) rfl (u8s_one _) ?_ ?_; rotate_left; (simp only [u8s_length]; omega); intro vE wE hownE hgE hnE; have hbE : Bytes wE vE E2 := (by unfold Bytes; rw [HE2.out, ← u8s_append]; exact hownE.sl); obtain ⟨pE, cE, rfl, _⟩ := hbE.open)
      | (go_at_call 21; refine (awake_c _).mono ?_; rintro e wA ⟨rfl, hnA⟩)
      | fail)
    go_ret
    exact ⟨rfl, hw10.trans (by repeat (first | assumption | exact Nw.refl _ | refine Nw.alloc ?_ _ | refine Nw.drew ?_ | refine Nw.drewN2 ?_ _ | (refine Nw.trans ?_ (by assumption))))⟩
end Rec
end Go.Proofs.Ytfbokhodcgpppaa
