/- RecordTells walked: for any time, bits, place and byte it returns true. No condition. -/
import Derived.Test.YtfbokhodcgpppaaRecJ
namespace Go.Proofs.Ytfbokhodcgpppaa
open Go.ChangeShapes Go.WideShapes Go.ChangeAt Go.RowKit
namespace Rec
open Go.Proofs.Ytfbokhodcgpppaa.Sum (Hands8)
set_option maxRecDepth 20000 in
set_option maxHeartbeats 900000 in
theorem tells_walk (t : Int) (x : Words.Wd) (at_ : Nat) (z : UInt8) (w : World) (h0 : 0 ≤ t) (h1 : t < 18446744073709551616) (hat : at_ ≤ 255) :
    Calls Try.prog 7 #[.int .u64 t, .int .u64 (x.toNat : Int), .int .u8 (at_ : Int), .int .u8 (z.toNat : Int)] w fun e w' => e = .returned (.bool true) ∧ Nw w w' := by
  have hev := fun w => event_c t x w h0 h1
  have hri := ids_rise x
  have hml := ids_len x
  generalize ids x = m at *
  have HEV := hid hev
  have HRI := hid hri
  have HLAST := hid (fun (hp : 0 < m.length) => get_last t m (m.getD (m.length - 1) 0) h0 h1 hri hp rfl)
  have HFW := hid (fun (hp : 0 < m.length) => get_few t m h0 h1 hri hp)
  have HFL := hid (fun i y z => get_flip t m i y z hri)
  have HFR := hid (fun k => get_front t m k hri)
  have hrl := rec_len t m
  have HPE := hid (show putE [] t m = rec_ t m by rw [putE_yes hri]; rfl)
  generalize rec_ t m = Rb at *
  obtain ⟨L2, hL2⟩ : ∃ L2, L2 = 12 + m.length := ⟨_, rfl⟩
  have hRl : Rb.length = L2 + 2 := by omega
  have HRl := hid hRl
  have hRbl : Rb.length ≤ 1000000000 := by omega
  have hrl2 : 14 + m.length = L2 + 2 := by omega
  rw [hrl2] at HFR HFL
  have hLb : L2 ≤ 100 := by omega
  have hLp : 12 ≤ L2 := by omega
  have hd14 : decide ((L2 : Int) + 2 < 14) = false := decide_eq_false (by omega)
  have hxl : (u8s Rb).length = L2 + 2 := by rw [u8s_length]; exact hRl
  have HXL := hid hxl
  clear hev hri hL2 hxl hrl hRl hrl2
  go_enter Try.func7, Try.ntmps7
  go_wp2_with (first
    | (go_at_call 18; refine (HEV.out _).mono ?_; rintro e w1 ⟨v1, rfl, hs1, hn1⟩; obtain ⟨p1, c1, rfl, _⟩ := i64s_open hs1)
    | (go_at_call 19; refine (put_c _ _ [] t m _ (Bytes.nil _) (hs1.nw (by repeat (first | assumption | exact Nw.refl _ | refine Nw.alloc ?_ _ | refine Nw.drew ?_ | refine Nw.drewN2 ?_ _ | (refine Nw.trans ?_ (by assumption))))) h0 h1 (by simp)).mono ?_; rintro e w2 ⟨v2, rfl, hown2, hn2⟩; rw [HPE.out] at hown2; obtain ⟨g, c2, rfl, hB, hc2', hm2, hown, hcs⟩ := own_at hown2 HXL.out (by omega); obtain ⟨hj1, hj2, hj3⟩ := nwc hn2)
    | fail)
  have hnw : Nw w w2 := (by repeat (first | assumption | exact Nw.refl _ | refine Nw.alloc ?_ _ | refine Nw.drew ?_ | refine Nw.drewN2 ?_ _ | (refine Nw.trans ?_ (by assumption))))
  have k0 : w2.cell? ⟨w1.heap.size, 0, none⟩ = some (.int .u64 t) := hn2.cell (by simp)
  have k1 : w2.cell? ⟨w1.heap.size, 1, none⟩ = some (.slice p1 m.length c1) := hn2.cell (by simp)
  have hs2 : Sl w2 (.slice p1 m.length c1) (i64s m) := hs1.nw (((Nw.refl w1).alloc _).trans hn2)
  have hb2 : Bytes w2 (.slice (some ⟨g, 0, none⟩) (L2 + 2) c2) Rb := hown.sl
  have HC := hid hcs
  clear hj1 hj2 hj3 hcs hown hown2 hs1
  go_loopw [11, 12, 13, 14, 37] (fun _ _ _ _ i wr => ∃ k : Nat, k ≤ L2 + 2 ∧ i = .int .i64 k ∧ Nw w2 wr) (fun _ _ _ _ i _ => L2 + 2 - (intOf i).toNat)
  case atStart => exact ⟨0, by omega, rfl, Nw.refl _⟩
  case round =>
    obtain ⟨k, hk, rfl, hn⟩ := hrel
    by_cases hlt : k < L2 + 2
    · have hdk : decide ((k : Int) < (L2 : Int) + 2) = true := decide_eq_true (by omega)
      have hgk := HFR.out k hlt
      have hTl : (Rb.take k).length = k := by rw [List.length_take, HRl.out]; omega
      have hTb : Bytes wr (.slice (some ⟨g, 0, none⟩) k c2) (Rb.take k) := Bytes.mk (by rw [u8s_take]; exact (HC.out.take k).nw hn) hTl.symm (by omega) hm2 (fun h => by cases h)
      generalize Rb.take k = Tk at *
      have HTl := hid hTl
      have hTk : Tk.length ≤ 1000000000 := by omega
      clear hTl
      have hkc : k ≤ c2 := by omega
      by_cases hk0 : k = 0
      · subst hk0
        have HG := hid (hgk.trans (if_pos rfl))
        clear hgk
        go_wp2_with (first
          | (go_at_call 22; refine (get_c _ Tk 64 _ (hTb.nw (by repeat (first | assumption | exact Nw.refl _ | refine Nw.alloc ?_ _ | refine Nw.drew ?_ | refine Nw.drewN2 ?_ _ | (refine Nw.trans ?_ (by assumption))))) hTk (by decide) (by decide)).mono ?_; rw [HG.out]; rintro e w3 ⟨v3, rfl, hs3, hn3⟩; obtain ⟨p3, c3, rfl, _⟩ := i64s_open hs3; dsimp only [none_])
          | fail)
        go_roundw
        case rel => exact ⟨1, by omega, rfl, (by repeat (first | assumption | exact Nw.refl _ | refine Nw.alloc ?_ _ | refine Nw.drew ?_ | refine Nw.drewN2 ?_ _ | (refine Nw.trans ?_ (by assumption))))⟩
        case measure => (simp [intOf] <;> omega)
      · have HG := hid (hgk.trans (if_neg hk0))
        have hz0 : ((k : Int) == 0) = false := beq_eq_false_iff_ne.2 (by omega)
        have hz1 : decide ((0 : Int) < k) = true := decide_eq_true (by omega)
        clear hgk
        go_wp2_with (first
          | (go_at_call 22; refine (get_c _ Tk 64 _ (hTb.nw (by repeat (first | assumption | exact Nw.refl _ | refine Nw.alloc ?_ _ | refine Nw.drew ?_ | refine Nw.drewN2 ?_ _ | (refine Nw.trans ?_ (by assumption))))) hTk (by decide) (by decide)).mono ?_; rw [HG.out]; rintro e w3 ⟨v3, rfl, hs3, hn3⟩; obtain ⟨p3, c3, rfl, _⟩ := i64s_open hs3; dsimp only [none_])
          | fail)
        go_roundw
        case rel => exact ⟨k + 1, by omega, by go_num, (by repeat (first | assumption | exact Nw.refl _ | refine Nw.alloc ?_ _ | refine Nw.drew ?_ | refine Nw.drewN2 ?_ _ | (refine Nw.trans ?_ (by assumption))))⟩
        case measure => simp [intOf]; omega
    · obtain rfl : k = L2 + 2 := by omega
      have hdk : decide ((L2 : Int) + 2 < (L2 : Int) + 2) = false := decide_eq_false (by omega)
      by_cases hz : z = 0
      · have hdz : (((z.toNat : Nat) : Int) != 0) = false := by rw [hz]; rfl
        have hnT := hn
        go_upto_region 18 with fail
        -- what comes behind: as many names as there are ids but one, as the last id
        have hbT := hb2.nw hnT
        have hsT := hs2.nw hnT
        have k1T := hnT.cell k1
        have hkT : w1.heap.size < wr.heap.size := World.block_lt_of_cell? wr _ k1T
        have hnwT := hnw.trans hnT
        clear hb2 hs2 k0 k1 hnw
        by_cases hm0 : m.length = 0
        · have hd0 : decide ((0 : Int) < m.length) = false := decide_eq_false (by omega)
          go_wp2_with (first
            | (go_at_call 21; refine (awake_c _).mono ?_; rintro e w9 ⟨rfl, hn9⟩)
            | fail)
          go_ret
          exact ⟨rfl, hnwT.trans (by repeat (first | assumption | exact Nw.refl _ | refine Nw.alloc ?_ _ | refine Nw.drew ?_ | refine Nw.drewN2 ?_ _ | (refine Nw.trans ?_ (by assumption))))⟩
        · have hd0 : decide ((0 : Int) < m.length) = true := decide_eq_true (by omega)
          have hlast := HLAST.out (by omega)
          have HFEW := hid (HFW.out (by omega))
          obtain ⟨_, _, _, _, _, _, hcm⟩ := i64s_open hsT
          have emm : ((m.length : Int) - 1).toNat = m.length - 1 := by omega
          have hml1 : m.length - 1 < m.length := by omega
          generalize hlx : m.getD (m.length - 1) 0 = last at *
          by_cases hle : last = (m.length : Int) - 1
          · subst hle
            have HGL := hid (hlast.1 rfl)
            have b1 := hlast.2.2.1
            have b2 := hlast.2.2.2.1
            have b3 := hlast.2.2.2.2
            have hdg : decide ((m.length : Int) ≤ (m.length : Int) - 1) = false := decide_eq_false (by omega)
            clear hlast
            go_upto_region 23 with (first
              | (go_at_call 22; refine (get_c _ Rb _ _ (hbT.nw (by repeat (first | assumption | exact Nw.refl _ | refine Nw.alloc ?_ _ | refine Nw.drew ?_ | refine Nw.drewN2 ?_ _ | (refine Nw.trans ?_ (by assumption))))) hRbl (by omega) (by omega)).mono ?_; rw [HFEW.out]; rintro e w7 ⟨v7, rfl, hs7, hn7⟩; obtain ⟨p7, c7, rfl, _⟩ := i64s_open hs7; dsimp only [none_])
              | fail)
            have hn7T : Nw wr w7 := hn7
            have k17 := hn7.cell k1T
            have hk7 : w1.heap.size < w7.heap.size := World.block_lt_of_cell? w7 _ k17
            obtain ⟨bm, om, epm, hcm7⟩ := i64_cell (hcm.nw hn7) (m.length - 1) hml1
            rw [hlx] at hcm7
            have hbm : bm < w7.heap.size := World.block_lt_of_cell? w7 _ hcm7
            go_upto_region 25 with (first
              | (go_at_call 22; refine (get_c _ Rb _ _ (hbT.nw (by repeat (first | assumption | exact Nw.refl _ | refine Nw.alloc ?_ _ | refine Nw.drew ?_ | refine Nw.drewN2 ?_ _ | (refine Nw.trans ?_ (by assumption))))) hRbl (by omega) (by omega)).mono ?_; rw [HGL.out]; rintro e w8 ⟨v8, rfl, hs8, hn8⟩; obtain ⟨p8, c8, rfl, _⟩ := i64s_open hs8; dsimp only [none_])
              | fail)
            go_wp2_with (first
              | (go_at_call 21; refine (awake_c _).mono ?_; rintro e w9 ⟨rfl, hn9⟩)
              | fail)
            go_ret
            exact ⟨rfl, hnwT.trans (by repeat (first | assumption | exact Nw.refl _ | refine Nw.alloc ?_ _ | refine Nw.drew ?_ | refine Nw.drewN2 ?_ _ | (refine Nw.trans ?_ (by assumption))))⟩
          · have b1 := hlast.2.2.1
            have b2 := hlast.2.2.2.1
            have b3 := hlast.2.2.2.2
            have HGL := hid (hlast.2.1 (by omega))
            have hde : (last == (m.length : Int) - 1) = false := beq_eq_false_iff_ne.2 hle
            have hdg : decide ((m.length : Int) ≤ last) = true := decide_eq_true (by omega)
            clear hlast hle
            go_upto_region 23 with (first
              | (go_at_call 22; refine (get_c _ Rb _ _ (hbT.nw (by repeat (first | assumption | exact Nw.refl _ | refine Nw.alloc ?_ _ | refine Nw.drew ?_ | refine Nw.drewN2 ?_ _ | (refine Nw.trans ?_ (by assumption))))) hRbl (by omega) (by omega)).mono ?_; rw [HFEW.out]; rintro e w7 ⟨v7, rfl, hs7, hn7⟩; obtain ⟨p7, c7, rfl, _⟩ := i64s_open hs7; dsimp only [none_])
              | fail)
            have hn7T : Nw wr w7 := hn7
            have k17 := hn7.cell k1T
            have hk7 : w1.heap.size < w7.heap.size := World.block_lt_of_cell? w7 _ k17
            obtain ⟨bm, om, epm, hcm7⟩ := i64_cell (hcm.nw hn7) (m.length - 1) hml1
            rw [hlx] at hcm7
            have hbm : bm < w7.heap.size := World.block_lt_of_cell? w7 _ hcm7
            go_upto_region 25 with (first
              | (go_at_call 22; refine (get_c _ Rb _ _ (hbT.nw (by repeat (first | assumption | exact Nw.refl _ | refine Nw.alloc ?_ _ | refine Nw.drew ?_ | refine Nw.drewN2 ?_ _ | (refine Nw.trans ?_ (by assumption))))) hRbl (by omega) (by omega)).mono ?_; rw [HGL.out]; rintro e w8 ⟨v8, rfl, hs8, hn8⟩; obtain ⟨p8, c8, rfl, _⟩ := i64s_open hs8; dsimp only [none_])
              | fail)
            go_wp2_with (first
              | (go_at_call 21; refine (awake_c _).mono ?_; rintro e w9 ⟨rfl, hn9⟩)
              | fail)
            go_ret
            exact ⟨rfl, hnwT.trans (by repeat (first | assumption | exact Nw.refl _ | refine Nw.alloc ?_ _ | refine Nw.drew ?_ | refine Nw.drewN2 ?_ _ | (refine Nw.trans ?_ (by assumption))))⟩
      · have hdz : (((z.toNat : Nat) : Int) != 0) = true := by
          rw [bne_iff_ne]; intro e; exact hz (UInt8.toNat_inj.1 (by have : (0 : UInt8).toNat = 0 := rfl; omega))
        have hbr := hb2.nw hn
        obtain ⟨j, hj⟩ : ∃ j, j = at_ % L2 := ⟨_, rfl⟩
        have hjL : j < L2 := by rw [hj]; exact Nat.mod_lt _ (by omega)
        have hmod : (at_ : Int) % (L2 : Int) = (j : Int) := by rw [hj]; omega
        have htm : (at_ : Int).tmod (L2 : Int) = (j : Int) := by rw [Int.tmod_eq_emod_of_nonneg (by omega)]; exact hmod
        have hL0 : L2 ≠ 0 := by omega
        have e2j : (2 + (j : Int)).toNat = 2 + j := by omega
        clear hj
        go_upto_region 14 with (first
          | (at_builtin; refine app1 rfl _ _ _ rfl _ _ _ Try.underlying22 info_u8 rfl (by decide) ((Nw.refl wr).alloc _) (Own.new wr _ _ [] (Nat.le_refl _) (Nat.zero_le _)) rfl (hbr.nw ((Nw.refl wr).alloc _)) rfl (u8s_one _) ?_ ?_; rotate_left; (simp only [List.length_nil, u8s_length]; have := HRl.out; omega); intro v3 w3 hown3 hg3 hn3; rw [List.nil_append] at hown3; obtain ⟨g3, c3, rfl, hB3, hc3', hm3, hownb, hcs3⟩ := own_at hown3 HXL.out (by omega)))
        obtain ⟨y, hy⟩ : ∃ y, Rb[2 + j]? = some y := ⟨Rb[2 + j]'(by rw [HRl.out]; omega), by rw [List.getElem?_eq_getElem]⟩
        have hxv := xor_val y z
        have q1 := hownb.cell HXL.out.symm (2 + j) (by rw [HXL.out]; omega)
        rw [u8s_get Rb (2 + j) y hy] at q1
        have q2 := hownb.frozen HXL.out.symm (2 + j)
        have q3 := hownb.set HXL.out.symm (2 + j) (.int .u8 ((y.toNat ^^^ z.toNat : Nat) : Int))
        rw [show (u8s Rb).set (2 + j) (.int .u8 ((y.toNat ^^^ z.toNat : Nat) : Int)) = u8s (Rb.set (2 + j) (y ^^^ z)) by rw [u8s_set, UInt8.toNat_xor]] at q3
        have HG := hid (HFL.out (2 + j) y (y ^^^ z) (by omega) (by omega) hy (xor_ne y z hz))
        obtain ⟨F, hF⟩ : ∃ F, F = Rb.set (2 + j) (y ^^^ z) := ⟨_, rfl⟩
        rw [← hF] at HG q3
        have hFl : F.length ≤ 1000000000 := by rw [hF, List.length_set, HRl.out]; omega
        have q4 : Bytes (w3.setCell ⟨g3, 2 + j, none⟩ (.int .u8 ((y.toNat ^^^ z.toNat : Nat) : Int))) (.slice (some ⟨g3, 0, none⟩) (L2 + 2) c3) F := q3.sl
        have q5 : Nw wr (w3.setCell ⟨g3, 2 + j, none⟩ (.int .u8 ((y.toNat ^^^ z.toNat : Nat) : Int))) := hn3.setCell hB3 _
        clear hF hown3 hownb hcs3 q3
        go_upto_region 15 with fail
        generalize hW : w3.setCell ⟨g3, 2 + j, none⟩ (.int .u8 ((y.toNat ^^^ z.toNat : Nat) : Int)) = w4 at *
        clear hW hn3 q1 q2 hg3
        go_upto_region 16 with (first
          | (go_at_call 22; refine (get_c _ F 64 _ q4 hFl (by decide) (by decide)).mono ?_; rw [HG.out]; rintro e w5 ⟨v5, rfl, hs5, hn5⟩; obtain ⟨p5, c5, rfl, _⟩ := Sl.open (n := 0) hs5 rfl; dsimp only [none_])
          | fail)
        go_upto_region 18 with fail
        have hnT : Nw w2 (w5.alloc (.cells #[.int .u64 0, .slice p5 0 c5] 38)) := hn.trans (q5.trans (hn5.alloc _))
        generalize w5.alloc (.cells #[.int .u64 0, .slice p5 0 c5] 38) = w6 at *
        -- what comes behind: as many names as there are ids but one, as the last id
        have hbT := hb2.nw hnT
        have hsT := hs2.nw hnT
        have k1T := hnT.cell k1
        have hkT : w1.heap.size < w6.heap.size := World.block_lt_of_cell? w6 _ k1T
        have hnwT := hnw.trans hnT
        clear hb2 hs2 k0 k1 hnw
        by_cases hm0 : m.length = 0
        · have hd0 : decide ((0 : Int) < m.length) = false := decide_eq_false (by omega)
          go_wp2_with (first
            | (go_at_call 21; refine (awake_c _).mono ?_; rintro e w9 ⟨rfl, hn9⟩)
            | fail)
          go_ret
          exact ⟨rfl, hnwT.trans (by repeat (first | assumption | exact Nw.refl _ | refine Nw.alloc ?_ _ | refine Nw.drew ?_ | refine Nw.drewN2 ?_ _ | (refine Nw.trans ?_ (by assumption))))⟩
        · have hd0 : decide ((0 : Int) < m.length) = true := decide_eq_true (by omega)
          have hlast := HLAST.out (by omega)
          have HFEW := hid (HFW.out (by omega))
          obtain ⟨_, _, _, _, _, _, hcm⟩ := i64s_open hsT
          have emm : ((m.length : Int) - 1).toNat = m.length - 1 := by omega
          have hml1 : m.length - 1 < m.length := by omega
          generalize hlx : m.getD (m.length - 1) 0 = last at *
          by_cases hle : last = (m.length : Int) - 1
          · subst hle
            have HGL := hid (hlast.1 rfl)
            have b1 := hlast.2.2.1
            have b2 := hlast.2.2.2.1
            have b3 := hlast.2.2.2.2
            have hdg : decide ((m.length : Int) ≤ (m.length : Int) - 1) = false := decide_eq_false (by omega)
            clear hlast
            go_upto_region 23 with (first
              | (go_at_call 22; refine (get_c _ Rb _ _ (hbT.nw (by repeat (first | assumption | exact Nw.refl _ | refine Nw.alloc ?_ _ | refine Nw.drew ?_ | refine Nw.drewN2 ?_ _ | (refine Nw.trans ?_ (by assumption))))) hRbl (by omega) (by omega)).mono ?_; rw [HFEW.out]; rintro e w7 ⟨v7, rfl, hs7, hn7⟩; obtain ⟨p7, c7, rfl, _⟩ := i64s_open hs7; dsimp only [none_])
              | fail)
            have hn7T : Nw w6 w7 := hn7
            have k17 := hn7.cell k1T
            have hk7 : w1.heap.size < w7.heap.size := World.block_lt_of_cell? w7 _ k17
            obtain ⟨bm, om, epm, hcm7⟩ := i64_cell (hcm.nw hn7) (m.length - 1) hml1
            rw [hlx] at hcm7
            have hbm : bm < w7.heap.size := World.block_lt_of_cell? w7 _ hcm7
            go_upto_region 25 with (first
              | (go_at_call 22; refine (get_c _ Rb _ _ (hbT.nw (by repeat (first | assumption | exact Nw.refl _ | refine Nw.alloc ?_ _ | refine Nw.drew ?_ | refine Nw.drewN2 ?_ _ | (refine Nw.trans ?_ (by assumption))))) hRbl (by omega) (by omega)).mono ?_; rw [HGL.out]; rintro e w8 ⟨v8, rfl, hs8, hn8⟩; obtain ⟨p8, c8, rfl, _⟩ := i64s_open hs8; dsimp only [none_])
              | fail)
            go_wp2_with (first
              | (go_at_call 21; refine (awake_c _).mono ?_; rintro e w9 ⟨rfl, hn9⟩)
              | fail)
            go_ret
            exact ⟨rfl, hnwT.trans (by repeat (first | assumption | exact Nw.refl _ | refine Nw.alloc ?_ _ | refine Nw.drew ?_ | refine Nw.drewN2 ?_ _ | (refine Nw.trans ?_ (by assumption))))⟩
          · have b1 := hlast.2.2.1
            have b2 := hlast.2.2.2.1
            have b3 := hlast.2.2.2.2
            have HGL := hid (hlast.2.1 (by omega))
            have hde : (last == (m.length : Int) - 1) = false := beq_eq_false_iff_ne.2 hle
            have hdg : decide ((m.length : Int) ≤ last) = true := decide_eq_true (by omega)
            clear hlast hle
            go_upto_region 23 with (first
              | (go_at_call 22; refine (get_c _ Rb _ _ (hbT.nw (by repeat (first | assumption | exact Nw.refl _ | refine Nw.alloc ?_ _ | refine Nw.drew ?_ | refine Nw.drewN2 ?_ _ | (refine Nw.trans ?_ (by assumption))))) hRbl (by omega) (by omega)).mono ?_; rw [HFEW.out]; rintro e w7 ⟨v7, rfl, hs7, hn7⟩; obtain ⟨p7, c7, rfl, _⟩ := i64s_open hs7; dsimp only [none_])
              | fail)
            have hn7T : Nw w6 w7 := hn7
            have k17 := hn7.cell k1T
            have hk7 : w1.heap.size < w7.heap.size := World.block_lt_of_cell? w7 _ k17
            obtain ⟨bm, om, epm, hcm7⟩ := i64_cell (hcm.nw hn7) (m.length - 1) hml1
            rw [hlx] at hcm7
            have hbm : bm < w7.heap.size := World.block_lt_of_cell? w7 _ hcm7
            go_upto_region 25 with (first
              | (go_at_call 22; refine (get_c _ Rb _ _ (hbT.nw (by repeat (first | assumption | exact Nw.refl _ | refine Nw.alloc ?_ _ | refine Nw.drew ?_ | refine Nw.drewN2 ?_ _ | (refine Nw.trans ?_ (by assumption))))) hRbl (by omega) (by omega)).mono ?_; rw [HGL.out]; rintro e w8 ⟨v8, rfl, hs8, hn8⟩; obtain ⟨p8, c8, rfl, _⟩ := i64s_open hs8; dsimp only [none_])
              | fail)
            go_wp2_with (first
              | (go_at_call 21; refine (awake_c _).mono ?_; rintro e w9 ⟨rfl, hn9⟩)
              | fail)
            go_ret
            exact ⟨rfl, hnwT.trans (by repeat (first | assumption | exact Nw.refl _ | refine Nw.alloc ?_ _ | refine Nw.drew ?_ | refine Nw.drewN2 ?_ _ | (refine Nw.trans ?_ (by assumption))))⟩
end Rec
end Go.Proofs.Ytfbokhodcgpppaa
