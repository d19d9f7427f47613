/- MemoRoom walked. No condition. -/
import Derived.Test.YthellicimicieaaMemoL
set_option linter.unusedSimpArgs false
set_option linter.unusedVariables false
namespace Go.Proofs.Ythellicimicieaa
open Go.ChangeShapes Go.WideShapes Go.ChangeAt Go.RowKit
namespace Mm
open Go.Proofs.Ythellicimicieaa.Words (Wd wd trim Set ws ws_one ws_length same same_c samewords_c rtrim_c HandsW)
theorem two_set (w : World) (n : Nat) (z : Int) (hz : z = (n : Int)) (h : n < 18446744073709551616) (t : TypeId) : Set (w.alloc (.cells #[.int .u64 z, .int .u64 0] t)) (.slice (some ⟨w.heap.size, 0, none⟩) 2 2) [w_ n, 0] := by
  have := Sl.new w (ws [w_ n, 0]) t (0, 0) (by simp [ws, maxLen])
  have e : ws [w_ n, 0] = [.int .u64 z, .int .u64 0] := by
    show [Value.int .u64 ((w_ n).toNat : Int), .int .u64 0] = _
    rw [w_nat h, hz]
  unfold Words.Set
  rw [e] at this ⊢
  exact this
theorem size_al (w : World) (o : Obj) : (w.alloc o).heap.size = w.heap.size + 1 := by show (w.heap.push _).size = _; rw [Array.size_push]
theorem cnt_le (l : List En) (i : Nat) : cnt l i ≤ i := by
  unfold cnt
  exact Nat.le_trans (List.length_filter_le _ _) (by rw [List.length_range]; exact Nat.le_refl _)
theorem there_get (m : Me) (s v : List Wd) (x : Nat) : there (getM m s v).l x = there m.l x := by
  unfold there
  rw [getM_fnd, getM_len]
set_option maxRecDepth 20000 in
set_option maxHeartbeats 1600000 in
theorem room_walk (z0 z1 : Int) (h0 : 0 ≤ z0 ∧ z0 ≤ 255) (h1 : 0 ≤ z1 ∧ z1 ≤ 255) (w : World) : Calls Try.prog 6 #[.int .u8 z0, .int .u8 z1] w fun en w' => en = .returned (.bool true) ∧ Nw w w' := by
  obtain ⟨r, rfl⟩ := Int.eq_ofNat_of_zero_le h0.1
  obtain ⟨a1, rfl⟩ := Int.eq_ofNat_of_zero_le h1.1
  obtain ⟨q, hq⟩ : ∃ q, q = r % 40 := ⟨_, rfl⟩
  have hq30 : q < 40 := by rw [hq]; exact Nat.mod_lt _ (by decide)
  have t2 : (r : Int) % 40 = (q : Int) := by omega
  obtain ⟨n, hn⟩ : ∃ n, n = 1 + q := ⟨_, rfl⟩
  have hni : (1 : Int) + (q : Int) = (n : Int) := by omega
  have hn1 : 1 ≤ n := by omega
  have hn32 : n ≤ 40 := by omega
  obtain ⟨k, hk⟩ : ∃ k, k = a1 % 60 := ⟨_, rfl⟩
  have hkn : k < 60 := by rw [hk]; exact Nat.mod_lt _ (by decide)
  have t4 : (a1 : Int) % 60 = (k : Int) := by omega
  have HN := hid (new_st w w (n : Int) (Nw.refl w))
  rw [rm_nat (by omega) (by omega)] at HN
  clear hq hn hk
  go_enter Try.func6, Try.ntmps6
  go_upto_region 2 with fail
  simp only [t2, t4, hni]
  go_upto_region 3 with (first
    | (go_at_call 21; refine HN.out.mono ?_; rintro en w1 ⟨a, rfl, hs1⟩)
    | fail)
  go_upto_region 6 with fail
  go_loopw [8, 25] (fun _ i wr => ∃ (j : Nat) (m : Me), j ≤ k ∧ i = .int .i64 j ∧ St w a m wr ∧ Hid (RInv n j m)) (fun _ i _ => k - (intOf i).toNat)
  case atStart => exact ⟨0, _, Nat.zero_le _, rfl, hs1, hid (room_new (by omega) (by omega))⟩
  case round =>
    obtain ⟨j, m, hj, rfl, hst, hri⟩ := hrel
    by_cases hlt : j < k
    · have hdj : decide (j < k) = true := decide_eq_true hlt
      have HRI := hid (room_put hri.out (show j < 1000 by omega))
      have n1 := (Nw.refl wr).alloc (.cells #[.int .u64 ((j : Int) + 1)] 24)
      have k1 := one_set wr (j + 1) ((j : Int) + 1) (by omega) (by omega) 24
      have s1 := size_al wr (.cells #[.int .u64 ((j : Int) + 1)] 24)
      have n2 := (Nw.refl (wr.alloc (.cells #[.int .u64 ((j : Int) + 1)] 24))).alloc (.cells #[.int .u64 (j : Int)] 24)
      have k2 := one_set (wr.alloc (.cells #[.int .u64 ((j : Int) + 1)] 24)) j (j : Int) rfl (by omega) 24
      have s2 := size_al (wr.alloc (.cells #[.int .u64 ((j : Int) + 1)] 24)) (.cells #[.int .u64 (j : Int)] 24)
      have n3 := (Nw.refl ((wr.alloc (.cells #[.int .u64 ((j : Int) + 1)] 24)).alloc (.cells #[.int .u64 (j : Int)] 24))).alloc (.cells #[.int .u64 ((j : Int) + 7)] 24)
      have k3 := one_set ((wr.alloc (.cells #[.int .u64 ((j : Int) + 1)] 24)).alloc (.cells #[.int .u64 (j : Int)] 24)) (j + 7) ((j : Int) + 7) (by omega) (by omega) 24
      rw [s2, s1] at k3
      rw [s1] at k2
      have HP := hid (put_st _ _ _ _ _ _ false (((hst.nw n1).nw n2).nw n3) ((k1.nw n2).nw n3) (k2.nw n3) k3 (by simp) (by simp) (by simp))
      clear n1 n2 n3 k1 k2 k3 s1 s2
      go_upto_region 9 with (first
        | (go_at_call 24; refine HP.out.mono ?_; rintro en w2 ⟨rfl, hs2⟩)
        | fail)
      have HLN := hid (len_st hs2)
      rw [HRI.out.len] at HLN
      clear HP
      by_cases hjn : (j : Int) + 1 ≤ (n : Int)
      · rw [show min (j + 1) n = j + 1 by omega] at HLN
        go_wp2_with (first
          | (go_at_call 28; refine HLN.out.mono ?_; rintro en w3 ⟨rfl, hn3⟩)
          | fail)
        go_roundw
        case rel => exact ⟨j + 1, _, by omega, by go_num, hs2.nw hn3, HRI⟩
        case measure => (simp [intOf] <;> omega)
      · rw [show min (j + 1) n = n by omega] at HLN
        go_wp2_with (first
          | (go_at_call 28; refine HLN.out.mono ?_; rintro en w3 ⟨rfl, hn3⟩)
          | fail)
        go_roundw
        case rel => exact ⟨j + 1, _, by omega, by go_num, hs2.nw hn3, HRI⟩
        case measure => (simp [intOf] <;> omega)
    · obtain rfl : j = k := by omega
      have hdj : decide (j < j) = false := decide_eq_false (by omega)
      have HCN := hid (room_cnt hri.out (by omega))
      go_upto_region 14 with fail
      go_loopw [9, 10, 11, 12, 51] (fun fd _ _ _ i wr => ∃ (c : Nat) (m2 : Me), c ≤ j ∧ i = .int .i64 c ∧ fd = .int .i64 (cnt m.l c : Int) ∧ St w a m2 wr ∧ Hid (RInv n j m2 ∧ (∀ x, there m2.l x = there m.l x))) (fun _ _ _ _ i _ => j - (intOf i).toNat)
      case atStart => exact ⟨0, m, Nat.zero_le _, rfl, rfl, hst, hid ⟨hri.out, fun _ => rfl⟩⟩
      case round =>
        obtain ⟨c, m2, hc, rfl, rfl, hst2, hr2⟩ := hrel
        by_cases hlt : c < j
        · have hdj : decide (c < j) = true := decide_eq_true hlt
          have hcb := cnt_le m.l c
          have hgt := getP_there (m := m2) c (by omega)
          rw [hr2.out.2 c] at hgt
          have HST := hid (cnt_step m.l c)
          have HR3 := hid (And.intro (room_get hr2.out.1 [w_ (c + 1), 0] [w_ c]) (fun x => (there_get m2 [w_ (c + 1), 0] [w_ c] x).trans (hr2.out.2 x)))
          have n1 := (Nw.refl wr).alloc (.cells #[.int .u64 ((c : Int) + 1), .int .u64 0] 24)
          have k1 := two_set wr (c + 1) ((c : Int) + 1) (by omega) (by omega) 24
          have s1 := size_al wr (.cells #[.int .u64 ((c : Int) + 1), .int .u64 0] 24)
          have n2 := (Nw.refl (wr.alloc (.cells #[.int .u64 ((c : Int) + 1), .int .u64 0] 24))).alloc (.cells #[.int .u64 (c : Int)] 24)
          have k2 := one_set (wr.alloc (.cells #[.int .u64 ((c : Int) + 1), .int .u64 0] 24)) c (c : Int) rfl (by omega) 24
          rw [s1] at k2
          have HG := hid (get_st _ _ _ _ ((hst2.nw n1).nw n2) (k1.nw n2) k2)
          clear n1 n2 k1 k2 s1
          cases hth : there m.l c with
          | true =>
            rw [hth] at hgt
            have HE := hid (show getP m2 [w_ (c + 1), 0] [w_ c] = (([w_ (c + 7)], (getP m2 [w_ (c + 1), 0] [w_ c]).1.2), true) from Prod.ext (Prod.ext (room_told hr2.out.1 c (by omega) (by omega) hgt) rfl) hgt)
            have HS2 := hid (show cnt m.l (c + 1) = cnt m.l c + 1 by rw [HST.out, hth]; rfl)
            generalize (getP m2 [w_ (c + 1), 0] [w_ c]).1.2 = e0 at *
            clear hgt HST hth hr2
            go_upto_region 17 with (first
              | (go_at_call 25; refine HG.out.mono ?_; rintro en w2 ⟨h2, hs2⟩; obtain ⟨q2, c2, rfl, hq2⟩ := hands_open h2 HE.out)
              | fail)
            change Set w2 (.slice q2 1 c2) [w_ (c + 7)] at hq2
            have n3 := (Nw.refl w2).alloc (.cells #[.slice q2 1 c2, .bool e0] 47)
            have y3 := heap_new w2 (.cells #[.slice q2 1 c2, .bool e0] 47)
            have x0 := heap_cell y3 0
            have g3 := lt_of_heap y3
            simp only [List.getElem?_toArray, List.getElem?_cons_succ, List.getElem?_cons_zero] at x0
            have hs3 := hs2.nw n3
            have hq3 := hq2.nw n3
            clear n3 y3 hs2 hq2 h2 HG HE
            change Code.wp _ _ _ _ (w2.alloc (.cells #[.slice q2 1 c2, .bool e0] 47))
            generalize w2.alloc (.cells #[.slice q2 1 c2, .bool e0] 47) = w3 at *
            generalize w2.heap.size = g2 at *
            have n4 := (Nw.refl w3).alloc (.cells #[.int .u64 ((c : Int) + 7)] 24)
            have HSW := hid (samewords_c _ _ _ _ _ (hq3.nw n4) (one_set w3 (c + 7) ((c : Int) + 7) (by omega) (by omega) 24))
            rw [decide_eq_true rfl] at HSW
            have hs4 := hs3.nw n4
            clear hs3 hq3 n4
            generalize cnt m.l c = cc at *
            go_wp2_with (first
              | (go_at_call 26; refine HSW.out.mono ?_; rintro en w5 ⟨rfl, hn5⟩)
              | fail)
            go_roundw
            case rel => exact ⟨c + 1, _, by omega, by go_num, by rw [HS2.out]; go_num, hs4.nw hn5, HR3⟩
            case measure => (simp [intOf] <;> omega)
          | false =>
            rw [hth] at hgt
            have HGT := hid hgt
            have HS2 := hid (show cnt m.l (c + 1) = cnt m.l c by rw [HST.out, hth]; rfl)
            clear HST hth hr2 hgt
            go_upto_region 17 with (first
              | (go_at_call 25; refine HG.out.mono ?_; rintro en w2 ⟨h2, hs2⟩; obtain ⟨q2, n2, c2, e2, rfl, _⟩ := hands_ok h2 HGT.out)
              | fail)
            have hs3 := hs2.nw ((Nw.refl w2).alloc (.cells #[.slice q2 n2 c2, .bool e2] 47))
            clear hs2 h2 HG HGT
            change Code.wp _ _ _ _ (w2.alloc (.cells #[.slice q2 n2 c2, .bool e2] 47))
            generalize w2.alloc (.cells #[.slice q2 n2 c2, .bool e2] 47) = w3 at *
            go_wp2
            go_roundw
            case rel => exact ⟨c + 1, _, by omega, by go_num, by rw [HS2.out], hs3, HR3⟩
            case measure => (simp [intOf] <;> omega)
        · obtain rfl : c = j := by omega
          have hdj : decide (c < c) = false := decide_eq_false (by omega)
          rw [HCN.out]
          clear HCN hr2
          by_cases hjn : (c : Int) ≤ (n : Int)
          · rw [show min c n = c by omega]
            go_wp2_with (first
              | (go_at_call 20; refine (awake_c _).mono ?_; rintro en w8 ⟨rfl, hn8⟩)
              | fail)
            go_ret
            exact ⟨rfl, hst2.base.trans hn8⟩
          · rw [show min c n = n by omega]
            go_wp2_with (first
              | (go_at_call 20; refine (awake_c _).mono ?_; rintro en w8 ⟨rfl, hn8⟩)
              | fail)
            go_ret
            exact ⟨rfl, hst2.base.trans hn8⟩
end Mm
end Go.Proofs.Ythellicimicieaa
