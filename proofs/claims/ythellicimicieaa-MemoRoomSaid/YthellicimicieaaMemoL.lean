/- MemoClock walked. No condition. -/
import Derived.Test.YthellicimicieaaMemoK
set_option linter.unusedSimpArgs false
set_option linter.unusedVariables false
namespace Go.Proofs.Ythellicimicieaa
open Go.ChangeShapes Go.WideShapes Go.ChangeAt Go.RowKit
namespace Mm
open Go.Proofs.Ythellicimicieaa.Words (Wd wd trim Set ws ws_one ws_length same same_c samewords_c rtrim_c HandsW)
theorem rm_nat {n : Nat} (h0 : 1 ≤ n) (h1 : n ≤ 4096) : rm (n : Int) = n := by unfold rm; omega
theorem tmod_nat (a b : Nat) : ((a : Int).tmod (b : Int) = ((a % b : Nat) : Int)) ∧ ((a : Int) % (b : Int) = ((a % b : Nat) : Int)) := by
  have e : (a : Int) % (b : Int) = ((a % b : Nat) : Int) := by rw [← Int.natCast_emod]
  exact ⟨by rw [Int.tmod_eq_emod_of_nonneg (by omega)]; exact e, e⟩
theorem hands_ok {x : (List Wd × Bool) × Bool} {en : Ending} {w : World} {o : Bool} (h : HandsM x en w) (hx : x.2 = o) : ∃ p n c e, en = .returned (.tuple #[.agg #[.slice p n c, .bool e], .bool o]) ∧ Set w (.slice p n c) x.1.1 := by
  obtain ⟨u, rfl, hs⟩ := h
  obtain ⟨p, c, rfl, _⟩ := id hs.open
  exact ⟨p, _, c, _, by rw [hx], hs⟩
def ClkA (n i : Nat) (m : Me) : Prop := (i ≤ n → CA n i m) ∧ (i = n + 1 → CB n 0 m)
theorem clka_put {n i : Nat} {m : Me} (hn : 3 ≤ n) (h : ClkA n i m) (hi : i < n + 1) : ClkA n (i + 1) (putM m [w_ (i + 1)] [] [] true) := by
  have hc := h.1 (by omega)
  refine ⟨fun h2 => ca_put hc (by omega), fun h2 => ?_⟩
  have e : i = n := by omega
  subst e
  exact cb_put hc hn
set_option maxRecDepth 20000 in
set_option maxHeartbeats 1600000 in
theorem clock_walk (z0 z1 : Int) (h0 : 0 ≤ z0 ∧ z0 ≤ 255) (h1 : 0 ≤ z1 ∧ z1 ≤ 255) (w : World) : Calls Try.prog 7 #[.int .u8 z0, .int .u8 z1] w fun en w' => en = .returned (.bool true) ∧ Nw w w' := by
  obtain ⟨r, rfl⟩ := Int.eq_ofNat_of_zero_le h0.1
  obtain ⟨a1, rfl⟩ := Int.eq_ofNat_of_zero_le h1.1
  obtain ⟨q, hq⟩ : ∃ q, q = r % 30 := ⟨_, rfl⟩
  have hq30 : q < 30 := by rw [hq]; exact Nat.mod_lt _ (by decide)
  have t2 : (r : Int) % 30 = (q : Int) := by omega
  obtain ⟨n, hn⟩ : ∃ n, n = 3 + q := ⟨_, rfl⟩
  have hni : (3 : Int) + (q : Int) = (n : Int) := by omega
  have hn3 : 3 ≤ n := by omega
  have hn32 : n ≤ 32 := by omega
  obtain ⟨n1, hn1⟩ : ∃ n1, n = n1 + 1 := ⟨n - 1, by omega⟩
  have hn1i : (n : Int) - 1 = (n1 : Int) := by omega
  obtain ⟨k, hk⟩ : ∃ k, k = a1 % n1 := ⟨_, rfl⟩
  have hkn : k < n1 := by rw [hk]; exact Nat.mod_lt _ (by omega)
  obtain ⟨t3, t4⟩ := tmod_nat a1 n1
  rw [← hk] at t3 t4
  have hz1 : ((n1 : Int) == 0) = false := beq_eq_false_iff_ne.2 (by omega)
  have hz2 : (n1 : Int) ≠ 0 := by omega
  have HN := hid (new_st w w (n : Int) (Nw.refl w))
  rw [rm_nat (by omega) (by omega)] at HN
  have hk1 : k + 1 < n := by omega
  clear hq hn hk hn1
  go_enter Try.func7, Try.ntmps7
  go_upto_region 2 with fail
  simp only [t2, hni]
  go_upto_region 3 with (first
    | (go_at_call 21; refine HN.out.mono ?_; rintro en w1 ⟨a, rfl, hs1⟩)
    | fail)
  go_upto_region 6 with fail
  go_loopw [7, 25] (fun _ i wr => ∃ (j : Nat) (m : Me), j ≤ n + 1 ∧ i = .int .i64 j ∧ St w a m wr ∧ Hid (ClkA n j m)) (fun _ i _ => n + 1 - (intOf i).toNat)
  case atStart => exact ⟨0, _, Nat.zero_le _, rfl, hs1, hid ⟨fun _ => ca_new (by omega) (by omega), fun h => by omega⟩⟩
  case round =>
    obtain ⟨j, m, hj, rfl, hst, hca⟩ := hrel
    by_cases hlt : j < n + 1
    · have hdj : decide ((j : Int) < (n : Int) + 1) = true := decide_eq_true (by omega)
      have HP := hid (put_st _ _ _ _ _ _ true (hst.nw ((Nw.refl wr).alloc (.cells #[.int .u64 ((j : Int) + 1)] 24))) (one_set wr (j + 1) ((j : Int) + 1) (by omega) (by omega) 24) (Set.nil _) (Set.nil _) (by simp) (by simp) (by simp))
      go_wp2_with (first
        | (go_at_call 24; refine HP.out.mono ?_; rintro en w2 ⟨rfl, hs2⟩)
        | fail)
      go_roundw
      case rel => exact ⟨j + 1, _, by omega, by go_num, hs2, hid (clka_put hn3 hca.out hlt)⟩
      case measure => (simp [intOf] <;> omega)
    · obtain rfl : j = n + 1 := by omega
      have hdj : decide (((n + 1 : Nat) : Int) < (n : Int) + 1) = false := decide_eq_false (by omega)
      have hdj2 : decide ((n : Int) + 1 < (n : Int) + 1) = false := decide_eq_false (by omega)
      have hcb := hca.out.2 rfl
      have HLN := hid (len_st hst)
      rw [hcb.shp.1] at HLN
      have HCB := hid hcb
      clear hcb hca
      have hz1' : ((n : Int) - 1 == 0) = false := beq_eq_false_iff_ne.2 (by omega)
      have hz2' : (n : Int) - 1 ≠ 0 := by omega
      go_upto_region 12 with (first
        | (go_at_call 28; refine HLN.out.mono ?_; rintro en w2 ⟨rfl, hn2⟩)
        | fail)
      replace hst := hst.nw hn2
      clear HLN hn2
      generalize n + 1 = N1 at *
      go_upto_region 13 with fail
      go_upto_region 14 with fail
      go_loopw [9, 10, 11, 46] (fun _ _ _ i wr => ∃ (j : Nat) (m : Me), j ≤ k ∧ i = .int .i64 j ∧ St w a m wr ∧ Hid (CB n j m)) (fun _ _ _ i _ => k - (intOf i).toNat)
      case atStart => exact ⟨0, _, Nat.zero_le _, rfl, hst, HCB⟩
      case round =>
        obtain ⟨j, m2, hj, rfl, hst2, hcb⟩ := hrel
        by_cases hlt : j < k
        · have hdj2 : decide (j < k) = true := decide_eq_true hlt
          obtain ⟨g1, g2⟩ := cb_get hcb.out (by omega)
          have HG := hid (get_st _ _ _ _ (hst2.nw ((Nw.refl wr).alloc (.cells #[.int .u64 ((j : Int) + 2)] 24))) (one_set wr (j + 2) ((j : Int) + 2) (by omega) (by omega) 24) (Set.nil _))
          have HG1 := hid g1
          have HG2 := hid g2
          clear g1 g2
          go_upto_region 17 with (first
            | (go_at_call 25; refine HG.out.mono ?_; rintro en w2 ⟨h2, hs2⟩; obtain ⟨q2, n2, c2, e2, rfl, _⟩ := hands_ok h2 HG1.out)
            | fail)
          have hs3 := hs2.nw ((Nw.refl w2).alloc (.cells #[.slice q2 n2 c2, .bool e2] 47))
          clear hs2 h2 HG HG1
          generalize w2.alloc (.cells #[.slice q2 n2 c2, .bool e2] 47) = w3 at *
          go_wp2
          go_roundw
          case rel => exact ⟨j + 1, _, by omega, by go_num, hs3, HG2⟩
          case measure => (simp [intOf] <;> omega)
        · obtain rfl : j = k := by omega
          have hdj2 : decide (j < j) = false := decide_eq_false (by omega)
          have HP := hid (put_st _ _ _ _ _ _ false (hst2.nw ((Nw.refl wr).alloc (.cells #[.int .u64 1000] 24))) (one_set wr 1000 1000 rfl (by decide) 24) (Set.nil _) (Set.nil _) (by simp) (by simp) (by simp))
          have HCC := hid (cc_put hcb.out hk1 (by omega))
          go_upto_region 22 with (first
            | (go_at_call 24; refine HP.out.mono ?_; rintro en w2 ⟨rfl, hs2⟩)
            | fail)
          go_loopw [12, 13, 14, 67] (fun _ _ _ i wr => ∃ (i' : Nat) (m : Me), i' ≤ n + 1 ∧ i = .int .i64 i' ∧ St w a m wr ∧ Hid (CC n j m)) (fun _ _ _ i _ => n + 1 - (intOf i).toNat)
          case atStart => exact ⟨0, _, Nat.zero_le _, rfl, hs2, HCC⟩
          case round =>
            obtain ⟨i, m3, hi, rfl, hst3, hcc⟩ := hrel
            by_cases hlt3 : i < n + 1
            · have hdi : decide ((i : Int) < (n : Int) + 1) = true := decide_eq_true (by omega)
              have HT := hid (cc_told hcc.out hk1 (by omega) (show i ≤ n by omega))
              have HC2 := hid (cc_get hcc.out [w_ (i + 1)] [])
              have HG := hid (get_st _ _ _ _ (hst3.nw ((Nw.refl wr).alloc (.cells #[.int .u64 ((i : Int) + 1)] 24))) (one_set wr (i + 1) ((i : Int) + 1) (by omega) (by omega) 24) (Set.nil _))
              by_cases hi0 : i = 0
              · have hdp : decide ((0 : Int) < (i : Int)) = false := decide_eq_false (by omega)
                have hdpn : decide (0 < i) = false := decide_eq_false (by omega)
                have hne : ((i : Int) != (j : Int) + 1) = true := by simp; omega
                have HT0 := hid (show (getP m3 [w_ (i + 1)] []).2 = false by rw [HT.out, hi0]; rfl)
                have hi1 : i < n + 1 := hlt3
                clear hi0
                clear HT
                go_upto_region 25 with (first
                  | (go_at_call 25; refine HG.out.mono ?_; rintro en w2 ⟨h2, hs2⟩; obtain ⟨q2, n2, c2, e2, rfl, _⟩ := hands_ok h2 HT0.out)
                  | fail)
                have hs3 := hs2.nw ((Nw.refl w2).alloc (.cells #[.slice q2 n2 c2, .bool e2] 47))
                clear hs2 h2 HG HT0
                generalize w2.alloc (.cells #[.slice q2 n2 c2, .bool e2] 47) = w3 at *
                go_wp2
                go_roundw
                case rel => exact ⟨i + 1, _, by omega, by go_num, hs3, HC2⟩
                case measure => (simp [intOf] <;> omega)
              · have hdp : decide ((0 : Int) < (i : Int)) = true := decide_eq_true (by omega)
                have hdpn : decide (0 < i) = true := decide_eq_true (by omega)
                by_cases hik : i = j + 1
                · have hne : ((i : Int) != (j : Int) + 1) = false := by simp; omega
                  have HT0 := hid (show (getP m3 [w_ (i + 1)] []).2 = false by rw [HT.out, hik]; simp)
                  clear hik
                  clear HT
                  go_upto_region 25 with (first
                    | (go_at_call 25; refine HG.out.mono ?_; rintro en w2 ⟨h2, hs2⟩; obtain ⟨q2, n2, c2, e2, rfl, _⟩ := hands_ok h2 HT0.out)
                    | fail)
                  have hs3 := hs2.nw ((Nw.refl w2).alloc (.cells #[.slice q2 n2 c2, .bool e2] 47))
                  clear hs2 h2 HG HT0
                  generalize w2.alloc (.cells #[.slice q2 n2 c2, .bool e2] 47) = w3 at *
                  go_wp2
                  go_roundw
                  case rel => exact ⟨i + 1, _, by omega, by go_num, hs3, HC2⟩
                  case measure => (simp [intOf] <;> omega)
                · have hne : ((i : Int) != (j : Int) + 1) = true := by simp; omega
                  have HT0 := hid (show (getP m3 [w_ (i + 1)] []).2 = true by rw [HT.out, decide_eq_true (by omega), decide_eq_false hik]; rfl)
                  clear HT
                  go_upto_region 25 with (first
                    | (go_at_call 25; refine HG.out.mono ?_; rintro en w2 ⟨h2, hs2⟩; obtain ⟨q2, n2, c2, e2, rfl, _⟩ := hands_ok h2 HT0.out)
                    | fail)
                  have hs3 := hs2.nw ((Nw.refl w2).alloc (.cells #[.slice q2 n2 c2, .bool e2] 47))
                  clear hs2 h2 HG HT0
                  generalize w2.alloc (.cells #[.slice q2 n2 c2, .bool e2] 47) = w3 at *
                  go_wp2
                  go_roundw
                  case rel => exact ⟨i + 1, _, by omega, by go_num, hs3, HC2⟩
                  case measure => (simp [intOf] <;> omega)
            · obtain rfl : i = n + 1 := by omega
              have hdi : decide (((n + 1 : Nat) : Int) < (n : Int) + 1) = false := decide_eq_false (by omega)
              have hdi2 : decide ((n : Int) + 1 < (n : Int) + 1) = false := decide_eq_false (by omega)
              go_wp2_with (first
                | (go_at_call 20; refine (awake_c _).mono ?_; rintro en w8 ⟨rfl, hn8⟩)
                | fail)
              go_ret
              exact ⟨rfl, hst3.base.trans hn8⟩
end Mm
end Go.Proofs.Ythellicimicieaa
