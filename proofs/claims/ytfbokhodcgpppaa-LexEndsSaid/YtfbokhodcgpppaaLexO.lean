/- LexEnds walked. No condition but lengths. -/
import Derived.Test.YtfbokhodcgpppaaLexN
namespace Go.Proofs.Ytfbokhodcgpppaa
open Go.ChangeShapes Go.WideShapes Go.ChangeAt Go.RowKit
namespace Lx
theorem ts_any {w : World} {v : Value} {l : List Tk} (h : TS w v l) : ∃ p cap, v = .slice p l.length cap := by
  rcases h with ⟨rfl, rfl⟩ | ⟨g, cap, rfl, _⟩
  · exact ⟨none, 0, rfl⟩
  · exact ⟨_, cap, rfl⟩
set_option maxRecDepth 20000 in
set_option maxHeartbeats 900000 in
theorem ends_walk (a b : Int) (w : World) (ha : 0 ≤ a ∧ a ≤ 255) (hb : 0 ≤ b ∧ b ≤ 255) : Calls Try.prog 9 #[.int .u8 a, .int .u8 b] w fun e w' => e = .returned (.bool true) ∧ Nw w w' := by
  obtain ⟨n, rfl⟩ : ∃ n : Nat, a = n := ⟨a.toNat, by omega⟩
  obtain ⟨l, rfl⟩ : ∃ n : Nat, b = n := ⟨b.toNat, by omega⟩
  obtain ⟨k, hk⟩ : ∃ k : Nat, k = 1997 + n % 7 := ⟨_, rfl⟩
  obtain ⟨m, hm⟩ : ∃ m : Nat, m = 12 + l % 9 := ⟨_, rfl⟩
  have ek : (1997 : Int) + (n : Int) % 7 = k := by omega
  have em : (12 : Int) + (l : Int) % 9 = m := by omega
  have wn : wrap64 (n : Int) = n := by unfold wrap64; omega
  have wl : wrap64 (l : Int) = l := by unfold wrap64; omega
  have ekw : wrap64 ((1997 : Int) + (wrap64 (n : Int)).tmod 7) = k := by rw [wn, Int.tmod_eq_emod_of_nonneg (by omega)]; unfold wrap64; omega
  have emw : wrap64 ((12 : Int) + (wrap64 (l : Int)).tmod 9) = m := by rw [wl, Int.tmod_eq_emod_of_nonneg (by omega)]; unfold wrap64; omega
  have hk1 : 1997 ≤ k := by omega
  have hk2 : k ≤ 2003 := by omega
  have hm1 : 12 ≤ m := by omega
  have hm2 : m ≤ 20 := by omega
  have hl1 : l ≤ 255 := by omega
  clear hk hm ha hb
  obtain ⟨S, hS⟩ : ∃ S : List UInt8, S = List.replicate k 32 := ⟨_, rfl⟩
  obtain ⟨X, hX⟩ : ∃ X : List UInt8, X = letters l m := ⟨_, rfl⟩
  have hSl : S.length = k := by rw [hS, List.length_replicate]
  have hXl : X.length = m := by rw [hX, letters_len]
  have HSG := hid (show ∀ i, i < k → S[i]? = some 32 by intro i hi; rw [hS, List.getElem?_replicate, if_pos hi])
  have HXG := hid (show ∀ i, i < m → X[i]? = some (UInt8.ofNat (97 + (i + l) % 26)) by intro i hi; rw [hX]; exact letters_at l m i hi)
  have HSL := hid hSl
  have HXL := hid hXl
  have HS := hid hS
  have HX := hid hX
  have hSb : S.length ≤ 1000000000 := by rw [hSl]; exact Nat.le_trans hk2 (by decide)
  have hXb : X.length ≤ 1000000000 := by rw [hXl]; exact Nat.le_trans hm2 (by decide)
  have hnb := name_letters X (by rw [hXl]; exact hm1) (by rw [hX]; exact letters_sm l m)
  rw [hXl] at hnb
  have hbl : lexP S = if 2000 < k then ([], 0, 4) else ([⟨0, [], 0, k⟩], 0, 0) := by rw [hS]; exact lex_blanks k
  have hn0 := fun w => name_c X w hXb
  have h10 := fun w => lex_c S w hSb
  have h20 := fun w => lex_c X w hXb
  have hxx : m ≤ 16 → lexP X = ([⟨1, X, 0, 0⟩, ⟨0, [], 0, X.length⟩], 0, 0) := fun h => name_lex X (by rw [hnb]; exact decide_eq_true h)
  have hxy : ¬ m ≤ 16 → lexP X = ([], 0, 2) := fun h => lex_letters X (by rw [hXl]; omega) (by rw [hXl]; exact Nat.le_trans hm2 (by decide)) (by rw [hX]; exact letters_sm l m)
  rw [hnb] at hn0
  rw [hbl] at h10
  have HN := hid hn0
  have H10 := hid h10
  have H20 := hid h20
  have HXX := hid hxx
  have HXY := hid hxy
  clear hn0 h10 h20 hnb hbl hxx hxy hSb hXb
  clear hS hX hSl hXl
  go_enter Try.func9, Try.ntmps9
  go_upto_region 3 with (at_make; refine mk1f rfl _ _ _ rfl _ _ _ Try.underlying22 info_u8 (by decide) rfl (Nw.refl w) k rfl rfl ?_ ?_ ?_ ?_; rotate_left; omega; omega; omega; intro w1 hown1 hn1 hg1)
  have hown : Own w1 w.heap.size 5 (.slice (some ⟨w.heap.size, 0, none⟩) k k) (u8s (under S 0)) := by
    rw [under_zero, HSL.out]; simpa [u8s] using hown1
  clear hown1 ekw wn
  go_wp2
  go_loopw [7, 24] (fun _ i wr => ∃ j : Nat, j ≤ k ∧ i = .int .i64 j ∧ Own wr w.heap.size 5 (.slice (some ⟨w.heap.size, 0, none⟩) k k) (u8s (under S j)) ∧ Nw w wr) (fun _ i _ => k - (intOf i).toNat)
  case atStart => exact ⟨0, Nat.zero_le _, rfl, hown, hn1⟩
  case round =>
    obtain ⟨j, hj, rfl, hownj, hn⟩ := hrel
    clear hown
    by_cases hlt : j < k
    · have hdk : decide (j < k) = true := decide_eq_true hlt
      have HO := hid hownj
      obtain ⟨q1, q2, q3, q4⟩ := own8_cell hownj (by rw [under_len, HSL.out]) j (by rw [under_len, HSL.out]; exact hlt)
      clear hownj
      go_wp2
      go_roundw
      case rel =>
        have hput := own8_put (k := j) HO.out (by rw [under_len, HSL.out]) hn (Nat.le_refl _) 32 32 rfl
        rw [under_set _ _ _ (HSG.out j hlt)] at hput
        exact ⟨j + 1, by omega, by go_num, hput.1, hput.2⟩
      case measure => simp [intOf]; omega
    · obtain rfl : j = k := by omega
      have hdk : decide (j < j) = false := decide_eq_false (by omega)
      rw [show under S j = S by rw [← HSL.out, under_all]] at hownj
      have hbS : Bytes wr (.slice (some ⟨w.heap.size, 0, none⟩) j j) S := hownj.sl
      clear hownj
      obtain ⟨wq, rfl⟩ : ∃ x, x = wr := ⟨_, rfl⟩
      go_upto_region 10 with (at_make; refine mk1f rfl _ _ _ rfl _ _ _ Try.underlying22 info_u8 (by decide) rfl (Nw.refl wq) m rfl rfl ?_ ?_ ?_ ?_; rotate_left; omega; omega; omega; intro w2 hown2 hn2 hg2)
      have hown3 : Own w2 wq.heap.size 5 (.slice (some ⟨wq.heap.size, 0, none⟩) m m) (u8s (under X 0)) := by
        rw [under_zero, HXL.out]; simpa [u8s] using hown2
      have hw12 := hn2
      have HBS := hid hbS
      have hg0 := hn.size
      clear hown2 hbS emw wl
      go_loopw [9, 38] (fun _ i wr2 => ∃ i' : Nat, i' ≤ m ∧ i = .int .i64 i' ∧ Own wr2 wq.heap.size 5 (.slice (some ⟨wq.heap.size, 0, none⟩) m m) (u8s (under X i')) ∧ Nw wq wr2) (fun _ i _ => m - (intOf i).toNat)
      case atStart => exact ⟨0, Nat.zero_le _, rfl, hown3, hw12⟩
      case round =>
        obtain ⟨i, hi, rfl, howni, hni⟩ := hrel
        clear hown3
        by_cases hlt : i < m
        · have hdi : decide (i < m) = true := decide_eq_true hlt
          have HO := hid howni
          obtain ⟨q1, q2, q3, q4⟩ := own8_cell howni (by rw [under_len, HXL.out]) i (by rw [under_len, HXL.out]; exact hlt)
          clear howni
          go_wp2
          go_roundw
          case rel =>
            refine ⟨i + 1, by omega, by go_num, ?_, ?_⟩
            · rw [← under_set _ _ _ (HXG.out i hlt)]
              refine (own8_put (k := i) HO.out (by rw [under_len, HXL.out]) hni (Nat.le_refl _) _ _ ?_).1
              rw [UInt8.toNat_ofNat']; omega
            · exact hni.setCell (Nat.le_refl _) _
          case measure => simp [intOf]; omega
        · obtain rfl : i = m := by omega
          have hdi : decide (i < i) = false := decide_eq_false (by omega)
          rw [show under X i = X by rw [← HXL.out, under_all]] at howni
          have hbX : Bytes wr (.slice (some ⟨wq.heap.size, 0, none⟩) i i) X := howni.sl
          clear howni
          have hs14 := str_ok (HBS.out.nw hni)
          have h1 := H10.out
          have h2 := H20.out
          clear H10 H20
          by_cases hmc : i ≤ 16
          · rw [decide_eq_true hmc] at HN
            rw [HXX.out hmc] at h2
            have H2 := hid h2
            have hdm : decide (i ≤ 16) = true := decide_eq_true hmc
            have hdm2 : decide ((i : Int) ≤ 16) = true := decide_eq_true (by omega)
            clear h2
            by_cases hkc : 2000 < j
            · rw [if_pos hkc] at h1
              have H1 := hid h1
              have hdj : decide (j ≤ 2000) = false := decide_eq_false (by omega)
              have hdj2 : decide ((j : Int) ≤ 2000) = false := decide_eq_false (by omega)
              clear h1
              go_upto_region 15 with (first
                | (go_at_call 15; refine (H1.out _).mono ?_; rintro e w4 ⟨v4, rfl, hown4, hn4⟩; obtain ⟨p4, cap4, rfl⟩ := ts_any (TS.own hown4); clear hown4; dsimp only [List.length_nil])
                | fail)
              have hbX2 := hbX.nw (by repeat (first | assumption | exact Nw.refl _ | refine Nw.alloc ?_ _ | refine Nw.drew ?_ | refine Nw.drewN2 ?_ _ | (refine Nw.trans ?_ (by assumption))))
              have hs15 := str_ok hbX2
              go_upto_region 18 with (first
                | (go_at_call 15; refine (H2.out _).mono ?_; rintro e w6 ⟨v6, rfl, hown6, hn6⟩; obtain ⟨p6, cap6, rfl⟩ := ts_any (TS.own hown6); clear hown6; try (have d3 := hn6.cell c3; have hgl2 : g < w6.heap.size := World.block_lt_of_cell? w6 _ d3); dsimp only [List.length_cons, List.length_nil])
                | fail)
              have hs18 := str_ok (hbX2.nw hn6)
              go_wp2_with (first
                | (go_at_call 23; refine (HN.out _).mono ?_; rintro e w7 ⟨rfl, hn7⟩)
                | (go_at_call 13; refine (awake_c _).mono ?_; rintro e w8 ⟨rfl, hn8⟩)
                | fail)
              go_ret
              exact ⟨rfl, (by repeat (first | assumption | exact Nw.refl _ | refine Nw.alloc ?_ _ | refine Nw.drew ?_ | refine Nw.drewN2 ?_ _ | (refine Nw.trans ?_ (by assumption))))⟩
            · rw [if_neg hkc] at h1
              have H1 := hid h1
              have hdj : decide (j ≤ 2000) = true := decide_eq_true (by omega)
              have hdj2 : decide ((j : Int) ≤ 2000) = true := decide_eq_true (by omega)
              clear h1
              go_upto_region 15 with (first
                | (go_at_call 15; refine (H1.out _).mono ?_; rintro e w4 ⟨v4, rfl, hown4, hn4⟩; obtain ⟨g, cap, rfl, hcap, hmx, hc⟩ := ts_open (TS.own hown4) (by simp); have c3 : w4.cell? ⟨g, 3, none⟩ = some (.int .i64 j) := hc 0 _ rfl 3 (by decide); have hgl : g < w4.heap.size := World.block_lt_of_cell? w4 _ c3; clear hc hown4; dsimp only [List.length_cons, List.length_nil] at hcap ⊢)
                | fail)
              have hbX2 := hbX.nw (by repeat (first | assumption | exact Nw.refl _ | refine Nw.alloc ?_ _ | refine Nw.drew ?_ | refine Nw.drewN2 ?_ _ | (refine Nw.trans ?_ (by assumption))))
              have hs15 := str_ok hbX2
              go_upto_region 18 with (first
                | (go_at_call 15; refine (H2.out _).mono ?_; rintro e w6 ⟨v6, rfl, hown6, hn6⟩; obtain ⟨p6, cap6, rfl⟩ := ts_any (TS.own hown6); clear hown6; try (have d3 := hn6.cell c3; have hgl2 : g < w6.heap.size := World.block_lt_of_cell? w6 _ d3); dsimp only [List.length_cons, List.length_nil])
                | fail)
              have hs18 := str_ok (hbX2.nw hn6)
              go_wp2_with (first
                | (go_at_call 23; refine (HN.out _).mono ?_; rintro e w7 ⟨rfl, hn7⟩)
                | (go_at_call 13; refine (awake_c _).mono ?_; rintro e w8 ⟨rfl, hn8⟩)
                | fail)
              go_ret
              exact ⟨rfl, (by repeat (first | assumption | exact Nw.refl _ | refine Nw.alloc ?_ _ | refine Nw.drew ?_ | refine Nw.drewN2 ?_ _ | (refine Nw.trans ?_ (by assumption))))⟩
          · rw [decide_eq_false hmc] at HN
            rw [HXY.out hmc] at h2
            have H2 := hid h2
            have hdm : decide (i ≤ 16) = false := decide_eq_false hmc
            have hdm2 : decide ((i : Int) ≤ 16) = false := decide_eq_false (by omega)
            clear h2
            by_cases hkc : 2000 < j
            · rw [if_pos hkc] at h1
              have H1 := hid h1
              have hdj : decide (j ≤ 2000) = false := decide_eq_false (by omega)
              have hdj2 : decide ((j : Int) ≤ 2000) = false := decide_eq_false (by omega)
              clear h1
              go_upto_region 15 with (first
                | (go_at_call 15; refine (H1.out _).mono ?_; rintro e w4 ⟨v4, rfl, hown4, hn4⟩; obtain ⟨p4, cap4, rfl⟩ := ts_any (TS.own hown4); clear hown4; dsimp only [List.length_nil])
                | fail)
              have hbX2 := hbX.nw (by repeat (first | assumption | exact Nw.refl _ | refine Nw.alloc ?_ _ | refine Nw.drew ?_ | refine Nw.drewN2 ?_ _ | (refine Nw.trans ?_ (by assumption))))
              have hs15 := str_ok hbX2
              go_upto_region 18 with (first
                | (go_at_call 15; refine (H2.out _).mono ?_; rintro e w6 ⟨v6, rfl, hown6, hn6⟩; obtain ⟨p6, cap6, rfl⟩ := ts_any (TS.own hown6); clear hown6; try (have d3 := hn6.cell c3; have hgl2 : g < w6.heap.size := World.block_lt_of_cell? w6 _ d3); dsimp only [List.length_cons, List.length_nil])
                | fail)
              have hs18 := str_ok (hbX2.nw hn6)
              go_wp2_with (first
                | (go_at_call 23; refine (HN.out _).mono ?_; rintro e w7 ⟨rfl, hn7⟩)
                | (go_at_call 13; refine (awake_c _).mono ?_; rintro e w8 ⟨rfl, hn8⟩)
                | fail)
              go_ret
              exact ⟨rfl, (by repeat (first | assumption | exact Nw.refl _ | refine Nw.alloc ?_ _ | refine Nw.drew ?_ | refine Nw.drewN2 ?_ _ | (refine Nw.trans ?_ (by assumption))))⟩
            · rw [if_neg hkc] at h1
              have H1 := hid h1
              have hdj : decide (j ≤ 2000) = true := decide_eq_true (by omega)
              have hdj2 : decide ((j : Int) ≤ 2000) = true := decide_eq_true (by omega)
              clear h1
              go_upto_region 15 with (first
                | (go_at_call 15; refine (H1.out _).mono ?_; rintro e w4 ⟨v4, rfl, hown4, hn4⟩; obtain ⟨g, cap, rfl, hcap, hmx, hc⟩ := ts_open (TS.own hown4) (by simp); have c3 : w4.cell? ⟨g, 3, none⟩ = some (.int .i64 j) := hc 0 _ rfl 3 (by decide); have hgl : g < w4.heap.size := World.block_lt_of_cell? w4 _ c3; clear hc hown4; dsimp only [List.length_cons, List.length_nil] at hcap ⊢)
                | fail)
              have hbX2 := hbX.nw (by repeat (first | assumption | exact Nw.refl _ | refine Nw.alloc ?_ _ | refine Nw.drew ?_ | refine Nw.drewN2 ?_ _ | (refine Nw.trans ?_ (by assumption))))
              have hs15 := str_ok hbX2
              go_upto_region 18 with (first
                | (go_at_call 15; refine (H2.out _).mono ?_; rintro e w6 ⟨v6, rfl, hown6, hn6⟩; obtain ⟨p6, cap6, rfl⟩ := ts_any (TS.own hown6); clear hown6; try (have d3 := hn6.cell c3; have hgl2 : g < w6.heap.size := World.block_lt_of_cell? w6 _ d3); dsimp only [List.length_cons, List.length_nil])
                | fail)
              have hs18 := str_ok (hbX2.nw hn6)
              go_wp2_with (first
                | (go_at_call 23; refine (HN.out _).mono ?_; rintro e w7 ⟨rfl, hn7⟩)
                | (go_at_call 13; refine (awake_c _).mono ?_; rintro e w8 ⟨rfl, hn8⟩)
                | fail)
              go_ret
              exact ⟨rfl, (by repeat (first | assumption | exact Nw.refl _ | refine Nw.alloc ?_ _ | refine Nw.drew ?_ | refine Nw.drewN2 ?_ _ | (refine Nw.trans ?_ (by assumption))))⟩
end Lx
end Go.Proofs.Ytfbokhodcgpppaa
