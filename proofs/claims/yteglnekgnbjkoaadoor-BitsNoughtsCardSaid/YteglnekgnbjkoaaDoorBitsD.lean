/- The contracts of bits.And, bits.Less and of the reference's Less: for any sets not longer than 2^30 the sets that they make. -/
import Derived.Test.YteglnekgnbjkoaaDoorBitsC
namespace Go.Proofs.YteglnekgnbjkoaaDoor
open Go.ChangeShapes Go.WideShapes Go.ChangeAt Go.RowKit
namespace Words
set_option maxHeartbeats 800000 in
theorem less_c (u v : Value) (a b : List Wd) (w : World) (hu : Set w u a) (hv : Set w v b) (ha : a.length ≤ 1073741824) (hb : b.length ≤ 1073741824) : Calls Tryd.prog 28 #[u, v] w (HandsW w (less a b)) := by
  obtain ⟨p, cap, rfl, hcap, hmx, _, hc⟩ := hu.open
  unfold maxLen at hmx
  obtain ⟨N, hN⟩ : ∃ N, N = a.length := ⟨_, rfl⟩
  have HF := hid (show less a b = trim (part N (lessf a b) N) by rw [part_all, hN]; rfl)
  rw [HF.out]
  clear HF
  rw [← hN]
  rw [← hN] at hcap ha
  have HA := hid hN
  have HU := hid hu
  have HC := hid hc
  clear hN hu hc
  go_enter Tryd.func28, Tryd.ntmps28
  go_wp2_with (at_make; refine mk1f rfl _ _ _ rfl _ _ _ Tryd.underlying23 info_u64 (by decide) rfl (Nw.refl w) N rfl rfl ?_ ?_ ?_ ?_; rotate_left; omega; omega; omega; intro w1 hown1 hn1 hg1)
  have hown : Own w1 w.heap.size 39 (.slice (some ⟨w.heap.size, 0, none⟩) N N) (ws (part N (lessf a b) 0)) := by rw [part_zero]; simpa [ws, wv] using hown1
  clear hown1
  go_loopw [6, 12] (fun _ i wr => ∃ k : Nat, k ≤ N ∧ i = .int .i64 k ∧ Own wr w.heap.size 39 (.slice (some ⟨w.heap.size, 0, none⟩) N N) (ws (part N (lessf a b) k)) ∧ Nw w wr) (fun _ i _ => N - (intOf i).toNat)
  case atStart => exact ⟨0, Nat.zero_le _, rfl, hown, hn1⟩
  case round =>
    obtain ⟨k, hk, rfl, hownk, hn⟩ := hrel
    clear hown
    by_cases hlt : k < N
    · obtain ⟨q1, q2, q3, q4⟩ := part_cell hownk hlt
      have hdk : decide (k < N) = true := decide_eq_true hlt
      have HO := hid hownk
      obtain ⟨b1, o1, rfl, hcell⟩ := ws_cell (HC.out.nw hn) k (by rw [← HA.out]; exact hlt)
      have hlt1 : b1 < wr.heap.size := World.block_lt_of_cell? wr _ hcell
      clear hownk
      go_wp2
      refine wp_region_end rfl (by kernel_rfl) (by kernel_rfl) (by kernel_rfl) (by kernel_rfl) (by kernel_rfl) ?_
      dsimp only [List.dropLast]
      iterate 11
        refine Stairs.is ?_ ?_ ?_
        rotate_left 1
        · intro x wR hR hd K hK
          simp only [Act.put, List.setIfInBounds_toArray, List.set_cons_zero, List.set_cons_succ, Nat.reduceAdd, List.length_nil, List.length_cons, List.nil_append, List.cons_append, Say.ok] at hK ⊢
          clear hd
          change Hid _ at hK
          obtain ⟨hcR, hfR, hzR⟩ := nwc hR
          first | (refine wanted_yes ?_ ?_; rfl) | (refine wanted_no ?_ ?_; rfl)
          go_wp2_with (first | (go_at_call 49; refine (at_c _ _ _ _ (hv.nw (by repeat (first | assumption | exact Nw.refl _ | refine Nw.alloc ?_ _ | refine Nw.drew ?_ | refine Nw.drewN2 ?_ _ | (refine Nw.trans ?_ (by assumption))))) (by omega)).mono ?_; rintro e w3 ⟨rfl, hn3⟩; obtain ⟨hc3, hf3, hz3⟩ := nwc hn3))
          all_goals (refine hK.out _ _ ?_ ?_ <;> first | (solve | (repeat (first | assumption | exact Nw.refl _ | refine Nw.alloc ?_ _ | refine Nw.drew ?_ | refine Nw.drewN2 ?_ _ | (refine Nw.trans ?_ (by assumption))))) | exact rfl)
        try simp only [Act.put, List.setIfInBounds_toArray, List.set_cons_zero, List.set_cons_succ, Nat.reduceAdd, List.length_nil, List.length_cons, List.nil_append, List.cons_append]
      refine Stairs.nil ?_
      intro x wR hR hx
      clear hx
      obtain ⟨hcR, hfR, hzR⟩ := nwc hR
      try dsimp only
      go_wp2
      go_roundw
      case rel =>
        have := part_put (HO.out.nw hR) (hn.trans hR) (Nat.le_refl _) _ (lessf_bv a b k)
        exact ⟨k + 1, by omega, by go_num, this.1, this.2⟩
      case measure => simp [intOf]; omega
    · obtain rfl : k = N := by omega
      have hdk : decide (k < k) = false := decide_eq_false (by omega)
      have hs := own_set hownk
      clear hownk
      go_wp2_with (go_at_call 53; refine (trim_c _ _ _ hs).mono ?_; rintro e w2 ⟨v2, rfl, h2, h3, h4⟩)
      go_ret
      exact ⟨v2, rfl, h2, fun q hq => (by have := h3 q hq; first | exact Nat.le_trans hn.size this | (simp only [Value.ownBlock, Option.some.injEq] at this; omega)), hn.trans h4⟩

set_option maxHeartbeats 800000 in
theorem rless_c (u v : Value) (a b : List Wd) (w : World) (hu : Set w u a) (hv : Set w v b) (ha : a.length ≤ 1073741824) (hb : b.length ≤ 1073741824) : Calls Tryd.prog 22 #[u, v] w (HandsW w (less a b)) := by
  obtain ⟨p, cap, rfl, hcap, hmx, _, hc⟩ := hu.open
  unfold maxLen at hmx
  obtain ⟨N, hN⟩ : ∃ N, N = a.length := ⟨_, rfl⟩
  have HF := hid (show less a b = trim (part N (lessf a b) N) by rw [part_all, hN]; rfl)
  rw [HF.out]
  clear HF
  rw [← hN]
  rw [← hN] at hcap ha
  have HA := hid hN
  have HU := hid hu
  have HC := hid hc
  clear hN hu hc
  go_enter Tryd.func22, Tryd.ntmps22
  go_wp2_with (at_make; refine mk1f rfl _ _ _ rfl _ _ _ Tryd.underlying23 info_u64 (by decide) rfl (Nw.refl w) N rfl rfl ?_ ?_ ?_ ?_; rotate_left; omega; omega; omega; intro w1 hown1 hn1 hg1)
  have hown : Own w1 w.heap.size 39 (.slice (some ⟨w.heap.size, 0, none⟩) N N) (ws (part N (lessf a b) 0)) := by rw [part_zero]; simpa [ws, wv] using hown1
  clear hown1
  go_loopw [6, 12] (fun _ i wr => ∃ k : Nat, k ≤ N ∧ i = .int .i64 k ∧ Own wr w.heap.size 39 (.slice (some ⟨w.heap.size, 0, none⟩) N N) (ws (part N (lessf a b) k)) ∧ Nw w wr) (fun _ i _ => N - (intOf i).toNat)
  case atStart => exact ⟨0, Nat.zero_le _, rfl, hown, hn1⟩
  case round =>
    obtain ⟨k, hk, rfl, hownk, hn⟩ := hrel
    clear hown
    by_cases hlt : k < N
    · obtain ⟨q1, q2, q3, q4⟩ := part_cell hownk hlt
      have hdk : decide (k < N) = true := decide_eq_true hlt
      have HO := hid hownk
      obtain ⟨b1, o1, rfl, hcell⟩ := ws_cell (HC.out.nw hn) k (by rw [← HA.out]; exact hlt)
      have hlt1 : b1 < wr.heap.size := World.block_lt_of_cell? wr _ hcell
      clear hownk
      go_wp2
      refine wp_region_end rfl (by kernel_rfl) (by kernel_rfl) (by kernel_rfl) (by kernel_rfl) (by kernel_rfl) ?_
      dsimp only [List.dropLast]
      iterate 11
        refine Stairs.is ?_ ?_ ?_
        rotate_left 1
        · intro x wR hR hd K hK
          simp only [Act.put, List.setIfInBounds_toArray, List.set_cons_zero, List.set_cons_succ, Nat.reduceAdd, List.length_nil, List.length_cons, List.nil_append, List.cons_append, Say.ok] at hK ⊢
          clear hd
          change Hid _ at hK
          obtain ⟨hcR, hfR, hzR⟩ := nwc hR
          first | (refine wanted_yes ?_ ?_; rfl) | (refine wanted_no ?_ ?_; rfl)
          go_wp2_with (first | (go_at_call 52; refine (word_c _ _ _ _ (hv.nw (by repeat (first | assumption | exact Nw.refl _ | refine Nw.alloc ?_ _ | refine Nw.drew ?_ | refine Nw.drewN2 ?_ _ | (refine Nw.trans ?_ (by assumption))))) (by omega)).mono ?_; rintro e w3 ⟨rfl, hn3⟩; obtain ⟨hc3, hf3, hz3⟩ := nwc hn3))
          all_goals (refine hK.out _ _ ?_ ?_ <;> first | (solve | (repeat (first | assumption | exact Nw.refl _ | refine Nw.alloc ?_ _ | refine Nw.drew ?_ | refine Nw.drewN2 ?_ _ | (refine Nw.trans ?_ (by assumption))))) | exact rfl)
        try simp only [Act.put, List.setIfInBounds_toArray, List.set_cons_zero, List.set_cons_succ, Nat.reduceAdd, List.length_nil, List.length_cons, List.nil_append, List.cons_append]
      refine Stairs.nil ?_
      intro x wR hR hx
      clear hx
      obtain ⟨hcR, hfR, hzR⟩ := nwc hR
      try dsimp only
      go_wp2
      go_roundw
      case rel =>
        have := part_put (HO.out.nw hR) (hn.trans hR) (Nat.le_refl _) _ (lessf_bv a b k)
        exact ⟨k + 1, by omega, by go_num, this.1, this.2⟩
      case measure => simp [intOf]; omega
    · obtain rfl : k = N := by omega
      have hdk : decide (k < k) = false := decide_eq_false (by omega)
      have hs := own_set hownk
      clear hownk
      go_wp2_with (go_at_call 23; refine (rtrim_c _ _ _ hs (by rw [part_len]; omega)).mono ?_; rintro e w2 ⟨v2, rfl, h2, h3, h4⟩)
      go_ret
      exact ⟨v2, rfl, h2, fun q hq => (by have := h3 q hq; first | exact Nat.le_trans hn.size this | (simp only [Value.ownBlock, Option.some.injEq] at this; omega)), hn.trans h4⟩

theorem and_min (a b : List Wd) : and a b = mk (min a.length b.length) (andf a b) := by
  refine ext (and_trim a b) (mk_trim _ _) fun i => ?_
  rw [wd_and, wd_mk]
  · rfl
  · intro i hi
    unfold andf
    rcases Nat.lt_or_ge i a.length with h | h
    · rw [wd_ge b i (by omega)]; simp
    · rw [wd_ge a i h]; simp
set_option maxHeartbeats 800000 in
theorem and_c (u v : Value) (a b : List Wd) (w : World) (hu : Set w u a) (hv : Set w v b) (ha : a.length ≤ 1073741824) (hb : b.length ≤ 1073741824) : Calls Tryd.prog 26 #[u, v] w (HandsW w (and a b)) := by
  obtain ⟨p, cap, rfl, hcap, hmx, _, hc⟩ := hu.open
  obtain ⟨p2, cap2, rfl, hcap2, hmx2, _, hc2⟩ := hv.open
  unfold maxLen at hmx hmx2
  obtain ⟨N, hN⟩ : ∃ N, N = min a.length b.length := ⟨_, rfl⟩
  have HF := hid (show and a b = trim (part N (andf a b) N) by rw [part_all, hN]; exact and_min a b)
  rw [HF.out]
  have hN2 : N ≤ a.length := by omega
  have hN3 : N ≤ b.length := by omega
  have hmaxN : min (a.length : Int) b.length = N := by omega
  have HC := hid hc
  have HC2 := hid hc2
  clear HF hN hu hv hc hc2
  go_enter Tryd.func26, Tryd.ntmps26
  go_wp2_with (at_make; refine mk1f rfl _ _ _ rfl _ _ _ Tryd.underlying23 info_u64 (by decide) rfl (Nw.refl w) N rfl rfl ?_ ?_ ?_ ?_; rotate_left; omega; omega; omega; intro w1 hown1 hn1 hg1)
  all_goals
    have hown : Own w1 w.heap.size 39 (.slice (some ⟨w.heap.size, 0, none⟩) N N) (ws (part N (andf a b) 0)) := by rw [part_zero]; simpa [ws, wv] using hown1
    clear hown1
    go_loopw [6, 15] (fun _ i wr => ∃ k : Nat, k ≤ N ∧ i = .int .i64 k ∧ Own wr w.heap.size 39 (.slice (some ⟨w.heap.size, 0, none⟩) N N) (ws (part N (andf a b) k)) ∧ Nw w wr) (fun _ i _ => N - (intOf i).toNat)
    case atStart => exact ⟨0, Nat.zero_le _, rfl, hown, hn1⟩
    case round =>
      obtain ⟨k, hk, rfl, hownk, hn⟩ := hrel
      clear hown
      by_cases hlt : k < N
      · obtain ⟨q1, q2, q3, q4⟩ := part_cell hownk hlt
        have hdk : decide (k < N) = true := decide_eq_true hlt
        have HO := hid hownk
        obtain ⟨b1, o1, rfl, hcell⟩ := ws_cell (HC.out.nw hn) k (by omega)
        obtain ⟨b2, o2, rfl, hcell2⟩ := ws_cell (HC2.out.nw hn) k (by omega)
        have hlt1 : b1 < wr.heap.size := World.block_lt_of_cell? wr _ hcell
        have hlt2 : b2 < wr.heap.size := World.block_lt_of_cell? wr _ hcell2
        clear hownk
        go_wp2
        refine wp_region_end rfl (by kernel_rfl) (by kernel_rfl) (by kernel_rfl) (by kernel_rfl) (by kernel_rfl) ?_
        dsimp only [List.dropLast]
        iterate 12
          refine Stairs.is ?_ ?_ ?_
          rotate_left 1
          · intro x wR hR hd K hK
            simp only [Act.put, List.setIfInBounds_toArray, List.set_cons_zero, List.set_cons_succ, Nat.reduceAdd, List.length_nil, List.length_cons, List.nil_append, List.cons_append, Say.ok] at hK ⊢
            clear hd
            change Hid _ at hK
            obtain ⟨hcR, hfR, hzR⟩ := nwc hR
            first | (refine wanted_yes ?_ ?_; rfl) | (refine wanted_no ?_ ?_; rfl)
            go_wp2_with (first | fail)
            all_goals (refine hK.out _ _ ?_ ?_ <;> first | (solve | (repeat (first | assumption | exact Nw.refl _ | refine Nw.alloc ?_ _ | refine Nw.drew ?_ | refine Nw.drewN2 ?_ _ | (refine Nw.trans ?_ (by assumption))))) | exact rfl)
          try simp only [Act.put, List.setIfInBounds_toArray, List.set_cons_zero, List.set_cons_succ, Nat.reduceAdd, List.length_nil, List.length_cons, List.nil_append, List.cons_append]
        refine Stairs.nil ?_
        intro x wR hR hx
        clear hx
        obtain ⟨hcR, hfR, hzR⟩ := nwc hR
        try dsimp only
        go_wp2
        go_roundw
        case rel =>
          have := part_put (HO.out.nw hR) (hn.trans hR) (Nat.le_refl _) _ (andf_bv a b k)
          exact ⟨k + 1, by omega, by go_num, this.1, this.2⟩
        case measure => simp [intOf]; omega
      · obtain rfl : k = N := by omega
        have hdk : decide (k < k) = false := decide_eq_false (by omega)
        have hs := own_set hownk
        clear hownk
        go_wp2_with (go_at_call 53; refine (trim_c _ _ _ hs).mono ?_; rintro e w2 ⟨v2, rfl, h2, h3, h4⟩)
        go_ret
        exact ⟨v2, rfl, h2, fun q hq => (by have := h3 q hq; first | exact Nat.le_trans hn.size this | (simp only [Value.ownBlock, Option.some.injEq] at this; omega)), hn.trans h4⟩
end Words
end Go.Proofs.YteglnekgnbjkoaaDoor
