/- The contracts of bits.Within, Same, Cut and of the reference's Cut. -/
import Derived.Test.YteglnekgnbjkoaaDoorBitsD
namespace Go.Proofs.YteglnekgnbjkoaaDoor
open Go.ChangeShapes Go.WideShapes Go.ChangeAt Go.RowKit
namespace Words
theorem within_snoc (a b : List Wd) (k : Nat) (h : ∀ i, i < k → wd a i &&& ~~~ wd b i = 0) (hk : wd a k &&& ~~~ wd b k = 0) : ∀ i, i < k + 1 → wd a i &&& ~~~ wd b i = 0 := fun i hi => by
  rcases Nat.lt_or_ge i k with h1 | h1
  · exact h i h1
  · obtain rfl : i = k := by omega
    exact hk
set_option maxHeartbeats 400000 in
theorem within_c (u v : Value) (a b : List Wd) (w : World) (hu : Set w u a) (hv : Set w v b) : Calls Tryd.prog 29 #[u, v] w (Gives (.bool (within a b)) w) := by
  obtain ⟨p, cap, rfl, hcap, hmx, _, hc⟩ := hu.open
  unfold maxLen at hmx
  have HC := hid hc
  have HU := hid hu
  clear hc hu
  go_enter Tryd.func29, Tryd.ntmps29
  go_wp2
  go_loopw [5, 6, 9] (fun _ _ i wr => ∃ k : Nat, k ≤ a.length ∧ i = .int .i64 k ∧ Hid (∀ i, i < k → wd a i &&& ~~~ wd b i = 0) ∧ Nw w wr) (fun _ _ i _ => a.length - (intOf i).toNat)
  case atStart => exact ⟨0, Nat.zero_le _, rfl, fun i h => by omega, Nw.refl _⟩
  case round =>
    obtain ⟨k, hk, rfl, HA, hn⟩ := hrel
    by_cases hlt : k < a.length
    · have hdk : decide (k < a.length) = true := decide_eq_true hlt
      obtain ⟨b1, o1, rfl, hcell⟩ := ws_cell (HC.out.nw hn) k hlt
      have HL := hid (less_bv (wd a k) (wd b k))
      by_cases hz : wd a k &&& ~~~ wd b k = 0
      · have hb : (bits .andNot .u64 ((wd a k).toNat : Int) ((wd b k).toNat : Int) != 0) = false := by rw [HL.out, hz]; rfl
        have HS := hid (within_snoc a b k HA.out hz)
        clear hz
        go_wp2_with (go_at_call 49; refine (at_c _ _ _ _ (hv.nw hn) (by omega)).mono ?_; rintro e w3 ⟨rfl, hn3⟩; obtain ⟨hc3, hf3, hz3⟩ := nwc hn3)
        go_roundw
        case rel => exact ⟨k + 1, by omega, by go_num, HS, hn.trans hn3⟩
        case measure => simp [intOf]; omega
      · have hb : (bits .andNot .u64 ((wd a k).toNat : Int) ((wd b k).toNat : Int) != 0) = true := by
          rw [HL.out, bne_iff_ne]; exact fun h => hz (wd_zero_iff.1 h)
        have HS := hid (show within a b = false from decide_eq_false (fun h => hz (h k hlt)))
        clear hz
        go_wp2_with (go_at_call 49; refine (at_c _ _ _ _ (hv.nw hn) (by omega)).mono ?_; rintro e w3 ⟨rfl, hn3⟩; obtain ⟨hc3, hf3, hz3⟩ := nwc hn3)
        go_ret
        exact Gives.b HS.out.symm (hn.trans hn3)
    · obtain rfl : k = a.length := by omega
      have hdk : decide (a.length < a.length) = false := decide_eq_false (by omega)
      have HS := hid (show within a b = true from decide_eq_true HA.out)
      go_wp2
      go_ret
      exact Gives.b HS.out.symm hn
theorem same_c (u v : Value) (a b : List Wd) (w : World) (hu : Set w u a) (hv : Set w v b) : Calls Tryd.prog 30 #[u, v] w (Gives (.bool (same a b)) w) := by
  have HS := hid (same_within a b)
  cases h1 : within a b
  all_goals
    rw [h1] at HS
    have H1 := fun w hu hv => within_c u v a b w hu hv
    rw [h1] at H1
    have HW1 := hid H1
    clear H1 h1
    go_enter Tryd.func30, Tryd.ntmps30
    go_wp2_with fail
    refine (HW1.out _ hu hv).mono ?_
    rintro e w1 ⟨rfl, hn1⟩
    go_wp2_with (go_at_call 29; refine (within_c _ _ _ _ _ (hv.nw hn1) (hu.nw hn1)).mono ?_; rintro e w2 ⟨rfl, hn2⟩)
    go_ret
    exact Gives.b (by rw [HS.out]; rfl) (by repeat (first | assumption | exact Nw.refl _ | refine Nw.alloc ?_ _ | refine Nw.drew ?_ | refine Nw.drewN2 ?_ _ | (refine Nw.trans ?_ (by assumption))))
/-! ### Cut -/
def cutp (s : List Wd) (n : Int) (i : Nat) : Wd := cutw n i (wd s i)
theorem cut_low (s : List Wd) (n : Int) (h : n ≤ 0) : cut s n = [] := by
  unfold cut mk
  rw [trim_nil]
  intro i
  rw [wd_map]
  split
  · unfold cutw; rw [if_pos (Or.inl h)]
  · rfl
def mask (n : Int) : Wd := (1 : Wd) <<< (n.toNat % 64) - 1
theorem mask_bv (n : Int) (h : 0 ≤ n) : ((mask n).toNat : Int) = IntKind.u64.wrap (IntKind.u64.wrap (2 ^ (n % 64).toNat) - 1) := by
  have hk : n.toNat % 64 < 64 := by omega
  have e : (n % 64).toNat = n.toNat % 64 := by omega
  have hb := bit_bv _ hk
  have h1 : 2 ^ (n.toNat % 64) < 2 ^ 64 := Nat.pow_lt_pow_right (by decide) hk
  have h2 : 0 < 2 ^ (n.toNat % 64) := Nat.two_pow_pos _
  have e2 : (2 : Int) ^ (n.toNat % 64) = ((2 ^ (n.toNat % 64) : Nat) : Int) := by simp
  have hb' : (bit (n.toNat % 64)).toNat = 2 ^ (n.toNat % 64) := by rw [e2] at hb; omega
  show ((bit (n.toNat % 64) - 1).toNat : Int) = _
  rw [BitVec.toNat_sub_of_le (by rw [BitVec.le_def, hb']; exact h2), hb', e, e2]
  simp only [show ((1 : Wd).toNat) = 1 from rfl, IntKind.wrap_u64]
  omega
theorem cut_none (s : List Wd) (n : Int) (m : Nat) (h : 0 < n) (hm : m = min s.length ((n - 1) / 64 + 1).toNat) (hi : ¬ n / 64 < m) : trim (s.take m) = cut s n := by
  refine (trim_iff.2 fun i => ?_).trans (cut_trim s n)
  rw [wd_cut]
  unfold cutw
  by_cases him : i < m
  · rw [if_neg (by omega), if_neg (by omega)]
    simp [wd, him]
  · rw [wd_ge (s.take m) i (by simp; omega)]
    split
    · rfl
    · by_cases hl : i < s.length
      · split
        · have : n % 64 = 0 := by omega
          have e : n.toNat % 64 = 0 := by omega
          rw [e]; simp
        · omega
      · rw [wd_ge s i (by omega)]; split <;> simp
theorem cut_some (s : List Wd) (n : Int) (m : Nat) (h : 0 < n) (hm : m = min s.length ((n - 1) / 64 + 1).toNat) (hi : n / 64 < m) : trim ((s.take m).set (n / 64).toNat (wd (s.take m) (n / 64).toNat &&& mask n)) = cut s n := by
  refine (trim_iff.2 fun i => ?_).trans (cut_trim s n)
  rw [wd_cut]
  unfold cutw
  have hlt : (s.take m).length = m := by simp; omega
  by_cases him : i < m
  · by_cases he : (n / 64).toNat = i
    · subst he
      rw [if_neg (by omega), if_pos (by omega)]
      have hl2 : (n / 64).toNat < s.length := by omega
      simp [wd, hlt, him, mask, hl2]
    · rw [if_neg (by omega), if_neg (by omega)]
      simp [wd, he, him]
  · rw [wd_ge _ i (by rw [List.length_set]; omega)]
    split
    · rfl
    · rw [if_neg (by omega)]
      by_cases hl : i < s.length
      · omega
      · rw [wd_ge s i (by omega)]
theorem own_put {w w0 : World} {B g n cap : Nat} {e : TypeId} {s : List Wd} {k : Nat} (h : Own w B e (.slice (some ⟨g, 0, none⟩) n cap) (ws s)) (hl : n = s.length) (hn : Nw w0 w) (hg : w0.heap.size ≤ g) (z : Int) (x : Wd) (hz : z = (x.toNat : Int)) :
    Own (w.setCell ⟨g, k, none⟩ (.int .u64 z)) B e (.slice (some ⟨g, 0, none⟩) n cap) (ws (s.set k x)) ∧ Nw w0 (w.setCell ⟨g, k, none⟩ (.int .u64 z)) := by
  subst hz
  have := Own.set h (by rw [ws_length, hl]) k (wv x)
  rw [← ws_set] at this
  exact ⟨this, hn.setCell hg _⟩
theorem own_cell {w : World} {B g n cap : Nat} {e : TypeId} {s : List Wd} (h : Own w B e (.slice (some ⟨g, 0, none⟩) n cap) (ws s)) (hl : n = s.length) (k : Nat) (hk : k < s.length) :
    w.cell? ⟨g, k, none⟩ = some (.int .u64 ((wd s k).toNat : Int)) ∧ w.frozen? ⟨g, k, none⟩ = false ∧ g < w.heap.size ∧ B ≤ g := by
  refine ⟨?_, Own.frozen h (by rw [ws_length, hl]) k, (World.ownsRow.lt h g rfl).2, Own.lt h g rfl⟩
  rw [Own.cell h (by rw [ws_length, hl]) k (by rw [ws_length]; exact hk), ws_get _ _ hk]
  rfl
theorem own_open {w : World} {B m : Nat} {e : TypeId} {v : Value} {t : List Wd} (h : Own w B e v ([] ++ ws t)) (hl : t.length = m) (h0 : 0 < m) : ∃ g cap, v = .slice (some ⟨g, 0, none⟩) m cap ∧ B ≤ g ∧ m ≤ cap ∧ cap ≤ maxLen ∧ Own w B e v (ws t) := by
  subst hl
  rw [List.nil_append] at h
  obtain ⟨g, cap, h1, h2, h3, h4⟩ := h.opened (by rw [ws_length]; exact h0)
  rw [ws_length] at h1 h3
  exact ⟨g, cap, h1, h2, h3, h4, h⟩
theorem own_sl {w : World} {B m : Nat} {e : TypeId} {v : Value} {t : List Wd} (h : Own w B e v ([] ++ ws t)) (hl : t.length = m) : ∃ p cap, v = .slice p m cap ∧ m ≤ cap ∧ cap ≤ maxLen ∧ Set w v t ∧ ∀ k, v.ownBlock = some k → B ≤ k := by
  subst hl
  rw [List.nil_append] at h
  obtain ⟨p, cap, h1, h2, h3, _⟩ := (show Set w v t from h.sl).open
  exact ⟨p, cap, h1, h2, h3, h.sl, h.lt⟩
set_option maxHeartbeats 800000 in
theorem cut_c (v : Value) (s : List Wd) (n : Int) (w : World) (hv : Set w v s) (hs : s.length ≤ 1073741824) (hn : n ≤ 9223372036854775807) : Calls Tryd.prog 31 #[v, .int .i64 n] w (HandsW w (cut s n)) := by
  by_cases h0 : n ≤ 0
  · have hd : decide (n ≤ 0) = true := decide_eq_true h0
    rw [cut_low s n h0]
    go_enter Tryd.func31, Tryd.ntmps31
    go_wp2
    go_ret
    exact ⟨_, rfl, Set.nil _, fun k hk => (by cases hk), (by repeat (first | assumption | exact Nw.refl _ | refine Nw.alloc ?_ _ | refine Nw.drew ?_ | refine Nw.drewN2 ?_ _ | (refine Nw.trans ?_ (by assumption))))⟩
  · have hd : decide (n ≤ 0) = false := decide_eq_false h0
    obtain ⟨p, cap, rfl, hcap, hmx, hnil, hc⟩ := hv.open
    have HM := hid hmx
    unfold maxLen at hmx
    rcases Int.lt_or_le ((n - 1) / 64 + 1) s.length with hx | hx
    · obtain ⟨q, hq⟩ : ∃ q : Nat, q = ((n - 1) / 64 + 1).toNat := ⟨_, rfl⟩
      have hlm : (s.take ((n - 1) / 64 + 1).toNat).length = ((n - 1) / 64 + 1).toNat := by simp; omega
      have hsm : Set w (.slice p ((n - 1) / 64 + 1).toNat cap) (s.take ((n - 1) / 64 + 1).toNat) := Set.mk (by rw [ws_take]; exact hc.take _) hlm.symm (by omega) HM.out hnil
      by_cases hi : n / 64 < (((n - 1) / 64 + 1).toNat : Int)
      · have hdi : decide (n / 64 < (((n - 1) / 64 + 1).toNat : Int)) = true := decide_eq_true hi
        have HR := hid (show trim ((s.take ((n - 1) / 64 + 1).toNat).set (n / 64).toNat (wd (s.take ((n - 1) / 64 + 1).toNat) (n / 64).toNat &&& mask n)) = cut s n by
          have h := cut_some s n (((n - 1) / 64 + 1).toNat) (by omega) (by omega) hi
          first | exact h | (rw [List.take_length] at h; exact h))
        rw [← HR.out]
        have HK := hid (mask_bv n (by omega))
        have HI := hid hi
        clear hlm hnil hc HR
        go_enter Tryd.func31, Tryd.ntmps31
        go_wp2_with (first
          | (at_builtin; refine app1 rfl _ _ _ rfl _ _ _ Tryd.underlying23 info_u64 rfl (by decide) (Nw.refl w) (Own.nil w _ _) rfl (hsm) rfl (ws_one _) ?_ ?_; rotate_left; (simp only [ws_length, List.length_nil, List.length_take]; omega); intro v1 w1 hown1 hg1 hn1; obtain ⟨g1, cap1, rfl, hgb, hcb, hmb, hown2⟩ := own_open hown1 (show (s.take ((n - 1) / 64 + 1).toNat).length = ((n - 1) / 64 + 1).toNat by first | rfl | (simp; omega)) (by omega); clear hown1)
          | fail)
        have hlk : (n / 64).toNat < (s.take ((n - 1) / 64 + 1).toNat).length := by rw [(show (s.take ((n - 1) / 64 + 1).toNat).length = ((n - 1) / 64 + 1).toNat by first | rfl | (simp; omega))]; omega
        obtain ⟨c1, c2, c3, c4⟩ := own_cell hown2 (show (s.take ((n - 1) / 64 + 1).toNat).length = ((n - 1) / 64 + 1).toNat by first | rfl | (simp; omega)).symm _ hlk
        have HO := hid hown2
        have HB := hid (and_bv (wd (s.take ((n - 1) / 64 + 1).toNat) (n / 64).toNat) (mask n))
        rw [HK.out] at HB
        clear hown2
        refine wp_region_end rfl (by kernel_rfl) (by kernel_rfl) (by kernel_rfl) (by kernel_rfl) (by kernel_rfl) ?_
        dsimp only [List.dropLast]
        iterate 9
          refine Stairs.is ?_ ?_ ?_
          rotate_left 1
          · intro x wR hR hd K hK
            simp only [Act.put, List.setIfInBounds_toArray, List.set_cons_zero, List.set_cons_succ, Nat.reduceAdd, List.length_nil, List.length_cons, List.nil_append, List.cons_append, Say.ok] at hK ⊢
            clear hd
            change Hid _ at hK
            obtain ⟨hcR, hfR, hzR⟩ := nwc hR
            first | (refine wanted_yes ?_ ?_; rfl) | (refine wanted_no ?_ ?_; rfl)
            go_wp2_with (first | fail)
            all_goals (refine hK.out _ _ ?_ ?_ <;> first | (solve | (repeat (first | assumption | exact Nw.refl _ | refine Nw.alloc ?_ _ | refine Nw.drew ?_ | refine Nw.drewN2 ?_ _ | (refine Nw.trans ?_ (by assumption))))) | exact rfl)
          try simp only [Act.put, List.setIfInBounds_toArray, List.set_cons_zero, List.set_cons_succ, Nat.reduceAdd, List.length_nil, List.length_cons, List.nil_append, List.cons_append]
        refine Stairs.nil ?_
        intro x wR hR hx
        clear hx
        obtain ⟨hcR, hfR, hzR⟩ := nwc hR
        try dsimp only
      
        go_wp2_with fail
        have hput := own_put (k := (n / 64).toNat) (HO.out.nw hR) (show (s.take ((n - 1) / 64 + 1).toNat).length = ((n - 1) / 64 + 1).toNat by first | rfl | (simp; omega)).symm (hn1.trans hR) hgb _ _ HB.out
        have hset : Set _ _ _ := hput.1.sl
        refine (trim_c _ _ _ hset).mono ?_
        rintro e w2 ⟨v2, rfl, h2, h3, h4⟩
        go_wp2
        go_ret
        exact ⟨v2, rfl, h2, fun q hq => (by have := h3 q hq; simp only [Value.ownBlock, Option.some.injEq] at this; omega), hput.2.trans h4⟩
      · have hdi : decide (n / 64 < (((n - 1) / 64 + 1).toNat : Int)) = false := decide_eq_false hi
        have HR := hid (show trim (s.take ((n - 1) / 64 + 1).toNat) = cut s n by
          have h := cut_none s n (((n - 1) / 64 + 1).toNat) (by omega) (by omega) hi
          first | exact h | (rw [List.take_length] at h; exact h))
        rw [← HR.out]
        clear hlm hnil hc HR
        go_enter Tryd.func31, Tryd.ntmps31
        go_wp2_with (first
          | (at_builtin; refine app1 rfl _ _ _ rfl _ _ _ Tryd.underlying23 info_u64 rfl (by decide) (Nw.refl w) (Own.nil w _ _) rfl (hsm) rfl (ws_one _) ?_ ?_; rotate_left; (simp only [ws_length, List.length_nil, List.length_take]; omega); intro v1 w1 hown1 hg1 hn1; obtain ⟨p1, cap1, rfl, hcb, hmb, hset, hfr⟩ := own_sl hown1 (show (s.take ((n - 1) / 64 + 1).toNat).length = ((n - 1) / 64 + 1).toNat by first | rfl | (simp; omega)); clear hown1)
          | (go_at_call 53; refine (trim_c _ _ _ (hset.nw (by repeat (first | assumption | exact Nw.refl _ | refine Nw.alloc ?_ _ | refine Nw.drew ?_ | refine Nw.drewN2 ?_ _ | (refine Nw.trans ?_ (by assumption)))))).mono ?_; rintro e w2 ⟨v2, rfl, h2, h3, h4⟩))
        go_ret
        exact ⟨v2, rfl, h2, fun q hq => hfr q (h3 q hq), (by repeat (first | assumption | exact Nw.refl _ | refine Nw.alloc ?_ _ | refine Nw.drew ?_ | refine Nw.drewN2 ?_ _ | (refine Nw.trans ?_ (by assumption))))⟩
    · have hlm : s.length = s.length := rfl
      have hsm : Set w (.slice p s.length cap) s := hv
      by_cases hi : n / 64 < (s.length : Int)
      · have hdi : decide (n / 64 < (s.length : Int)) = true := decide_eq_true hi
        have HR := hid (show trim (s.set (n / 64).toNat (wd s (n / 64).toNat &&& mask n)) = cut s n by
          have h := cut_some s n (s.length) (by omega) (by omega) hi
          first | exact h | (rw [List.take_length] at h; exact h))
        rw [← HR.out]
        have HK := hid (mask_bv n (by omega))
        have HI := hid hi
        clear hlm hnil hc HR
        go_enter Tryd.func31, Tryd.ntmps31
        go_wp2_with (first
          | (at_builtin; refine app1 rfl _ _ _ rfl _ _ _ Tryd.underlying23 info_u64 rfl (by decide) (Nw.refl w) (Own.nil w _ _) rfl (hsm) rfl (ws_one _) ?_ ?_; rotate_left; (simp only [ws_length, List.length_nil, List.length_take]; omega); intro v1 w1 hown1 hg1 hn1; obtain ⟨g1, cap1, rfl, hgb, hcb, hmb, hown2⟩ := own_open hown1 (show s.length = s.length by first | rfl | (simp; omega)) (by omega); clear hown1)
          | fail)
        have hlk : (n / 64).toNat < s.length := by rw [(show s.length = s.length by first | rfl | (simp; omega))]; omega
        obtain ⟨c1, c2, c3, c4⟩ := own_cell hown2 (show s.length = s.length by first | rfl | (simp; omega)).symm _ hlk
        have HO := hid hown2
        have HB := hid (and_bv (wd s (n / 64).toNat) (mask n))
        rw [HK.out] at HB
        clear hown2
        refine wp_region_end rfl (by kernel_rfl) (by kernel_rfl) (by kernel_rfl) (by kernel_rfl) (by kernel_rfl) ?_
        dsimp only [List.dropLast]
        iterate 9
          refine Stairs.is ?_ ?_ ?_
          rotate_left 1
          · intro x wR hR hd K hK
            simp only [Act.put, List.setIfInBounds_toArray, List.set_cons_zero, List.set_cons_succ, Nat.reduceAdd, List.length_nil, List.length_cons, List.nil_append, List.cons_append, Say.ok] at hK ⊢
            clear hd
            change Hid _ at hK
            obtain ⟨hcR, hfR, hzR⟩ := nwc hR
            first | (refine wanted_yes ?_ ?_; rfl) | (refine wanted_no ?_ ?_; rfl)
            go_wp2_with (first | fail)
            all_goals (refine hK.out _ _ ?_ ?_ <;> first | (solve | (repeat (first | assumption | exact Nw.refl _ | refine Nw.alloc ?_ _ | refine Nw.drew ?_ | refine Nw.drewN2 ?_ _ | (refine Nw.trans ?_ (by assumption))))) | exact rfl)
          try simp only [Act.put, List.setIfInBounds_toArray, List.set_cons_zero, List.set_cons_succ, Nat.reduceAdd, List.length_nil, List.length_cons, List.nil_append, List.cons_append]
        refine Stairs.nil ?_
        intro x wR hR hx
        clear hx
        obtain ⟨hcR, hfR, hzR⟩ := nwc hR
        try dsimp only
      
        go_wp2_with fail
        have hput := own_put (k := (n / 64).toNat) (HO.out.nw hR) (show s.length = s.length by first | rfl | (simp; omega)).symm (hn1.trans hR) hgb _ _ HB.out
        have hset : Set _ _ _ := hput.1.sl
        refine (trim_c _ _ _ hset).mono ?_
        rintro e w2 ⟨v2, rfl, h2, h3, h4⟩
        go_wp2
        go_ret
        exact ⟨v2, rfl, h2, fun q hq => (by have := h3 q hq; simp only [Value.ownBlock, Option.some.injEq] at this; omega), hput.2.trans h4⟩
      · have hdi : decide (n / 64 < (s.length : Int)) = false := decide_eq_false hi
        have HR := hid (show trim s = cut s n by
          have h := cut_none s n (s.length) (by omega) (by omega) hi
          first | exact h | (rw [List.take_length] at h; exact h))
        rw [← HR.out]
        clear hlm hnil hc HR
        go_enter Tryd.func31, Tryd.ntmps31
        go_wp2_with (first
          | (at_builtin; refine app1 rfl _ _ _ rfl _ _ _ Tryd.underlying23 info_u64 rfl (by decide) (Nw.refl w) (Own.nil w _ _) rfl (hsm) rfl (ws_one _) ?_ ?_; rotate_left; (simp only [ws_length, List.length_nil, List.length_take]; omega); intro v1 w1 hown1 hg1 hn1; obtain ⟨p1, cap1, rfl, hcb, hmb, hset, hfr⟩ := own_sl hown1 (show s.length = s.length by first | rfl | (simp; omega)); clear hown1)
          | (go_at_call 53; refine (trim_c _ _ _ (hset.nw (by repeat (first | assumption | exact Nw.refl _ | refine Nw.alloc ?_ _ | refine Nw.drew ?_ | refine Nw.drewN2 ?_ _ | (refine Nw.trans ?_ (by assumption)))))).mono ?_; rintro e w2 ⟨v2, rfl, h2, h3, h4⟩))
        go_ret
        exact ⟨v2, rfl, h2, fun q hq => hfr q (h3 q hq), (by repeat (first | assumption | exact Nw.refl _ | refine Nw.alloc ?_ _ | refine Nw.drew ?_ | refine Nw.drewN2 ?_ _ | (refine Nw.trans ?_ (by assumption))))⟩
/-! ### the reference's Cut -/
/-- A row that is being changed: the first k words are f's, the others g's. -/
def turn (n : Nat) (f g : Nat → Wd) (k : Nat) : List Wd := (List.range n).map fun i => if i < k then f i else g i
theorem turn_len (n : Nat) (f g : Nat → Wd) (k : Nat) : (turn n f g k).length = n := by simp [turn]
theorem turn_zero (s : List Wd) (f : Nat → Wd) : turn s.length f (wd s) 0 = s := by
  unfold turn
  apply List.ext_getElem?
  intro i
  by_cases h : i < s.length
  · simp [h, wd]
  · simp [h]
theorem turn_all (n : Nat) (f g : Nat → Wd) : trim (turn n f g n) = mk n f := by
  unfold mk turn
  congr 1
  exact List.map_congr_left fun i hi => if_pos (List.mem_range.1 hi)
theorem turn_wd (n : Nat) (f g : Nat → Wd) (k : Nat) (h : k < n) : wd (turn n f g k) k = g k := by simp [turn, wd, h]
theorem turn_set (n : Nat) (f g : Nat → Wd) (k : Nat) : (turn n f g k).set k (f k) = turn n f g (k + 1) := by
  apply List.ext_getElem?
  intro i
  rw [List.getElem?_set]
  unfold turn
  by_cases h : i < n
  · by_cases e : k = i
    · subst e; simp [h]
    · simp [h, e]
      by_cases e2 : i < k
      · rw [if_pos e2, if_pos (by omega)]
      · rw [if_neg e2, if_neg (by omega)]
  · by_cases e : k = i
    · subst e; simp [h]
    · simp [h, e]
theorem turn_skip (n : Nat) (f g : Nat → Wd) (k : Nat) (h : f k = g k) : turn n f g k = turn n f g (k + 1) := by
  unfold turn
  refine List.map_congr_left fun i _ => ?_
  by_cases e : i = k
  · subst e; simp [h]
  · by_cases e2 : i < k
    · rw [if_pos e2, if_pos (by omega)]
    · rw [if_neg e2, if_neg (by omega)]
set_option maxRecDepth 20000 in
set_option maxHeartbeats 1600000 in
theorem rcut_c (v : Value) (s : List Wd) (n : Int) (w : World) (hv : Set w v s) (hs : s.length ≤ 1073741824) (hn : n ≤ 9223372036854775807 ∧ -9223372036854775808 ≤ n) : Calls Tryd.prog 32 #[v, .int .i64 n] w (HandsW w (cut s n)) := by
  have HF := hid (show cut s n = trim (turn s.length (cutp s n) (wd s) s.length) by rw [turn_all]; rfl)
  rw [HF.out]
  obtain ⟨pv, cv, rfl, hv1, hv2, hv3, _⟩ := hv.open
  obtain ⟨n1, n2⟩ := hn
  go_enter Tryd.func32, Tryd.ntmps32
  go_wp2_with (first
    | ((at_builtin; refine app1 rfl _ _ _ rfl _ _ _ Tryd.underlying23 info_u64 rfl (by decide) ((Nw.refl w).alloc _) (Own.new w _ _ [] (Nat.le_refl _) (Nat.zero_le _)) rfl (Set.nw hv ((Nw.refl w).alloc _)) rfl (ws_one _) ?_ ?_; rotate_left; (simp only [ws_length, List.length_nil]; omega); intro v1 w1 hown1 hg1 hn1; obtain ⟨p1, cap1, rfl, hcb, hmb, hset, hfr⟩ := own_sl hown1 rfl))
    | fail)
  have hown : Own w1 w.heap.size 39 (.slice p1 s.length cap1) (ws (turn s.length (cutp s n) (wd s) 0)) := by rw [turn_zero]; simpa using hown1
  clear hown1 hset HF
  go_loopw [6, 12, 15, 27] (fun _ i _ _ wr => ∃ k : Nat, k ≤ s.length ∧ i = .int .i64 k ∧ Own wr w.heap.size 39 (.slice p1 s.length cap1) (ws (turn s.length (cutp s n) (wd s) k)) ∧ Nw w wr) (fun _ i _ _ _ => s.length - (intOf i).toNat)
  case atStart => exact ⟨0, Nat.zero_le _, rfl, hown, hn1⟩
  case round =>
    obtain ⟨k, hk, rfl, hownk, hn⟩ := hrel
    clear hown
    by_cases hlt : k < s.length
    · have hdk : decide (k < s.length) = true := decide_eq_true hlt
      obtain ⟨g, cap2, e1, hg2, hc2, hm2⟩ := hownk.opened (by rw [ws_length, turn_len]; omega)
      obtain rfl : p1 = some ⟨g, 0, none⟩ := by injection e1
      clear e1 hc2 hm2
      obtain ⟨q1, q2, q3, q4⟩ := own_cell hownk (turn_len _ _ _ _).symm k (by rw [turn_len]; exact hlt)
      have HO := hid hownk
      have HW := hid (turn_wd s.length (cutp s n) (wd s) k hlt)
      have HS := hid (turn_set s.length (cutp s n) (wd s) k)
      clear hownk
      by_cases h0 : n ≤ 0
      · have hd0 : decide (n ≤ 0) = true := decide_eq_true h0
        have HP := hid (show (0 : Int) = ((cutp s n k).toNat : Int) by unfold cutp cutw; rw [if_pos (Or.inl h0)]; rfl)
        go_wp2
        go_roundw
        case rel =>
          have hput := own_put (k := k) HO.out (turn_len _ _ _ _).symm hn hg2 _ _ HP.out
          rw [HS.out] at hput
          exact ⟨k + 1, by omega, by go_num, hput.1, hput.2⟩
        case measure => simp [intOf]; omega
      · have hd0 : decide (n ≤ 0) = false := decide_eq_false h0
        by_cases h1 : n / 64 < k
        · have hd1 : decide (n / 64 < (k : Int)) = true := decide_eq_true h1
          have HP := hid (show (0 : Int) = ((cutp s n k).toNat : Int) by unfold cutp cutw; rw [if_pos (Or.inr h1)]; rfl)
          go_wp2
          go_roundw
          case rel =>
            have hput := own_put (k := k) HO.out (turn_len _ _ _ _).symm hn hg2 _ _ HP.out
            rw [HS.out] at hput
            exact ⟨k + 1, by omega, by go_num, hput.1, hput.2⟩
          case measure => simp [intOf]; omega
        · have hd1 : decide (n / 64 < (k : Int)) = false := decide_eq_false h1
          by_cases h2 : n / 64 = k
          · have hd2 : (n / 64 == (k : Int)) = true := by simp [h2]
            have HP := hid (show bits .and .u64 ((wd (turn s.length (cutp s n) (wd s) k) k).toNat : Int) (IntKind.u64.wrap (IntKind.u64.wrap (2 ^ (n % 64).toNat) - 1)) = ((cutp s n k).toNat : Int) by
              rw [HW.out, ← mask_bv n (by omega), and_bv]
              unfold cutp cutw
              rw [if_neg (by omega), if_pos h2]; rfl)

            go_wp2
            go_roundw
            case rel =>
              have hput := own_put (k := k) HO.out (turn_len _ _ _ _).symm hn hg2 _ _ HP.out
              rw [HS.out] at hput
              exact ⟨k + 1, by omega, by go_num, hput.1, hput.2⟩
            case measure => simp [intOf]; omega
          · have hd2 : (n / 64 == (k : Int)) = false := by simp [h2]
            have HP := hid (turn_skip s.length (cutp s n) (wd s) k (by unfold cutp cutw; rw [if_neg (by omega), if_neg h2]))
            go_wp2
            go_roundw
            case rel => exact ⟨k + 1, by omega, by go_num, by rw [← HP.out]; exact HO.out, hn⟩
            case measure => simp [intOf]; omega
    · obtain rfl : k = s.length := by omega
      have hdk : decide (s.length < s.length) = false := decide_eq_false (by omega)
      have hset : Set wr (.slice p1 s.length cap1) _ := hownk.sl
      have hlo := hownk.lt
      clear hownk
      go_wp2_with (go_at_call 23; refine (rtrim_c _ _ _ hset (by rw [turn_len]; omega)).mono ?_; rintro e w2 ⟨v2, rfl, h2, h3, h4⟩)
      go_ret
      exact ⟨v2, rfl, h2, fun q hq => Nat.le_trans hn.size (h3 q hq), hn.trans h4⟩
end Words
end Go.Proofs.YteglnekgnbjkoaaDoor
