/- The contracts of bits.Within, Same, Cut and of the reference's Cut. -/
import Derived.Test.YthellicimicieaaBitsD
set_option linter.unusedSimpArgs false
set_option linter.unusedVariables false
namespace Go.Proofs.Ythellicimicieaa
open Go.ChangeShapes Go.WideShapes Go.ChangeAt Go.RowKit
namespace Words
theorem within_snoc (a b : List Wd) (k : Nat) (h : ∀ i, i < k → wd a i &&& ~~~ wd b i = 0) (hk : wd a k &&& ~~~ wd b k = 0) : ∀ i, i < k + 1 → wd a i &&& ~~~ wd b i = 0 := fun i hi => by
  rcases Nat.lt_or_ge i k with h1 | h1
  · exact h i h1
  · obtain rfl : i = k := by omega
    exact hk
set_option maxHeartbeats 400000 in
theorem within_c (u v : Value) (a b : List Wd) (w : World) (hu : Set w u a) (hv : Set w v b) : Calls Try.prog 59 #[u, v] w (Gives (.bool (within a b)) w) := by
  obtain ⟨p, cap, rfl, hcap, hmx, _, hc⟩ := hu.open
  unfold maxLen at hmx
  have HC := hid hc
  have HU := hid hu
  clear hc hu
  go_enter Try.func59, Try.ntmps59
  go_wp2
  go_loopw [5, 6, 9] (fun _ _ i wr => ∃ k : Nat, k ≤ a.length ∧ i = .int .i64 k ∧ Hid (∀ i, i < k → wd a i &&& ~~~ wd b i = 0) ∧ Nw w wr) (fun _ _ i _ => a.length - (intOf i).toNat)
  case atStart => exact ⟨0, Nat.zero_le _, rfl, fun i h => by omega, Nw.refl _⟩
  case round =>
    obtain ⟨k, hk, rfl, HA, hn⟩ := hrel
    by_cases hlt : k < a.length
    · have hdk : decide (k < a.length) = true := decide_eq_true hlt
      obtain ⟨b1, o1, rfl, hcell⟩ := ws_cell (HC.out.nw hn) k hlt
      have HL := hid (less_bv (wd a k) (wd b k))
      by_cases hz : wd a k &&& ~~~ wd b k = 0
      · have hb : (bits .andNot .u64 ((wd a k).toNat : Int) ((wd b k).toNat : Int) != 0) = false := by rw [HL.out, hz]; rfl
        have HS := hid (within_snoc a b k HA.out hz)
        clear hz
        go_wp2_with (go_at_call 57; refine (at_c _ _ _ _ (hv.nw hn) (by omega)).mono ?_; rintro e w3 ⟨rfl, hn3⟩; obtain ⟨hc3, hf3, hz3⟩ := nwc hn3)
        go_roundw
        case rel => exact ⟨k + 1, by omega, by go_num, HS, hn.trans hn3⟩
        case measure => simp [intOf]; omega
      · have hb : (bits .andNot .u64 ((wd a k).toNat : Int) ((wd b k).toNat : Int) != 0) = true := by
          rw [HL.out, bne_iff_ne]; exact fun h => hz (wd_zero_iff.1 h)
        have HS := hid (show within a b = false from decide_eq_false (fun h => hz (h k hlt)))
        clear hz
        go_wp2_with (go_at_call 57; refine (at_c _ _ _ _ (hv.nw hn) (by omega)).mono ?_; rintro e w3 ⟨rfl, hn3⟩; obtain ⟨hc3, hf3, hz3⟩ := nwc hn3)
        go_ret
        exact Gives.b HS.out.symm (hn.trans hn3)
    · obtain rfl : k = a.length := by omega
      have hdk : decide (a.length < a.length) = false := decide_eq_false (by omega)
      have HS := hid (show within a b = true from decide_eq_true HA.out)
      go_wp2
      go_ret
      exact Gives.b HS.out.symm hn
theorem same_c (u v : Value) (a b : List Wd) (w : World) (hu : Set w u a) (hv : Set w v b) : Calls Try.prog 38 #[u, v] w (Gives (.bool (same a b)) w) := by
  have HS := hid (same_within a b)
  cases h1 : within a b
  all_goals
    rw [h1] at HS
    have H1 := fun w hu hv => within_c u v a b w hu hv
    rw [h1] at H1
    have HW1 := hid H1
    clear H1 h1
    go_enter Try.func38, Try.ntmps38
    go_wp2_with fail
    refine (HW1.out _ hu hv).mono ?_
    rintro e w1 ⟨rfl, hn1⟩
    go_wp2_with (go_at_call 59; refine (within_c _ _ _ _ _ (hv.nw hn1) (hu.nw hn1)).mono ?_; rintro e w2 ⟨rfl, hn2⟩)
    go_ret
    exact Gives.b (by rw [HS.out]; rfl) (by repeat (first | assumption | exact Nw.refl _ | refine Nw.alloc ?_ _ | refine Nw.drew ?_ | refine Nw.drewN2 ?_ _ | (refine Nw.trans ?_ (by assumption))))
/-! ### Cut -/
def cutp (s : List Wd) (n : Int) (i : Nat) : Wd := cutw n i (wd s i)
theorem cut_low (s : List Wd) (n : Int) (h : n ≤ 0) : cut s n = [] := by
  unfold cut mk
  rw [trim_nil]
  intro i
  rw [wd_map]
  split
  · unfold cutw; rw [if_pos (Or.inl h)]
  · rfl
def mask (n : Int) : Wd := (1 : Wd) <<< (n.toNat % 64) - 1
theorem mask_bv (n : Int) (h : 0 ≤ n) : ((mask n).toNat : Int) = IntKind.u64.wrap (IntKind.u64.wrap (2 ^ (n % 64).toNat) - 1) := by
  have hk : n.toNat % 64 < 64 := by omega
  have e : (n % 64).toNat = n.toNat % 64 := by omega
  have hb := bit_bv _ hk
  have h1 : 2 ^ (n.toNat % 64) < 2 ^ 64 := Nat.pow_lt_pow_right (by decide) hk
  have h2 : 0 < 2 ^ (n.toNat % 64) := Nat.two_pow_pos _
  have e2 : (2 : Int) ^ (n.toNat % 64) = ((2 ^ (n.toNat % 64) : Nat) : Int) := by simp
  have hb' : (bit (n.toNat % 64)).toNat = 2 ^ (n.toNat % 64) := by rw [e2] at hb; omega
  show ((bit (n.toNat % 64) - 1).toNat : Int) = _
  rw [BitVec.toNat_sub_of_le (by rw [BitVec.le_def, hb']; exact h2), hb', e, e2]
  simp only [show ((1 : Wd).toNat) = 1 from rfl, IntKind.wrap_u64]
  omega
theorem cut_none (s : List Wd) (n : Int) (m : Nat) (h : 0 < n) (hm : m = min s.length ((n - 1) / 64 + 1).toNat) (hi : ¬ n / 64 < m) : trim (s.take m) = cut s n := by
  refine (trim_iff.2 fun i => ?_).trans (cut_trim s n)
  rw [wd_cut]
  unfold cutw
  by_cases him : i < m
  · rw [if_neg (by omega), if_neg (by omega)]
    simp [wd, him]
  · rw [wd_ge (s.take m) i (by simp; omega)]
    split
    · rfl
    · by_cases hl : i < s.length
      · split
        · have : n % 64 = 0 := by omega
          have e : n.toNat % 64 = 0 := by omega
          rw [e]; simp
        · omega
      · rw [wd_ge s i (by omega)]; split <;> simp
theorem cut_some (s : List Wd) (n : Int) (m : Nat) (h : 0 < n) (hm : m = min s.length ((n - 1) / 64 + 1).toNat) (hi : n / 64 < m) : trim ((s.take m).set (n / 64).toNat (wd (s.take m) (n / 64).toNat &&& mask n)) = cut s n := by
  refine (trim_iff.2 fun i => ?_).trans (cut_trim s n)
  rw [wd_cut]
  unfold cutw
  have hlt : (s.take m).length = m := by simp; omega
  by_cases him : i < m
  · by_cases he : (n / 64).toNat = i
    · subst he
      rw [if_neg (by omega), if_pos (by omega)]
      have hl2 : (n / 64).toNat < s.length := by omega
      simp [wd, hlt, him, mask, hl2]
    · rw [if_neg (by omega), if_neg (by omega)]
      simp [wd, he, him]
  · rw [wd_ge _ i (by rw [List.length_set]; omega)]
    split
    · rfl
    · rw [if_neg (by omega)]
      by_cases hl : i < s.length
      · omega
      · rw [wd_ge s i (by omega)]
theorem own_put {w w0 : World} {B g n cap : Nat} {e : TypeId} {s : List Wd} {k : Nat} (h : Own w B e (.slice (some ⟨g, 0, none⟩) n cap) (ws s)) (hl : n = s.length) (hn : Nw w0 w) (hg : w0.heap.size ≤ g) (z : Int) (x : Wd) (hz : z = (x.toNat : Int)) :
    Own (w.setCell ⟨g, k, none⟩ (.int .u64 z)) B e (.slice (some ⟨g, 0, none⟩) n cap) (ws (s.set k x)) ∧ Nw w0 (w.setCell ⟨g, k, none⟩ (.int .u64 z)) := by
  subst hz
  have := Own.set h (by rw [ws_length, hl]) k (wv x)
  rw [← ws_set] at this
  exact ⟨this, hn.setCell hg _⟩
theorem own_cell {w : World} {B g n cap : Nat} {e : TypeId} {s : List Wd} (h : Own w B e (.slice (some ⟨g, 0, none⟩) n cap) (ws s)) (hl : n = s.length) (k : Nat) (hk : k < s.length) :
    w.cell? ⟨g, k, none⟩ = some (.int .u64 ((wd s k).toNat : Int)) ∧ w.frozen? ⟨g, k, none⟩ = false ∧ g < w.heap.size ∧ B ≤ g := by
  refine ⟨?_, Own.frozen h (by rw [ws_length, hl]) k, (World.ownsRow.lt h g rfl).2, Own.lt h g rfl⟩
  rw [Own.cell h (by rw [ws_length, hl]) k (by rw [ws_length]; exact hk), ws_get _ _ hk]
  rfl
theorem own_open {w : World} {B m : Nat} {e : TypeId} {v : Value} {t : List Wd} (h : Own w B e v ([] ++ ws t)) (hl : t.length = m) (h0 : 0 < m) : ∃ g cap, v = .slice (some ⟨g, 0, none⟩) m cap ∧ B ≤ g ∧ m ≤ cap ∧ cap ≤ maxLen ∧ Own w B e v (ws t) := by
  subst hl
  rw [List.nil_append] at h
  obtain ⟨g, cap, h1, h2, h3, h4⟩ := h.opened (by rw [ws_length]; exact h0)
  rw [ws_length] at h1 h3
  exact ⟨g, cap, h1, h2, h3, h4, h⟩
theorem own_sl {w : World} {B m : Nat} {e : TypeId} {v : Value} {t : List Wd} (h : Own w B e v ([] ++ ws t)) (hl : t.length = m) : ∃ p cap, v = .slice p m cap ∧ m ≤ cap ∧ cap ≤ maxLen ∧ Set w v t ∧ ∀ k, v.ownBlock = some k → B ≤ k := by
  subst hl
  rw [List.nil_append] at h
  obtain ⟨p, cap, h1, h2, h3, _⟩ := (show Set w v t from h.sl).open
  exact ⟨p, cap, h1, h2, h3, h.sl, h.lt⟩
/-! ### the reference's Cut -/
/-- A row that is being changed: the first k words are f's, the others g's. -/
def turn (n : Nat) (f g : Nat → Wd) (k : Nat) : List Wd := (List.range n).map fun i => if i < k then f i else g i
theorem turn_len (n : Nat) (f g : Nat → Wd) (k : Nat) : (turn n f g k).length = n := by simp [turn]
theorem turn_zero (s : List Wd) (f : Nat → Wd) : turn s.length f (wd s) 0 = s := by
  unfold turn
  apply List.ext_getElem?
  intro i
  by_cases h : i < s.length
  · simp [h, wd]
  · simp [h]
theorem turn_all (n : Nat) (f g : Nat → Wd) : trim (turn n f g n) = mk n f := by
  unfold mk turn
  congr 1
  exact List.map_congr_left fun i hi => if_pos (List.mem_range.1 hi)
theorem turn_wd (n : Nat) (f g : Nat → Wd) (k : Nat) (h : k < n) : wd (turn n f g k) k = g k := by simp [turn, wd, h]
theorem turn_set (n : Nat) (f g : Nat → Wd) (k : Nat) : (turn n f g k).set k (f k) = turn n f g (k + 1) := by
  apply List.ext_getElem?
  intro i
  rw [List.getElem?_set]
  unfold turn
  by_cases h : i < n
  · by_cases e : k = i
    · subst e; simp [h]
    · simp [h, e]
      by_cases e2 : i < k
      · rw [if_pos e2, if_pos (by omega)]
      · rw [if_neg e2, if_neg (by omega)]
  · by_cases e : k = i
    · subst e; simp [h]
    · simp [h, e]
theorem turn_skip (n : Nat) (f g : Nat → Wd) (k : Nat) (h : f k = g k) : turn n f g k = turn n f g (k + 1) := by
  unfold turn
  refine List.map_congr_left fun i _ => ?_
  by_cases e : i = k
  · subst e; simp [h]
  · by_cases e2 : i < k
    · rw [if_pos e2, if_pos (by omega)]
    · rw [if_neg e2, if_neg (by omega)]
end Words
end Go.Proofs.Ythellicimicieaa
