/- BitsBack walked: for any set and any number it returns true. -/
import Derived.Test.YteglnekgnbjkoaaDoorBitsLaws
namespace Go.Proofs.YteglnekgnbjkoaaDoor
open Go.ChangeShapes Go.WideShapes Go.ChangeAt Go.RowKit
namespace Words
theorem mask_get (n : Int) (j : Nat) (h : 0 ≤ n) : (mask n).getLsbD j = decide (j < (n % 64).toNat) := by
  have e : (mask n).toNat = 2 ^ (n % 64).toNat - 1 := by
    have := mask_bv n h
    have h1 : 2 ^ (n % 64).toNat < 2 ^ 64 := Nat.pow_lt_pow_right (by decide) (by omega)
    have h2 := Nat.two_pow_pos (n % 64).toNat
    have e2 : (2 : Int) ^ (n % 64).toNat = ((2 ^ (n % 64).toNat : Nat) : Int) := by simp
    rw [e2, IntKind.wrap_u64, IntKind.wrap_u64] at this
    omega
  show (mask n).toNat.testBit j = _
  rw [e, Nat.testBit_two_pow_sub_one]
theorem mem_cut (s : List Wd) (n : Int) (m : Nat) : mem (cut s n) m = (mem s m && decide ((m : Int) < n)) := by
  unfold mem
  rw [wd_cut]
  unfold cutw
  by_cases h1 : n ≤ 0 ∨ n / 64 < (m / 64 : Nat)
  · rw [if_pos h1, decide_eq_false (show ¬ (m : Int) < n by omega)]; simp
  · rw [if_neg h1]
    by_cases h2 : n / 64 = (m / 64 : Nat)
    · rw [if_pos h2, BitVec.getLsbD_and, show (1 : Wd) <<< (n.toNat % 64) - 1 = mask n from rfl, mask_get n _ (by omega)]
      congr 1
      rw [Bool.eq_iff_iff, decide_eq_true_iff, decide_eq_true_iff]; omega
    · rw [if_neg h2, decide_eq_true (show (m : Int) < n by omega), Bool.and_true]
theorem has_of (s : List Wd) (m : Nat) : has s (m : Int) = mem s m := by unfold has; simp
theorem list_lt (s : List Wd) (m : Nat) (h : m ∈ list s) : m < 64 * s.length := by
  rw [list_mem] at h
  unfold mem at h
  by_cases hl : m / 64 < s.length
  · omega
  · rw [wd_ge s _ (by omega)] at h; simp at h
theorem of_list (s : List Wd) (h : s.length ≤ 64) : same (of ((list s).map fun n : Nat => (n : Int))) s = true := same_yes (mem_ext fun m => by
  rw [mem_of, Bool.eq_iff_iff, decide_eq_true_iff, ← list_mem]
  constructor
  · rintro ⟨_, h2⟩
    obtain ⟨x, hx, e⟩ := List.mem_map.1 h2
    have : x = m := by omega
    rw [← this]; exact hx
  · intro hm
    have := list_lt s m hm
    exact ⟨by omega, List.mem_map.2 ⟨m, hm, rfl⟩⟩)
theorem list_step (s : List Wd) (k : Nat) (h0 : 0 < k) (h : k < (list s).length) : (list s)[k - 1] < (list s)[k] := (List.pairwise_iff_getElem.1 (list_rise s)) (k - 1) k (by omega) h (by omega)
theorem nums_cell {w : World} {p : Option Addr} {l : List Nat} (h : Cells w p (nums l)) (i : Nat) (hi : i < l.length) :
    ∃ b off, p = some ⟨b, off, none⟩ ∧ w.cell? ⟨b, off + i, none⟩ = some (.int .i64 (l[i] : Nat)) := by
  obtain ⟨b, off, e, h⟩ := h i (by rw [nums_length]; exact hi)
  refine ⟨b, off, e, ?_⟩
  rw [h]; simp [nums, i64s]
set_option maxRecDepth 20000 in
set_option maxHeartbeats 4000000 in
theorem back_walk (v : Value) (s : List Wd) (n : Int) (w : World) (ht : Tz w) (hv : Set w v s) (hn1 : -9223372036854775808 ≤ n) (hn2 : n ≤ 9223372036854775807) :
    Calls Tryd.prog 5 #[v, .int .i64 n] w (Gives (.bool true) w) := by
  obtain ⟨p, cap, rfl, hcap, hmx, _, _⟩ := hv.open
  unfold maxLen at hmx
  by_cases hs : s.length ≤ 64
  · have hd : decide ((64 : Int) < s.length) = false := decide_eq_false (by omega)
    have HS : Small s := Nat.le_trans hs (by decide)
    have HOL := hid (of_list s hs)
    go_enter Tryd.func5, Tryd.ntmps5
    go_wp2_with (first
      | (go_at_call 19; refine (list_c _ _ _ (Set.nw (by assumption) (by repeat (first | assumption | exact Nw.refl _ | refine Nw.alloc ?_ _ | refine Nw.drew ?_ | refine Nw.drewN2 ?_ _ | (refine Nw.trans ?_ (by assumption))))) (small_le (by repeat (first | assumption | refine or_small ?_ ?_ | refine and_small ?_ ?_ | refine less_small ?_ | refine cut_small ?_ | exact of_small _))) (ht.nw (by repeat (first | assumption | exact Nw.refl _ | refine Nw.alloc ?_ _ | refine Nw.drew ?_ | refine Nw.drewN2 ?_ _ | (refine Nw.trans ?_ (by assumption)))))).mono ?_; rintro e w1 ⟨v1, rfl, hs1, hf1, hn1⟩; obtain ⟨p1, c1, rfl, hc1, hm1, _, hcells⟩ := nums_open hs1))
    have hll := list_lt s
    have hm2 : (list s).length ≤ 9223372036854775807 := by unfold maxLen at hm1; omega
    have HCL := hid hcells
    clear hcells
    go_loopw [6, 7, 16] (fun _ _ i wr => ∃ k : Nat, k ≤ (list s).length ∧ i = .int .i64 k ∧ Nw w1 wr) (fun _ _ i _ => (list s).length - (intOf i).toNat)
    case atStart => exact ⟨0, Nat.zero_le _, rfl, Nw.refl _⟩
    case round =>
      obtain ⟨k, hk, rfl, hnr⟩ := hrel
      by_cases hlt : k < (list s).length
      · have hdk : decide (k < (list s).length) = true := decide_eq_true hlt
        obtain ⟨b1, o1, rfl, hcell⟩ := nums_cell (HCL.out.nw hnr) k hlt
        have hb1 : b1 < wr.heap.size := World.block_lt_of_cell? wr _ hcell
        have hmem : (list s)[k] ∈ list s := List.getElem_mem hlt
        have hxl := hll _ hmem
        have h1 : has s ((list s)[k] : Nat) = true := by rw [has_of, ← list_mem]; exact hmem
        have h2 : (has (cut s n) ((list s)[k] : Nat) == decide ((((list s)[k] : Nat) : Int) < n)) = true := by
          rw [has_of, mem_cut, ← has_of s, h1]; simp
        by_cases h0 : 0 < k
        · have hd0 : decide ((0 : Int) < k) = true := decide_eq_true (by omega)
          obtain ⟨b2, o2, e2, hcell2⟩ := nums_cell (HCL.out.nw hnr) (k - 1) (by omega)
          cases e2
          have hyx := list_step s k h0 hlt
          have h3 : decide ((list s)[k] ≤ (list s)[k - 1]) = false := decide_eq_false (by omega)
          have ek : ((k : Int) - 1).toNat = k - 1 := by omega
          generalize (list s)[k] = x at *
          generalize (list s)[k - 1] = y at *
          go_wp2_with (first
            | (go_at_call 16; refine (has_c _ _ _ _ (Set.nw (by assumption) (by repeat (first | assumption | exact Nw.refl _ | refine Nw.alloc ?_ _ | refine Nw.drew ?_ | refine Nw.drewN2 ?_ _ | (refine Nw.trans ?_ (by assumption))))) (by omega)).mono ?_; rintro e wB ⟨rfl, hnB⟩; obtain ⟨hcB, hfB2, hzB⟩ := nwc hnB)
            | (go_at_call 31; refine (cut_c _ _ _ _ (Set.nw (by assumption) (by repeat (first | assumption | exact Nw.refl _ | refine Nw.alloc ?_ _ | refine Nw.drew ?_ | refine Nw.drewN2 ?_ _ | (refine Nw.trans ?_ (by assumption))))) (small_le (by repeat (first | assumption | refine or_small ?_ ?_ | refine and_small ?_ ?_ | refine less_small ?_ | refine cut_small ?_ | exact of_small _))) (by omega)).mono ?_; rintro e wC ⟨vC, rfl, hsC, hfC, hnC⟩; obtain ⟨pC, cC, rfl, _⟩ := hsC.open)
            | fail)
          go_roundw
          case rel => exact ⟨k + 1, by omega, by go_num, (by repeat (first | assumption | exact Nw.refl _ | refine Nw.alloc ?_ _ | refine Nw.drew ?_ | refine Nw.drewN2 ?_ _ | (refine Nw.trans ?_ (by assumption))))⟩
          case measure => simp [intOf]; omega
        · have hd0 : decide ((0 : Int) < k) = false := decide_eq_false (by omega)
          generalize (list s)[k] = x at *
          go_wp2_with (first
            | (go_at_call 16; refine (has_c _ _ _ _ (Set.nw (by assumption) (by repeat (first | assumption | exact Nw.refl _ | refine Nw.alloc ?_ _ | refine Nw.drew ?_ | refine Nw.drewN2 ?_ _ | (refine Nw.trans ?_ (by assumption))))) (by omega)).mono ?_; rintro e wB ⟨rfl, hnB⟩; obtain ⟨hcB, hfB2, hzB⟩ := nwc hnB)
            | (go_at_call 31; refine (cut_c _ _ _ _ (Set.nw (by assumption) (by repeat (first | assumption | exact Nw.refl _ | refine Nw.alloc ?_ _ | refine Nw.drew ?_ | refine Nw.drewN2 ?_ _ | (refine Nw.trans ?_ (by assumption))))) (small_le (by repeat (first | assumption | refine or_small ?_ ?_ | refine and_small ?_ ?_ | refine less_small ?_ | refine cut_small ?_ | exact of_small _))) (by omega)).mono ?_; rintro e wC ⟨vC, rfl, hsC, hfC, hnC⟩; obtain ⟨pC, cC, rfl, _⟩ := hsC.open)
            | fail)
          go_roundw
          case rel => exact ⟨k + 1, by omega, by go_num, (by repeat (first | assumption | exact Nw.refl _ | refine Nw.alloc ?_ _ | refine Nw.drew ?_ | refine Nw.drewN2 ?_ _ | (refine Nw.trans ?_ (by assumption))))⟩
          case measure => simp [intOf]; omega
      · obtain rfl : k = (list s).length := by omega
        have hdk : decide ((list s).length < (list s).length) = false := decide_eq_false (by omega)
        have hce : (((list s).length : Int) == (count s : Int)) = true := beq_self_eq_true _
        have hol := HOL.out
        have hsl : Sl w1 (.slice p1 (list s).length c1) (i64s ((list s).map fun n : Nat => (n : Int))) := hs1
        go_wp2_with (first
          | (go_at_call 21; refine (count_c _ _ _ (Set.nw (by assumption) (by repeat (first | assumption | exact Nw.refl _ | refine Nw.alloc ?_ _ | refine Nw.drew ?_ | refine Nw.drewN2 ?_ _ | (refine Nw.trans ?_ (by assumption))))) (small_le (by repeat (first | assumption | refine or_small ?_ ?_ | refine and_small ?_ ?_ | refine less_small ?_ | refine cut_small ?_ | exact of_small _)))).mono ?_; rintro e wB ⟨rfl, hnB⟩)
          | (go_at_call 13; refine (of_c _ _ _ (hsl.nw (by repeat (first | assumption | exact Nw.refl _ | refine Nw.alloc ?_ _ | refine Nw.drew ?_ | refine Nw.drewN2 ?_ _ | (refine Nw.trans ?_ (by assumption)))))).mono ?_; rintro e wC ⟨vC, rfl, hsC, hfC, hnC⟩; obtain ⟨pC, cC, rfl, _⟩ := hsC.open)
          | (go_at_call 30; refine (same_c _ _ _ _ _ (Set.nw (by assumption) (by repeat (first | assumption | exact Nw.refl _ | refine Nw.alloc ?_ _ | refine Nw.drew ?_ | refine Nw.drewN2 ?_ _ | (refine Nw.trans ?_ (by assumption))))) (Set.nw (by assumption) (by repeat (first | assumption | exact Nw.refl _ | refine Nw.alloc ?_ _ | refine Nw.drew ?_ | refine Nw.drewN2 ?_ _ | (refine Nw.trans ?_ (by assumption)))))).mono ?_; rintro e wB ⟨rfl, hnB⟩)
          | (go_at_call 12; refine (awake_c _ (ht.nw (by repeat (first | assumption | exact Nw.refl _ | refine Nw.alloc ?_ _ | refine Nw.drew ?_ | refine Nw.drewN2 ?_ _ | (refine Nw.trans ?_ (by assumption)))))).mono ?_; rintro e wB ⟨rfl, hnB⟩))
        go_ret
        exact Gives.b rfl (by repeat (first | assumption | exact Nw.refl _ | refine Nw.alloc ?_ _ | refine Nw.drew ?_ | refine Nw.drewN2 ?_ _ | (refine Nw.trans ?_ (by assumption))))
  · have hd : decide ((64 : Int) < s.length) = true := decide_eq_true (by omega)
    go_enter Tryd.func5, Tryd.ntmps5
    go_wp2_with (go_at_call 12; refine (awake_c _ (ht.nw (by repeat (first | assumption | exact Nw.refl _ | refine Nw.alloc ?_ _ | refine Nw.drew ?_ | refine Nw.drewN2 ?_ _ | (refine Nw.trans ?_ (by assumption)))))).mono ?_; rintro e wB ⟨rfl, hnB⟩)
    go_ret
    exact Gives.b rfl (by repeat (first | assumption | exact Nw.refl _ | refine Nw.alloc ?_ _ | refine Nw.drew ?_ | refine Nw.drewN2 ?_ _ | (refine Nw.trans ?_ (by assumption))))
end Words
end Go.Proofs.YteglnekgnbjkoaaDoor
