/- The contracts of bits.Count, List and of the reference's List: how many numbers a set has, and which, rising. -/
import Derived.Test.YteglnekgnbjkoaaDoorBitsG
namespace Go.Proofs.YteglnekgnbjkoaaDoor
open Go.ChangeShapes Go.WideShapes Go.ChangeAt Go.RowKit
namespace Words
def onf (s : List Wd) (i : Nat) : Nat := (ones (wd s i)).length
theorem onf_le (s : List Wd) (k : Nat) : sum k (onf s) ≤ 64 * k := by
  induction k with
  | zero => simp [sum]
  | succ k ih => rw [sum_succ]; have := ones_len (wd s k); unfold onf at *; omega
theorem count_onf (s : List Wd) : count s = sum s.length (onf s) := count_sum s s.length (Nat.le_refl _)
set_option maxRecDepth 20000 in
set_option maxHeartbeats 800000 in
theorem count_c (v : Value) (s : List Wd) (w : World) (hv : Set w v s) (hs : s.length ≤ 1073741824) : Calls Tryd.prog 21 #[v] w (Gives (.int .i64 (count s : Int)) w) := by
  obtain ⟨p, cap, rfl, hcap, hmx, _, hc⟩ := hv.open
  unfold maxLen at hmx
  have HC := hid hc
  clear hc hv
  go_enter Tryd.func21, Tryd.ntmps21
  go_wp2
  go_loopw [3, 5, 8] (fun u _ i wr => ∃ k : Nat, k ≤ s.length ∧ i = .int .i64 k ∧ u = .int .i64 (sum k (onf s) : Nat) ∧ Nw w wr) (fun _ _ i _ => s.length - (intOf i).toNat)
  case atStart => exact ⟨0, Nat.zero_le _, rfl, rfl, Nw.refl _⟩
  case round =>
    obtain ⟨k, hk, rfl, rfl, hn⟩ := hrel
    have hle := onf_le s k
    by_cases hlt : k < s.length
    · have hdk : decide (k < s.length) = true := decide_eq_true hlt
      obtain ⟨b1, o1, rfl, hcell⟩ := ws_cell (HC.out.nw hn) k hlt
      have hl := ones_len (wd s k)
      have HO := hid (ones_count (wd s k))
      have HS := hid (sum_succ k (onf s))
      have HE := hid (show onf s k = (ones (wd s k)).length from rfl)
      generalize sum k (onf s) = q at *
      go_wp2_with (go_at_call 51; refine (pop_c _ _ (wd s k).isLt).mono ?_; rw [HO.out]; rintro e w3 ⟨rfl, hn3⟩)
      go_roundw
      case rel => exact ⟨k + 1, by omega, by go_num, by rw [HS.out, HE.out]; go_num, hn.trans hn3⟩
      case measure => simp [intOf]; omega
    · obtain rfl : k = s.length := by omega
      have hdk : decide (s.length < s.length) = false := decide_eq_false (by omega)
      have HE := hid (count_onf s)
      go_wp2
      go_ret
      exact Gives.i (by rw [HE.out]) hn
/-! ### Lists of numbers -/
def nums (l : List Nat) : List Value := i64s (l.map fun n : Nat => (n : Int))
theorem nums_length (l : List Nat) : (nums l).length = l.length := by simp [nums, i64s]
theorem nums_append (a b : List Nat) : nums a ++ nums b = nums (a ++ b) := by simp [nums, i64s]
theorem nums_one (l : List Nat) : ∀ u ∈ nums l, u.oneCell' = true := by
  intro u hu
  obtain ⟨x, _, rfl⟩ := List.mem_map.1 hu
  rfl
theorem info_i64 : (Tryd.prog.info? 3).map (fun i => (i.zero, i.size, i.bytes)) = some (some (.int .i64 0), 1, 8) := by kernel_rfl
/-- A call hands back a slice of these numbers, of its own. -/
def HandsN (w : World) (l : List Nat) (e : Ending) (w' : World) : Prop := ∃ v, e = .returned v ∧ Sl w' v (nums l) ∧ (∀ k, v.ownBlock = some k → w.heap.size ≤ k) ∧ Nw w w'
def lis (s : List Wd) (k : Nat) : List Nat := (List.range k).flatMap fun i => (ones (wd s i)).map (64 * i + ·)
theorem lis_succ (s : List Wd) (k : Nat) : lis s (k + 1) = lis s k ++ (ones (wd s k)).map (64 * k + ·) := by
  unfold lis
  rw [List.range_succ, List.flatMap_append, List.flatMap_singleton]
theorem lis_len (s : List Wd) (k : Nat) : (lis s k).length ≤ 64 * k := by
  induction k with
  | zero => simp [lis]
  | succ k ih => rw [lis_succ, List.length_append, List.length_map]; have := ones_len (wd s k); omega
theorem sub_bv (x : Wd) (h : x ≠ 0) : ((x.toNat : Int) - 1) = ((x - 1).toNat : Int) := by
  have hp : 0 < x.toNat := by
    rcases Nat.eq_zero_or_pos x.toNat with h0 | h0
    · exact absurd (BitVec.eq_of_toNat_eq (by simpa using h0)) h
    · exact h0
  have := x.isLt
  rw [BitVec.toNat_sub_of_le (by rw [BitVec.le_def]; exact hp)]
  simp only [show ((1 : Wd).toNat) = 1 from rfl]
  omega
theorem low_bv (x : Wd) (h : x ≠ 0) : bits .and .u64 (x.toNat : Int) ((x.toNat : Int) - 1) = ((x &&& (x - 1)).toNat : Int) := by rw [sub_bv x h, and_bv]
def onesIn (v : Value) : Nat := match v with | .int _ z => (ones (BitVec.ofInt 64 z)).length | _ => 0
theorem onesIn_eq (x : Wd) : onesIn (.int .u64 (x.toNat : Int)) = (ones x).length := by
  unfold onesIn
  simp
set_option maxRecDepth 20000 in
set_option maxHeartbeats 1600000 in
theorem list_c (v : Value) (s : List Wd) (w : World) (hv : Set w v s) (hs : s.length ≤ 1073741824) (ht : Tz w) : Calls Tryd.prog 19 #[v] w (HandsN w (list s)) := by
  obtain ⟨p, cap, rfl, hcap, hmx, _, hc⟩ := hv.open
  unfold maxLen at hmx
  have HC := hid hc
  clear hc hv
  go_enter Tryd.func19, Tryd.ntmps19
  go_wp2
  go_loopw [3, 4, 5, 8] (fun u _ _ i wr => ∃ k : Nat, k ≤ s.length ∧ i = .int .i64 k ∧ Own wr w.heap.size 3 u (nums (lis s k)) ∧ Nw w wr) (fun _ _ _ i _ => s.length - (intOf i).toNat)
  case atStart => exact ⟨0, Nat.zero_le _, rfl, (by simpa [lis, nums, i64s] using Own.nil w w.heap.size 3), Nw.refl _⟩
  case round =>
    obtain ⟨k, hk, rfl, hownk, hn⟩ := hrel
    have hle := lis_len s k
    by_cases hlt : k < s.length
    · have hdk : decide (k < s.length) = true := decide_eq_true hlt
      obtain ⟨b1, o1, rfl, hcell⟩ := ws_cell (HC.out.nw hn) k hlt
      have HS := hid (lis_succ s k)
      have hle2 := lis_len s (k + 1)
      have HO := hid hownk
      clear hownk
      go_wp2
      go_loopw [3, 5] (fun u z wx => ∃ (x : Wd) (D : List Nat), z = .int .u64 (x.toNat : Int) ∧ Own wx w.heap.size 3 u (nums D) ∧ Nw w wx ∧ Hid (D ++ (ones x).map (64 * k + ·) = lis s (k + 1))) (fun _ z _ => onesIn z)
      case atStart => exact ⟨wd s k, lis s k, rfl, HO.out, hn, HS.out.symm⟩
      case round =>
        obtain ⟨y, D, rfl, hownD, hnx, HD⟩ := hrel
        by_cases hz : y = 0
        · have hb : (((y.toNat : Nat) : Int) != 0) = false := by rw [hz]; rfl
          have HF := hid (show D = lis s (k + 1) by rw [← HD.out, hz, ones_zero]; simp)
          go_wp2
          go_roundw
          case rel => exact ⟨k + 1, by omega, by go_num, by rw [← HF.out]; exact hownD, hnx⟩
          case measure => simp [intOf]; omega
        · have hb : (((y.toNat : Nat) : Int) != 0) = true := by rw [bne_iff_ne]; exact fun h => hz (wd_zero_iff.1 h)
          have hy0 : y.toNat ≠ 0 := fun h => hz (BitVec.eq_of_toNat_eq (by simpa using h))
          obtain ⟨hct, hst⟩ := ctz_ones y hz
          have HCT := hid hst
          have HLB := hid (low_bv y hz)
          have hDl : D.length + (ones y).length ≤ 64 * (k + 1) := by
            have := congrArg List.length HD.out
            rw [List.length_append, List.length_map] at this; omega
          have hDl2 : (ones y).length ≤ 64 := ones_len y
          clear hst
          obtain ⟨pD, cD, rfl, _, hmD, _⟩ := hownD.sl.open (nums_length D)
          unfold maxLen at hmD
          have htz := fun W (h : Tz W) => tz_c y.toNat W y.isLt hy0 h
          generalize Lib.ctz 64 y.toNat = c at *
          have HTZ := hid htz
          clear htz
          go_wp2_with (first
            | (go_at_call 50; refine (HTZ.out _ (ht.nw hnx)).mono ?_; rintro e w3 ⟨rfl, hn3⟩)
            | (at_builtin; refine app1 rfl _ _ _ rfl _ _ _ Tryd.underlying22 info_i64 rfl (by decide) ((hnx.trans hn3).alloc _) ((hownD.nw hn3).nw ((Nw.refl _).alloc _)) rfl (Sl.new w3 [_] _ _ (by simp [maxLen])) rfl (by simp [Value.oneCell']) ?_ ?_; rotate_left; (simp only [nums_length, List.length_cons, List.length_nil]; omega); intro v1 w1 hown1 hg1 hn1)
            | fail)
          go_roundw
          case rel =>
            refine ⟨y &&& (y - 1), D ++ [64 * k + c], by rw [HLB.out], ?_, hn1, ?_⟩
            · rw [← nums_append]
              have e : nums [64 * k + c] = [.int .i64 ((k : Int) * 64 + (c : Int))] := by simp [nums, i64s]; omega
              rw [e]; exact hown1
            · show _ = _
              rw [← HD.out, HCT.out, List.map_cons, List.append_assoc]; rfl
          case measure =>
            rw [HLB.out, onesIn_eq, onesIn_eq, HCT.out, List.length_cons]; omega
    · obtain rfl : k = s.length := by omega
      have hdk : decide (s.length < s.length) = false := decide_eq_false (by omega)
      have HO := hid (show Own wr w.heap.size 3 _ (nums (list s)) from hownk)
      clear hownk
      go_wp2
      go_ret
      exact ⟨_, rfl, HO.out.sl, HO.out.lt, hn⟩
/-! ### the reference's List -/
def lit (s : List Wd) (k j : Nat) : List Nat := lis s k ++ ((List.range j).filter fun b => (wd s k).getLsbD b).map (64 * k + ·)
theorem lit_zero (s : List Wd) (k : Nat) : lit s k 0 = lis s k := by simp [lit]
theorem lit_all (s : List Wd) (k : Nat) : lit s k 64 = lis s (k + 1) := by rw [lis_succ]; rfl
theorem lit_succ (s : List Wd) (k j : Nat) : lit s k (j + 1) = if (wd s k).getLsbD j then lit s k j ++ [64 * k + j] else lit s k j := by
  unfold lit
  rw [List.range_succ, List.filter_append, List.map_append, ← List.append_assoc]
  cases h : (wd s k).getLsbD j <;> simp [h]
theorem lit_len (s : List Wd) (k j : Nat) : (lit s k j).length ≤ 64 * k + j := by
  induction j with
  | zero => rw [lit_zero]; exact lis_len s k
  | succ j ih =>
    rw [lit_succ]
    split
    · rw [List.length_append, List.length_singleton]; omega
    · omega
set_option maxRecDepth 20000 in
set_option maxHeartbeats 1600000 in
theorem rlist_c (v : Value) (s : List Wd) (w : World) (hv : Set w v s) (hs : s.length ≤ 1073741824) : Calls Tryd.prog 20 #[v] w (HandsN w (list s)) := by
  obtain ⟨p, cap, rfl, hcap, hmx, _, hc⟩ := hv.open
  unfold maxLen at hmx
  have HC := hid hc
  clear hc hv
  go_enter Tryd.func20, Tryd.ntmps20
  go_wp2
  go_loopw [3, 4, 5, 8] (fun u _ _ i wr => ∃ k : Nat, k ≤ s.length ∧ i = .int .i64 k ∧ Own wr w.heap.size 3 u (nums (lis s k)) ∧ Nw w wr) (fun _ _ _ i _ => s.length - (intOf i).toNat)
  case atStart => exact ⟨0, Nat.zero_le _, rfl, (by simpa [lis, nums, i64s] using Own.nil w w.heap.size 3), Nw.refl _⟩
  case round =>
    obtain ⟨k, hk, rfl, hownk, hn⟩ := hrel
    by_cases hlt : k < s.length
    · have hdk : decide (k < s.length) = true := decide_eq_true hlt
      have HZ := hid (lit_zero s k)
      have HA := hid (lit_all s k)
      have HO := hid hownk
      clear hownk
      go_wp2
      go_loopw [3, 5, 11] (fun u _ z wx => ∃ j : Nat, j ≤ 64 ∧ z = .int .i64 j ∧ Own wx w.heap.size 3 u (nums (lit s k j)) ∧ Nw w wx) (fun _ _ z _ => 64 - (intOf z).toNat)
      case atStart => exact ⟨0, by omega, rfl, by rw [HZ.out]; exact HO.out, hn⟩
      case round =>
        obtain ⟨j, hj, rfl, hownj, hnx⟩ := hrel
        by_cases hlj : j < 64
        · have hdj : decide ((j : Int) < 64) = true := decide_eq_true (by omega)
          obtain ⟨b1, o1, rfl, hcell⟩ := ws_cell (HC.out.nw hnx) k hlt
          have hll := lit_len s k j
          have HB := hid (bit_is (wd s k) j)
          have HS := hid (lit_succ s k j)
          cases hb : (wd s k).getLsbD j with
          | true =>
            rw [hb] at HB HS
            have hbb : (bits .and .u64 (((wd s k).toNat : Int) / 2 ^ j) 1 == 1) = true := HB.out
            go_wp2_with (first
              | (at_builtin; refine app1 rfl _ _ _ rfl _ _ _ Tryd.underlying22 info_i64 rfl (by decide) (hnx.alloc _) (hownj.nw ((Nw.refl _).alloc _)) rfl (Sl.new wr [_] _ _ (by simp [maxLen])) rfl (by simp [Value.oneCell']) ?_ ?_; rotate_left; (simp only [nums_length, List.length_cons, List.length_nil]; omega); intro v1 w1 hown1 hg1 hn1)
              | fail)
            go_roundw
            case rel =>
              refine ⟨j + 1, by omega, by go_num, ?_, hn1⟩
              rw [HS.out, if_pos rfl, ← nums_append]
              have e : nums [64 * k + j] = [.int .i64 (64 * (k : Int) + (j : Int))] := by simp [nums, i64s]
              rw [e]; exact hown1
            case measure => simp [intOf]; omega
          | false =>
            rw [hb] at HB HS
            have hbb : (bits .and .u64 (((wd s k).toNat : Int) / 2 ^ j) 1 == 1) = false := HB.out
            go_wp2
            go_roundw
            case rel => exact ⟨j + 1, by omega, by go_num, by rw [HS.out]; exact hownj, hnx⟩
            case measure => simp [intOf]; omega
        · obtain rfl : j = 64 := by omega
          have hdj : decide ((64 : Int) < 64) = false := rfl
          rw [HA.out] at hownj
          go_wp2
          go_roundw
          case rel => exact ⟨k + 1, by omega, by go_num, hownj, hnx⟩
          case measure => simp [intOf]; omega
    · obtain rfl : k = s.length := by omega
      have hdk : decide (s.length < s.length) = false := decide_eq_false (by omega)
      have HO := hid (show Own wr w.heap.size 3 _ (nums (list s)) from hownk)
      clear hownk
      go_wp2
      go_ret
      exact ⟨_, rfl, HO.out.sl, HO.out.lt, hn⟩
end Words
end Go.Proofs.YteglnekgnbjkoaaDoor
