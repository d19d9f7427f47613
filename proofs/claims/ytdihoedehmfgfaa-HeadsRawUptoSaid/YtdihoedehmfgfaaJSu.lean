/- Joined texts.
The contracts of package sum and of the reference's sums: what each call computes, for any bytes. No condition but the lengths that any slice has.
The laws of layer 1 walked: SumReckons: for any bytes and any sum the program's sums are the reference's. No condition.
-/
import Derived.Test.YtdihoedehmfgfaaBase
set_option linter.unusedSimpArgs false
set_option linter.unusedVariables false
namespace Go.Proofs.Ytdihoedehmfgfaa
open Go.ChangeShapes Go.WideShapes Go.ChangeAt Go.RowKit
namespace Sum
/-! ### The plain sums -/
def step (p : Int × Int) (x : UInt8) : Int × Int := ((p.1 + x.toNat) % 65521, (p.2 + (p.1 + x.toNat) % 65521) % 65521)
def run (p : Int × Int) (bs : List UInt8) : Int × Int := bs.foldl step p
def fin (p : Int × Int) : Int := p.2 * 65536 + p.1
def start (n : Int) : Int × Int := (n % 65536 % 65521, n / 65536 % 65521)
def more (n : Int) (bs : List UInt8) : Int := fin (run (start n) bs)
theorem start_bd (n : Int) : 0 ≤ (start n).1 ∧ (start n).1 < 65521 ∧ 0 ≤ (start n).2 ∧ (start n).2 < 65521 := by simp only [start]; omega
theorem run_bd (p : Int × Int) (bs : List UInt8) (h : 0 ≤ p.1 ∧ p.1 < 65521 ∧ 0 ≤ p.2 ∧ p.2 < 65521) : 0 ≤ (run p bs).1 ∧ (run p bs).1 < 65521 ∧ 0 ≤ (run p bs).2 ∧ (run p bs).2 < 65521 := by
  induction bs generalizing p with
  | nil => exact h
  | cons x r ih => exact ih _ (by simp only [step]; omega)
theorem more_bd (n : Int) (bs : List UInt8) : 0 ≤ more n bs ∧ more n bs < 4294967296 := by
  have := run_bd (start n) bs (start_bd n)
  simp only [more, fin]; omega
theorem run_snoc (p : Int × Int) (bs : List UInt8) (k : Nat) (x : UInt8) (h : bs[k]? = some x) : run p (bs.take (k+1)) = step (run p (bs.take k)) x := by
  rw [List.take_add_one, h]; simp [run]
theorem ret_u32 {a b : Int} (h : a = b) : Ending.returned (.int .u32 a) = .returned (.int .u32 b) := by rw [h]
theorem or_fin (c a : Int) (h1 : 0 ≤ c) (h2 : c < 65521) (h3 : 0 ≤ a) (h4 : a < 65521) : bits .or .u32 (c * 65536) a = c * 65536 + a := by
  rw [u32_or _ _ (by omega) (by omega) (by omega) (by omega), nat_join 16 _ _ (by omega) (by omega)]; omega
theorem low16 (n : Int) (h0 : 0 ≤ n) (h1 : n < 4294967296) : bits .and .u32 n 65535 = n % 65536 := by
  rw [u32_and _ _ (by omega) (by omega) (by omega) (by omega)]
  have := Nat.and_two_pow_sub_one_eq_mod n.toNat 16
  simp at this ⊢; omega

/-! ### sum.More, watchglassref1.More -/
set_option maxHeartbeats 400000 in
theorem more_c (n : Int) (v : Value) (bs : List UInt8) (w : World) (h0 : 0 ≤ n) (h1 : n < 4294967296) (hv : Bytes w v bs) :
    Calls Try.prog 103 #[.int .u32 n, v] w fun e w' => e = .returned (.int .u32 (more n bs)) ∧ w = w' := by
  obtain ⟨p, cap, rfl, hcap, hmx, _, hc⟩ := hv.open
  unfold maxLen at hmx
  have hb := low16 n h0 h1
  have hst := start_bd n
  go_enter Try.func103, Try.ntmps103
  go_wp2
  have HB := hid hb
  clear hb hv
  go_loop [5, 6, 8, 17] (fun a c _ i => ∃ k : Nat, k ≤ bs.length ∧ i = .int .i64 k ∧ a = .int .u32 (run (start n) (bs.take k)).1 ∧ c = .int .u32 (run (start n) (bs.take k)).2) (fun _ _ _ i => bs.length - (intOf i).toNat)
  case atStart => exact ⟨0, Nat.zero_le _, rfl, rfl, rfl⟩
  case round =>
    obtain ⟨k, hk, rfl, rfl, rfl⟩ := hrel
    have hbd := run_bd (start n) (bs.take k) hst
    have hs := fun x => run_snoc (start n) bs k x
    have hlast : bs.length ≤ k → more n bs = fin (run (start n) (bs.take k)) := fun h => by rw [List.take_of_length_le h]; rfl
    generalize run (start n) (bs.take k) = q at *
    obtain ⟨A, C⟩ := q
    obtain ⟨g1, g2, g3, g4⟩ := hbd
    dsimp only at g1 g2 g3 g4
    by_cases hlt : k < bs.length
    · obtain ⟨b, off, x, rfl, hcell, hx, hlx⟩ := u8s_cell hc k hlt
      have HS := hid (hs x hx.out)
      clear hs hc hlast
      go_wp2
      go_round
      case rel => exact ⟨k + 1, by omega, by go_num, by rw [HS.out]; simp only [step], by rw [HS.out]; simp only [step]⟩
      case measure => simp [intOf]; omega
    · have HL := hid (hlast (by omega))
      clear hs hlast
      have ho := or_fin C A g3 g4 g1 g2
      go_wp2
      go_ret
      refine ⟨ret_u32 ?_, rfl⟩
      rw [HL.out]; simp [fin]
set_option maxHeartbeats 400000 in
theorem rmore_c (n : Int) (v : Value) (bs : List UInt8) (w : World) (h0 : 0 ≤ n) (h1 : n < 4294967296) (hv : Bytes w v bs) :
    Calls Try.prog 101 #[.int .u32 n, v] w fun e w' => e = .returned (.int .u32 (more n bs)) ∧ w = w' := by
  obtain ⟨p, cap, rfl, hcap, hmx, _, hc⟩ := hv.open
  unfold maxLen at hmx
  have hst := start_bd n
  go_enter Try.func101, Try.ntmps101
  go_wp2
  clear hv
  go_loop [5, 6, 7, 16] (fun a c _ i => ∃ k : Nat, k ≤ bs.length ∧ i = .int .i64 k ∧ a = .int .u32 (run (start n) (bs.take k)).1 ∧ c = .int .u32 (run (start n) (bs.take k)).2) (fun _ _ _ i => bs.length - (intOf i).toNat)
  case atStart => exact ⟨0, Nat.zero_le _, rfl, rfl, rfl⟩
  case round =>
    obtain ⟨k, hk, rfl, rfl, rfl⟩ := hrel
    have hbd := run_bd (start n) (bs.take k) hst
    have hs := fun x => run_snoc (start n) bs k x
    have hlast : bs.length ≤ k → more n bs = fin (run (start n) (bs.take k)) := fun h => by rw [List.take_of_length_le h]; rfl
    generalize run (start n) (bs.take k) = q at *
    obtain ⟨A, C⟩ := q
    obtain ⟨g1, g2, g3, g4⟩ := hbd
    dsimp only at g1 g2 g3 g4
    by_cases hlt : k < bs.length
    · obtain ⟨b, off, x, rfl, hcell, hx, hlx⟩ := u8s_cell hc k hlt
      have HS := hid (hs x hx.out)
      clear hs hc hlast
      go_wp2
      go_round
      case rel => exact ⟨k + 1, by omega, by go_num, by rw [HS.out]; simp only [step], by rw [HS.out]; simp only [step]⟩
      case measure => simp [intOf]; omega
    · have HL := hid (hlast (by omega))
      clear hs hlast
      go_wp2
      go_ret
      refine ⟨ret_u32 ?_, rfl⟩
      rw [HL.out]; simp [fin]
theorem sum_c (v : Value) (bs : List UInt8) (w : World) (hv : Bytes w v bs) :
    Calls Try.prog 87 #[v] w fun e w' => e = .returned (.int .u32 (more 1 bs)) ∧ w = w' := by
  go_enter Try.func87, Try.ntmps87
  go_wp2_with (go_at_call 103; refine (more_c _ _ _ _ (by omega) (by omega) hv).mono ?_; rintro e w' ⟨rfl, rfl⟩)
  go_ret
  exact ⟨rfl, rfl⟩
theorem rsum_c (v : Value) (bs : List UInt8) (w : World) (hv : Bytes w v bs) :
    Calls Try.prog 78 #[v] w fun e w' => e = .returned (.int .u32 (more 1 bs)) ∧ w = w' := by
  go_enter Try.func78, Try.ntmps78
  go_wp2_with (go_at_call 101; refine (rmore_c _ _ _ _ (by omega) (by omega) hv).mono ?_; rintro e w' ⟨rfl, rfl⟩)
  go_ret
  exact ⟨rfl, rfl⟩
end Sum
end Go.Proofs.Ytdihoedehmfgfaa
namespace Go.Proofs.Ytdihoedehmfgfaa
open Go.ChangeShapes Go.WideShapes Go.ChangeAt Go.RowKit
namespace Sum
end Sum
end Go.Proofs.Ytdihoedehmfgfaa
