/- The contracts of math/bits.OnesCount64 and TrailingZeros64, bits.Count, List and of the reference's List. -/
import Derived.Test.YteglnekgnbjkoaaDoorBitsF
import Derived.Test.YteglnekgnbjkoaaDoorPop
import Derived.Laws.Bits128
import Derived.Shelf.Spec.TrailingZeros
namespace Go.Proofs.YteglnekgnbjkoaaDoor
open Go.ChangeShapes Go.WideShapes Go.ChangeAt Go.RowKit
namespace Pop
theorem f1_lt (n x : Nat) : f1 n x < 256 ^ n := by
  induction n generalizing x with
  | zero => simp [f1, M]
  | succ n ih =>
    have h1 : g1 (x % 256) < 256 := (d3 ⟨x % 256, by omega⟩).1
    have := ih (x / 256)
    rw [show x = x % 256 + 256 * (x / 256) by omega, f1_succ _ _ _ (by omega), Nat.pow_succ]
    omega
theorem d5 : ∀ b : Fin 256, g2 (g1 b.val) ≤ 127 := by decide +kernel
theorem f2_lt (n x : Nat) : 2 * f2 n (f1 n x) + 1 ≤ 256 ^ n := by
  induction n generalizing x with
  | zero => simp [f2, M]
  | succ n ih =>
    have h1 : g1 (x % 256) < 256 := (d3 ⟨x % 256, by omega⟩).1
    have h2 : g2 (g1 (x % 256)) ≤ 127 := d5 ⟨x % 256, by omega⟩
    have := ih (x / 256)
    rw [show x = x % 256 + 256 * (x / 256) by omega, f1_succ _ _ _ (by omega), f2_succ _ _ _ h1, Nat.pow_succ]
    omega
theorem m55 : M 85 8 = 6148914691236517205 := by decide
theorem m33 : M 51 8 = 3689348814741910323 := by decide
theorem m0f : M 15 8 = 1085102592571150095 := by decide
theorem mask_eq (a m : Nat) (ha : a < 18446744073709551616) (hm : m < 18446744073709551616) (z c : Int) (hz : z = (a : Int)) (hc : c = (m : Int)) : bits .and .u64 z c = ((a &&& m : Nat) : Int) := by
  subst hz hc; exact bits_and_u64_nat a m ha hm
theorem s1 (x : Nat) (hx : x < 18446744073709551616) : IntKind.u64.wrap (bits .and .u64 ((x : Int) / 2) 6148914691236517205 + bits .and .u64 (x : Int) 6148914691236517205) = (f1 8 x : Int) := by
  have hb := f1_lt 8 x
  have e : f1 8 x = ((x / 2) &&& 6148914691236517205) + (x &&& 6148914691236517205) := by unfold f1; rw [m55]
  rw [mask_eq (x / 2) 6148914691236517205 (by omega) (by omega) ((x : Int) / 2) 6148914691236517205 (by omega) rfl, mask_eq x 6148914691236517205 hx (by omega) (x : Int) 6148914691236517205 rfl rfl, IntKind.wrap_u64]
  omega
theorem s2 (x y : Nat) (hy : y = f1 8 x) : IntKind.u64.wrap (bits .and .u64 ((y : Int) / 4) 3689348814741910323 + bits .and .u64 (y : Int) 3689348814741910323) = (f2 8 y : Int) := by
  have hb := f2_lt 8 x
  have hb1 := f1_lt 8 x
  rw [← hy] at hb hb1
  have e : f2 8 y = ((y / 4) &&& 3689348814741910323) + (y &&& 3689348814741910323) := by unfold f2; rw [m33]
  rw [mask_eq (y / 4) 3689348814741910323 (by omega) (by omega) ((y : Int) / 4) 3689348814741910323 (by omega) rfl, mask_eq y 3689348814741910323 (by omega) (by omega) (y : Int) 3689348814741910323 rfl rfl, IntKind.wrap_u64]
  omega
theorem s3 (x z : Nat) (hz : z = f2 8 (f1 8 x)) : bits .and .u64 (IntKind.u64.wrap ((z : Int) / 16 + (z : Int))) 1085102592571150095 = (f3 8 z : Int) := by
  have hb := f2_lt 8 x
  rw [← hz] at hb
  rw [mask_eq (z / 16 + z) 1085102592571150095 (by omega) (by omega) (IntKind.u64.wrap ((z : Int) / 16 + (z : Int))) 1085102592571150095 (by rw [IntKind.wrap_u64]; omega) rfl]
  unfold f3
  rw [m0f]
theorem s4 (y : Nat) (hy : y ≤ 1085102592571150095) : wrap64 (IntKind.u64.wrap (IntKind.u64.wrap (IntKind.u64.wrap ((y : Int) + (y : Int) / 256) + IntKind.u64.wrap ((y : Int) + (y : Int) / 256) / 65536) + IntKind.u64.wrap (IntKind.u64.wrap ((y : Int) + (y : Int) / 256) + IntKind.u64.wrap ((y : Int) + (y : Int) / 256) / 65536) / 4294967296)) % 128 = (((let a := y + y / 256; let b := a + a / 65536; (b + b / 4294967296) % 128 : Nat)) : Int) := by
  have e1 : IntKind.u64.wrap ((y : Int) + (y : Int) / 256) = ((y + y / 256 : Nat) : Int) := by rw [IntKind.wrap_u64]; omega
  rw [e1]
  have l1 : y + y / 256 ≤ 1089341274600000000 := by omega
  dsimp only
  generalize y + y / 256 = a at *
  have e2 : IntKind.u64.wrap ((a : Int) + (a : Int) / 65536) = ((a + a / 65536 : Nat) : Int) := by rw [IntKind.wrap_u64]; omega
  rw [e2]
  have l2 : a + a / 65536 ≤ 1089357896700000000 := by omega
  generalize a + a / 65536 = b at *
  have e3 : IntKind.u64.wrap ((b : Int) + (b : Int) / 4294967296) = ((b + b / 4294967296 : Nat) : Int) := by rw [IntKind.wrap_u64]; omega
  rw [e3]
  unfold wrap64
  have l3 : b + b / 4294967296 ≤ 1089357897000000000 := by omega
  generalize b + b / 4294967296 = c at *
  omega
end Pop
namespace Words
set_option maxRecDepth 20000 in
set_option maxHeartbeats 1600000 in
theorem pop_c (x : Nat) (w : World) (hx : x < 18446744073709551616) : Calls Tryd.prog 51 #[.int .u64 (x : Int)] w (Gives (.int .i64 (Lib.onesCount x : Int)) w) := by
  go_enter Tryd.func51, Tryd.ntmps51
  go_wp2
  go_ret
  refine Gives.i ?_ (by repeat (first | assumption | exact Nw.refl _ | refine Nw.alloc ?_ _ | refine Nw.drew ?_ | refine Nw.drewN2 ?_ _ | (refine Nw.trans ?_ (by assumption))))
  have hF : Pop.f3 8 (Pop.f2 8 (Pop.f1 8 x)) ≤ 1085102592571150095 := by
    unfold Pop.f3
    rw [Pop.m0f]; exact Nat.and_le_right
  rw [Pop.s1 x hx, Pop.s2 x _ rfl, Pop.s3 x _ rfl, i64_and127, Pop.s4 _ hF]
  exact congrArg Int.ofNat (Pop.F_all x)
/-- The library's table lies as its text lays it. -/
def Tz (w : World) : Prop := TabAt 0 Lib.deBruijn64tab w
theorem Tz.nw {w w' : World} (h : Tz w) (hn : Nw w w') : Tz w' := fun j hj => hn.cell (h j hj)
set_option maxHeartbeats 1000000 in
theorem tz_core (x k idx : Nat) (w : World) (hx0 : ((x : Int) == 0) = false)
    (key : IntKind.u64.wrap (bits BinOp.and IntKind.u64 (x : Int) (IntKind.u64.wrap (-(x : Int))) * 285870213051353865) / 288230376151711744 = (idx : Int))
    (hi : idx < 64) (hk : k < 64) (hcell : w.cell? ⟨0, idx, none⟩ = some (.int .u8 k)) :
    Calls Tryd.prog 50 #[.int .u64 (x : Int)] w (Gives (.int .i64 (k : Int)) w) := by
  go_enter Tryd.func50, Tryd.ntmps50
  go_wp2_with (simp only [key])
  go_ret
  exact Gives.i rfl (by repeat (first | assumption | exact Nw.refl _ | refine Nw.alloc ?_ _ | refine Nw.drew ?_ | refine Nw.drewN2 ?_ _ | (refine Nw.trans ?_ (by assumption))))
theorem tz_c (x : Nat) (w : World) (hx : x < 18446744073709551616) (h0 : x ≠ 0) (ht : Tz w) : Calls Tryd.prog 50 #[.int .u64 (x : Int)] w (Gives (.int .i64 (Lib.ctz 64 x : Int)) w) := by
  obtain ⟨hlow, hk⟩ := Lib.lowest_bit 64 x h0 hx
  obtain ⟨hi, htab⟩ := Lib.deBruijn64_at _ hk
  have hcell := ht _ hi
  rw [htab] at hcell
  exact tz_core x _ _ w (by simp; omega) (tz64_key x _ hx h0 hlow) hi hk hcell
end Words
end Go.Proofs.YteglnekgnbjkoaaDoor
