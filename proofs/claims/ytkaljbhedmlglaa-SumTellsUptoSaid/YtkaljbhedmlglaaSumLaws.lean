/- The laws of layer 1 walked: SumReckons: for any bytes and any sum the program's sums are the reference's. No condition. -/
import Derived.Test.YtkaljbhedmlglaaSum
namespace Go.Proofs.Ytkaljbhedmlglaa
open Go.ChangeShapes Go.WideShapes Go.ChangeAt Go.RowKit
namespace Sum
theorem awake_c (w : World) : Calls Try.prog 16 #[] w fun e w' => e = .returned (.bool true) ∧ Nw w w' := by
  have h1 : more 1 [97, 98, 99] = 38600999 := by decide +kernel
  have h2 : more 1 [] = 1 := by decide +kernel
  have kc := kconst
  go_enter Try.func16, Try.ntmps16
  go_wp2_with (go_at_call 12; refine (sum_c _ _ _ (by first | exact Bytes.nil _ | exact Bytes.new _ [97, 98, 99] _ _ (by decide))).mono ?_; rintro e w' ⟨rfl, rfl⟩)
  go_ret
  exact ⟨rfl, (by repeat (first | assumption | exact Nw.refl _ | refine Nw.alloc ?_ _ | refine Nw.drew ?_ | (refine Nw.trans ?_ (by assumption))))⟩
theorem reckons_walk (n : Int) (v : Value) (bs : List UInt8) (w : World) (h0 : 0 ≤ n) (h1 : n < 4294967296) (hv : Bytes w v bs) :
    Calls Try.prog 3 #[.int .u32 n, v] w fun e w' => e = .returned (.bool true) ∧ Nw w w' := by
  go_enter Try.func3, Try.ntmps3
  go_wp2_with (first
    | (go_at_call 12; refine (sum_c _ _ _ hv).mono ?_; rintro e w' ⟨rfl, rfl⟩)
    | (go_at_call 13; refine (rsum_c _ _ _ hv).mono ?_; rintro e w' ⟨rfl, rfl⟩)
    | (go_at_call 14; refine (more_c _ _ _ _ h0 h1 hv).mono ?_; rintro e w' ⟨rfl, rfl⟩)
    | (go_at_call 15; refine (rmore_c _ _ _ _ h0 h1 hv).mono ?_; rintro e w' ⟨rfl, rfl⟩)
    | (go_at_call 16; refine (awake_c _).mono ?_; rintro e w' ⟨rfl, hb⟩))
  go_ret
  exact ⟨rfl, (by repeat (first | assumption | exact Nw.refl _ | refine Nw.alloc ?_ _ | refine Nw.drew ?_ | (refine Nw.trans ?_ (by assumption))))⟩
end Sum
end Go.Proofs.Ytkaljbhedmlglaa
