/- What layer 3's laws ask of every program: the sample interval's text and classes. -/
import Derived.Test.YteglnekgnbjkoaaDoorIvalRText
namespace Go.Proofs.YteglnekgnbjkoaaDoor
open Go.ChangeShapes Go.WideShapes Go.ChangeAt Go.RowKit
namespace Ival
set_option maxHeartbeats 1000000 in
theorem awake_c (w : World) (ht : Tab w) : Calls Tryd.prog 37 #[] w (Gives (.bool true) w) := by
  have e1 : text 2 (-1) = [91, 50, 44, 42, 93] := by decide +kernel
  have e2 : cls 2 (-1) 6 = 2 := by decide +kernel
  have e3 : cls 2 5 6 = -1 := by decide +kernel
  have R1 := fun w => text_c 2 (-1) w (by omega)
  rw [e1] at R1
  have R2 := fun w => cls_c 2 (-1) 6 w (by omega) (by omega)
  rw [e2] at R2
  have R3 := fun w => cls_c 2 5 6 w (by omega) (by omega)
  rw [e3] at R3
  have H1 := hid R1
  have H2 := hid R2
  have H3 := hid R3
  clear R1 R2 R3 e1 e2 e3
  go_enter Tryd.func37, Tryd.ntmps37
  go_wp2_with fail
  refine (H1.out _ (ht.nw (by repeat (first | assumption | exact Nw.refl _ | refine Nw.alloc ?_ _ | refine Nw.drew ?_ | refine Nw.drewN2 ?_ _ | (refine Nw.trans ?_ (by assumption)))))).mono ?_
  rintro e w1 ⟨rfl, hn1⟩
  obtain ⟨hc1, hf1, hz1⟩ := nwc hn1
  go_wp2_with fail
  refine (H2.out _).mono ?_
  rintro e w2 ⟨rfl, hn2⟩
  obtain ⟨hc2, hf2, hz2⟩ := nwc hn2
  go_wp2_with fail
  refine (H3.out _).mono ?_
  rintro e w3 ⟨rfl, hn3⟩
  go_wp2_with fail
  go_ret
  exact Gives.b rfl (by repeat (first | assumption | exact Nw.refl _ | refine Nw.alloc ?_ _ | refine Nw.drew ?_ | refine Nw.drewN2 ?_ _ | (refine Nw.trans ?_ (by assumption))))
end Ival
end Go.Proofs.YteglnekgnbjkoaaDoor
