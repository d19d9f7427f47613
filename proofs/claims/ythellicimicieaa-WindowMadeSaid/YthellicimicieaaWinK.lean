/- The contract of the laws' awake. No condition. -/
import Derived.Test.YthellicimicieaaWinJ
set_option linter.unusedSimpArgs false
set_option linter.unusedVariables false
namespace Go.Proofs.Ythellicimicieaa
open Go.ChangeShapes Go.WideShapes Go.ChangeAt Go.RowKit
namespace Wn
open Ival Words
theorem size_alloc (w : World) (o : Obj) : (w.alloc o).heap.size = w.heap.size + 1 := by
  show (w.heap.push _).size = _
  rw [Array.size_push]
theorem lit_bks (w : World) (o : Int) (x : Wd) : Bks ((w.alloc (.cells #[.int .u64 (x.toNat : Int)] 24)).alloc (.cells #[.int .i64 o, .slice (some ⟨w.heap.size, 0, none⟩) 1 1] 60)) (.slice (some ⟨w.heap.size + 1, 0, none⟩) 1 1) [(o, [x])] ∧
    Nw w ((w.alloc (.cells #[.int .u64 (x.toNat : Int)] 24)).alloc (.cells #[.int .i64 o, .slice (some ⟨w.heap.size, 0, none⟩) 1 1] 60)) := by
  have h1 := one_set w x
  have hz := size_alloc w (.cells #[.int .u64 (x.toNat : Int)] 24)
  have hn := (Nw.refl w).alloc (.cells #[.int .u64 (x.toNat : Int)] 24)
  generalize w.alloc (.cells #[.int .u64 (x.toNat : Int)] 24) = w1 at *
  obtain ⟨z0, z1⟩ := box2 w1 (.int .i64 o) (.slice (some ⟨w.heap.size, 0, none⟩) 1 1) 60
  have hn2 := (Nw.refl w1).alloc (.cells #[.int .i64 o, .slice (some ⟨w.heap.size, 0, none⟩) 1 1] 60)
  rw [hz] at z0 z1
  refine ⟨⟨some ⟨w.heap.size + 1, 0, none⟩, 1, rfl, Nat.le_refl _, by decide, (fun h => by cases h), fun i hi => ?_⟩, hn.trans hn2⟩
  match i, hi with
  | 0, _ => exact ⟨w.heap.size + 1, 0, _, rfl, z0, z1, h1.nw hn2⟩
def awA : Bs := [(2, [5])]
def awB : Bs := [(1, [5])]
theorem aw_may : mayW 1 2 awA = true := by decide +kernel
theorem aw_shA : shiftP 1 2 awA 1 = [] := by decide +kernel
theorem aw_shB : shiftP 1 (-1) awB 9 = awB := by decide +kernel
theorem aw_cells : cellsP awA = 2 := by decide +kernel
theorem aw_some : someP 1 2 awA = [5] := by decide +kernel
theorem aw_smA : Sm 1000000 1000000 awA := ⟨by decide, fun b hb => by simp only [awA, List.mem_singleton] at hb; subst hb; decide⟩
theorem aw_smB : Sm 1000000 1000000 awB := ⟨by decide, fun b hb => by simp only [awB, List.mem_singleton] at hb; subst hb; decide⟩
set_option maxRecDepth 20000 in
set_option maxHeartbeats 3200000 in
theorem awake_w (w : World) : Calls Try.prog 18 #[] w (Gives (.bool true) w) := by
  go_enter Try.func18, Try.ntmps18
  go_upto_region 2 with fail
  obtain ⟨x0, x1⟩ := box2 w (.int .i64 1) (.int .i64 2) 26
  have hn := (Nw.refl w).alloc (.cells #[.int .i64 1, .int .i64 2] 26)
  generalize w.alloc (.cells #[.int .i64 1, .int .i64 2] 26) = w1 at *
  go_upto_region 3 with fail
  have hA := lit_bks w1 2 5
  rw [show ((BitVec.toNat (5 : Wd) : Nat) : Int) = 5 from rfl] at hA
  generalize hwz : (w1.alloc (.cells #[.int .u64 5] 24)).alloc (.cells #[.int .i64 2, .slice (some ⟨w1.heap.size, 0, none⟩) 1 1] 60) = w2 at *
  clear hwz
  obtain ⟨hA, hn2⟩ := hA
  have HA := hid (show Bks w2 _ awA from hA)
  clear hA
  have x0 := hn2.cell x0
  have x1 := hn2.cell x1
  have hn := hn.trans hn2
  clear hn2
  have hB := lit_bks w2 1 5
  rw [show ((BitVec.toNat (5 : Wd) : Nat) : Int) = 5 from rfl] at hB
  obtain ⟨hB, hn3⟩ := hB
  have HB := hid (fun w' (h : Nw _ w') => by
    have := shift_w 1 (-1) 9 _ awB w' (Bks.nw (show Bks _ _ awB from hB) h) aw_smB (by omega) (by omega)
    rwa [aw_shB] at this)
  clear hB
  go_upto_region 4 with (first
    | (go_at_call 17; refine (HB.out _ (Nw.refl _)).mono ?_; rintro e w3 ⟨v3, rfl, ho3, hn4⟩; obtain ⟨g3, c3, rfl, _⟩ := ho3.opened (n := 1) rfl (by decide); obtain ⟨q3, d3, k0, k1, _, _⟩ := ho3.cell rfl 0 (by decide); have k0 : w3.cell? ⟨g3, 0, none⟩ = some (.int .i64 1) := k0; have x0 := (hn3.trans hn4).cell x0; have x1 := (hn3.trans hn4).cell x1)
    | fail)
  have hn23 : Nw w2 w3 := hn3.trans hn4
  have HMA := hid (fun w' (h : Nw w2 w') => by
    have := may_w 1 2 _ awA w' (HA.out.nw h) aw_smA
    rwa [aw_may] at this)
  have HSA := hid (fun w' (h : Nw w2 w') => by
    have := shift_w 1 2 1 _ awA w' (HA.out.nw h) aw_smA (by omega) (by omega)
    rwa [aw_shA] at this)
  have HCA := hid (fun w' (h : Nw w2 w') => by
    have := cells_w _ awA w' (HA.out.nw h) aw_smA
    rwa [aw_cells] at this)
  have HOA := hid (fun w' (h : Nw w2 w') => by
    have := some_w 1 2 _ awA w' (HA.out.nw h) aw_smA
    rwa [aw_some] at this)
  have hw3 := hn.trans hn23
  clear hn3 hn4 ho3 k1 HB
  have one5 := hid (fun w7 => show Words.Set (w7.alloc (.cells #[.int .u64 5] 24)) (.slice (some ⟨w7.heap.size, 0, none⟩) 1 1) [5] from one_set w7 5)
  unfold span at *
  go_wp2_with (first
    | (go_at_call 33; refine (HMA.out _ hn23).mono ?_; rintro e w4 ⟨rfl, hn4⟩; have x0 := hn4.cell x0; have x1 := hn4.cell x1; have k0 := hn4.cell k0; have hn24 := hn23.trans hn4)
    | (go_at_call 17; refine (HSA.out _ hn24).mono ?_; rintro e w5 ⟨v5, rfl, ho5, hn5⟩; obtain ⟨q5, c5, rfl⟩ := ho5.shape (n := 0) rfl; have x0 := hn5.cell x0; have x1 := hn5.cell x1; have k0 := hn5.cell k0; have hn25 := hn24.trans hn5)
    | (go_at_call 37; refine (HCA.out _ hn25).mono ?_; rintro e w6 ⟨rfl, hn6⟩; have x0 := hn6.cell x0; have x1 := hn6.cell x1; have hn26 := hn25.trans hn6)
    | (go_at_call 39; refine (HOA.out _ hn26).mono ?_; rintro e w7 ⟨v7, rfl, hs7, hn7⟩)
    | (go_at_call 26; refine (samewords_c _ _ [5] [5] _ (hs7.nw ((Nw.refl _).alloc _)) (one5.out w7)).mono ?_; rintro e w8 ⟨rfl, hn8⟩)
    | fail)
  go_ret
  exact ⟨rfl, hw3.trans (hn4.trans (hn5.trans (hn6.trans (hn7.trans (((Nw.refl _).alloc _).trans hn8)))))⟩
end Wn
end Go.Proofs.Ythellicimicieaa
