/- IvalEnds: for every input the law returns true, and each argument reads as it did; the library's tables lie as the program's text lays them. -/
import Derived.Test.YteglnekgnbjkoaaDoorIvalEnds
import Derived.Test.YteglnekgnbjkoaaDoorLaid
namespace Go.Proofs.YteglnekgnbjkoaaDoor
open Go.ChangeShapes Go.WideShapes Go.ChangeAt Go.RowKit
theorem tab_of {W : World} (h : laidMetH Tryd.prog Rows.ivalTellsRow.laid W) : Ival.Tab W := fun w' hn => Joins.tab_stays gPow (pow_of h) hn (Nat.le_refl _)
namespace Ival
theorem ends_w (lo more : Int) (w : World) (ht : Tab w) (h0 : 0 ≤ lo ∧ lo ≤ 65535) (h1 : 0 ≤ more ∧ more ≤ 65535) :
    Calls Tryd.prog 9 #[.int .u16 lo, .int .u16 more] w (Gives (.bool true) w) := by
  have hm := may_made (lo % 10000) more false (mod_bd _ h0.1) h1.1
  have hm2 := may_made (lo % 10000) more true (mod_bd _ h0.1) h1.1
  refine ends_core (lo % 10000) (min 9999 (lo % 10000 + more)) lo more w ht hm hm2 (by omega) (fun w => ?_) (fun w => ?_)
  · exact span_c lo more false w h0 h1
  · exact span_c lo 0 true w h0 (by omega)
end Ival
namespace LIvalEnds
theorem contract (H : Type) (enc : TypeId × Value → H) (W : World) (base : Nat) (args : Array Value) (ds gs : List (DataW H)) (before : List MemPlace)
    (hval : ∀ (j : Nat) t v, Tryd.f9.params[j]? = some t → args[j]? = some v → Value.okWide Tryd.prog W .any base t v)
    (hW : DataW.Whole enc Tryd.prog Tryd.f9.params.toList Rows.ivalEndsSpec.vars false W args.toList ds gs before) (hL : laidMetH Tryd.prog Rows.ivalEndsRow.laid W) :
    Calls Tryd.prog 9 args W fun e W' => ∃ v, e = .returned v ∧ Rows.ivalEndsSpec.post enc Tryd.prog Tryd.f9 false true false false W args v W' := by
  have hA1 := hW
  obtain ⟨p, q, hA, hV, _, _, _⟩ := hA1
  obtain ⟨rfl, _⟩ := trodVars_none hV
  rw [Tryd.params9] at hA hval
  obtain ⟨v0, vs0, d0, ds0, p0, q0, hargs, rfl, _, h0, r0⟩ := trodAll_cons hA
  obtain ⟨v1, vs1, d1, ds1, p1, q1, rfl, rfl, _, h1, r1⟩ := trodAll_cons r0
  obtain ⟨rfl, rfl, _⟩ := trodAll_nil r1
  obtain rfl : args = #[v0, v1] := by cases args; simp_all
  obtain ⟨n0, rfl, e0, _, wf0⟩ := open_int Tryd.underlying41 (hval 0 41 v0 rfl rfl) h0
  have bd0 := bounds_u16 wf0
  obtain ⟨n1, rfl, e1, _, wf1⟩ := open_int Tryd.underlying41 (hval 1 41 v1 rfl rfl) h1
  have bd1 := bounds_u16 wf1
  refine (Ival.ends_w _ _ _ (tab_of hL) bd0 bd1).mono fun e W' ⟨he, hb⟩ => ⟨_, he, law_post 4 laidOut hW rfl (by rw [Tryd.params9]; intro t ht; simp only [List.mem_cons, List.not_mem_nil, or_false] at ht; rcases ht with rfl | rfl <;> exact ⟨by kernel_rfl, of_decide_eq_true (by kernel_rfl)⟩) (by kernel_rfl) Tryd.underlying4 rfl hb⟩
theorem laid_met (os : Os) : laidMet Tryd.prog Rows.ivalEndsRow.laid ((laidWorld os).forCall (fun _ _ => 0) ⟨#[], #[.int .u16 0, .int .u16 0], []⟩).memory :=
  laidMet_of_run' 8 (by kernel_rfl) (by kernel_rfl)
theorem reads (os : Os) {H : Type} (enc : TypeId × Value → H) : ∃ places, DataW.whole enc Tryd.prog ((laidWorld os).forCall (fun _ _ => 0) ⟨#[], #[.int .u16 0, .int .u16 0], []⟩).memory Tryd.f9.params.toList Rows.ivalEndsSpec.vars false (#[.int .u16 0, .int .u16 0] : Array Value).toList 8 = some ([.lit (.int .u16 0), .lit (.int .u16 0)], [], places) :=
  ⟨[], by kernel_rfl⟩
set_option maxRecDepth 100000 in
theorem lifted (os : Os) (started : os.Started) (H : Type) (enc : TypeId × Value → H) (F : Stop.Interp) :
    ReturnsInHanded {} Tryd.checked os 9 .any ((OpenSpec.ofChange Rows.ivalEndsSpec).preRow enc Tryd.prog Tryd.f9 Rows.ivalEndsRow.domain false Rows.ivalEndsRow.laid) (((OpenSpec.ofChange Rows.ivalEndsSpec).at F).post enc Tryd.prog Tryd.f9 false true false false) := by
  obtain ⟨places, hx⟩ := reads os enc
  refine returnsInHanded_of_row (C := Tryd.checked) (s := (OpenSpec.ofChange Rows.ivalEndsSpec)) own started (by kernel_rfl) Tryd.func9
    (witness_row_at (enc := enc) (C := Tryd.checked) false (laidWorld os) #[.int .u16 0, .int .u16 0] rfl (by kernel_rfl) (by kernel_rfl) (by kernel_rfl)
      (OpenSpec.preRow_of_cond 8 hx (by kernel_rfl) (fun k hk => by cases hk) (by kernel_rfl) (laid_met os))) ?_
  intro W base args ds gs before hval hW _ _ _ hL _ _
  exact contract H enc W base args ds gs before hval hW hL
theorem said : Rows.IvalEndsSaid :=
  OpenClaim.holds_of_cond 9 Tryd.f9 rfl rfl rfl rfl rfl rfl rfl ⟨rfl, rfl, rfl, rfl, rfl⟩ rfl rfl rfl rfl rfl (by kernel_rfl) Tryd.func9 (by kernel_rfl)
    (of_decide_eq_true (by kernel_rfl)) (by unfold Func.isWrapper; first | (rw [if_pos (by decide +kernel)]; kernel_rfl) | (rw [if_neg (by decide +kernel)]; exact ⟨rfl, rfl⟩))
    (fun os started H enc _ F => by rw [OpenClaim.pre_eq_preRow]; exact lifted os started H enc F)
theorem plain (f : FuncId) (fn : Func) (hf : Tryd.pinned.checked.prog.funcNamed "watchglass/watchglasslaw3.IvalEnds" = some f) (hfn : Tryd.pinned.checked.prog.funcs[f]? = some fn) :
    false = Tryd.pinned.checked.prog.looks [] ∧ ∀ (j : Nat) t, fn.params[j]? = some t → Tryd.pinned.checked.prog.wantsStandIn t = false := by
  obtain rfl : f = 9 := Option.some.inj ((show Tryd.prog.funcNamed "watchglass/watchglasslaw3.IvalEnds" = some 9 by kernel_rfl).symm.trans hf) |>.symm
  obtain rfl : fn = Tryd.f9 := (Option.some.inj (Tryd.func9.symm.trans hfn)).symm
  refine ⟨by kernel_rfl, fun j t ht => ?_⟩
  rw [Tryd.params9] at ht
  have ht2 := Array.mem_of_getElem? ht
  simp only [List.mem_toArray, List.mem_cons, List.not_mem_nil, or_false] at ht2
  rcases ht2 with rfl | rfl <;> first | exact (show Tryd.prog.wantsStandIn 41 = false by kernel_rfl) | exact (show Tryd.prog.wantsStandIn 41 = false by kernel_rfl)
theorem proved : Rows.IvalEndsCardSaid :=
  Claim7.holds_tied_plain_at .later [] _ _ _ _ said (fun _ h => by cases h) (by kernel_rfl) (fun _ h => by cases h) ivalEnds_row_tie rfl ⟨rfl, rfl⟩ (by kernel_rfl) rfl plain (by kernel_rfl)
end LIvalEnds

end Go.Proofs.YteglnekgnbjkoaaDoor
