/- IvalLater: for every input the law returns true, and each argument reads as it did; the library's tables lie as the program's text lays them. -/
import Derived.Test.YteglnekgnbjkoaaDoorIvalLater
import Derived.Test.YteglnekgnbjkoaaDoorLaid
namespace Go.Proofs.YteglnekgnbjkoaaDoor
open Go.ChangeShapes Go.WideShapes Go.ChangeAt Go.RowKit
theorem tab_of {W : World} (h : laidMetH Tryd.prog Rows.ivalTellsRow.laid W) : Ival.Tab W := fun w' hn => Joins.tab_stays gPow (pow_of h) hn (Nat.le_refl _)
namespace LIvalLater
theorem contract (H : Type) (enc : TypeId × Value → H) (W : World) (base : Nat) (args : Array Value) (ds gs : List (DataW H)) (before : List MemPlace)
    (hval : ∀ (j : Nat) t v, Tryd.f8.params[j]? = some t → args[j]? = some v → Value.okWide Tryd.prog W .any base t v)
    (hW : DataW.Whole enc Tryd.prog Tryd.f8.params.toList Rows.ivalLaterSpec.vars false W args.toList ds gs before) (hL : laidMetH Tryd.prog Rows.ivalLaterRow.laid W) :
    Calls Tryd.prog 8 args W fun e W' => ∃ v, e = .returned v ∧ Rows.ivalLaterSpec.post enc Tryd.prog Tryd.f8 false true false false W args v W' := by
  have hA1 := hW
  obtain ⟨p, q, hA, hV, _, _, _⟩ := hA1
  obtain ⟨rfl, _⟩ := trodVars_none hV
  rw [Tryd.params8] at hA hval
  obtain ⟨v0, vs0, d0, ds0, p0, q0, hargs, rfl, _, h0, r0⟩ := trodAll_cons hA
  obtain ⟨v1, vs1, d1, ds1, p1, q1, rfl, rfl, _, h1, r1⟩ := trodAll_cons r0
  obtain ⟨v2, vs2, d2, ds2, p2, q2, rfl, rfl, _, h2, r2⟩ := trodAll_cons r1
  obtain ⟨v3, vs3, d3, ds3, p3, q3, rfl, rfl, _, h3, r3⟩ := trodAll_cons r2
  obtain ⟨v4, vs4, d4, ds4, p4, q4, rfl, rfl, _, h4, r4⟩ := trodAll_cons r3
  obtain ⟨v5, vs5, d5, ds5, p5, q5, rfl, rfl, _, h5, r5⟩ := trodAll_cons r4
  obtain ⟨rfl, rfl, _⟩ := trodAll_nil r5
  obtain rfl : args = #[v0, v1, v2, v3, v4, v5] := by cases args; simp_all
  obtain ⟨n0, rfl, e0, _, wf0⟩ := open_int Tryd.underlying41 (hval 0 41 v0 rfl rfl) h0
  have bd0 := bounds_u16 wf0
  obtain ⟨n1, rfl, e1, _, wf1⟩ := open_int Tryd.underlying41 (hval 1 41 v1 rfl rfl) h1
  have bd1 := bounds_u16 wf1
  obtain ⟨n2, rfl, e2, _⟩ := open_bool Tryd.underlying4 (hval 2 4 v2 rfl rfl) h2
  obtain ⟨n3, rfl, e3, _, wf3⟩ := open_int Tryd.underlying3 (hval 3 3 v3 rfl rfl) h3
  have bd3 := bounds_i64 wf3
  obtain ⟨n4, rfl, e4, _, wf4⟩ := open_int Tryd.underlying39 (hval 4 39 v4 rfl rfl) h4
  have bd4 := bounds_u64 wf4
  obtain ⟨n5, rfl, e5, _, wf5⟩ := open_int Tryd.underlying39 (hval 5 39 v5 rfl rfl) h5
  have bd5 := bounds_u64 wf5
  refine (Ival.later_core (n0 % 10000) (if n2 = true then -1 else min 9999 (n0 % 10000 + n1)) _ _ _ _ _ _ _ (tab_of hL) (Ival.may_made _ _ _ (Ival.mod_bd _ (by omega)) (by omega)) (fun h => by rw [if_pos h]) (fun w => Ival.span_c _ _ _ w bd0 bd1) bd4 bd5).mono fun e W' ⟨he, hb⟩ => ⟨_, he, law_post 4 laidOut hW rfl (by rw [Tryd.params8]; intro t ht; simp only [List.mem_cons, List.not_mem_nil, or_false] at ht; rcases ht with rfl | rfl | rfl | rfl | rfl | rfl <;> exact ⟨by kernel_rfl, of_decide_eq_true (by kernel_rfl)⟩) (by kernel_rfl) Tryd.underlying4 rfl hb⟩
theorem laid_met (os : Os) : laidMet Tryd.prog Rows.ivalLaterRow.laid ((laidWorld os).forCall (fun _ _ => 0) ⟨#[], #[.int .u16 0, .int .u16 0, .bool false, .int .i64 0, .int .u64 0, .int .u64 0], []⟩).memory :=
  laidMet_of_run' 8 (by kernel_rfl) (by kernel_rfl)
theorem reads (os : Os) {H : Type} (enc : TypeId × Value → H) : ∃ places, DataW.whole enc Tryd.prog ((laidWorld os).forCall (fun _ _ => 0) ⟨#[], #[.int .u16 0, .int .u16 0, .bool false, .int .i64 0, .int .u64 0, .int .u64 0], []⟩).memory Tryd.f8.params.toList Rows.ivalLaterSpec.vars false (#[.int .u16 0, .int .u16 0, .bool false, .int .i64 0, .int .u64 0, .int .u64 0] : Array Value).toList 8 = some ([.lit (.int .u16 0), .lit (.int .u16 0), .lit (.bool false), .lit (.int .i64 0), .lit (.int .u64 0), .lit (.int .u64 0)], [], places) :=
  ⟨[], by kernel_rfl⟩
set_option maxRecDepth 100000 in
theorem lifted (os : Os) (started : os.Started) (H : Type) (enc : TypeId × Value → H) (F : Stop.Interp) :
    ReturnsInHanded {} Tryd.checked os 8 .any ((OpenSpec.ofChange Rows.ivalLaterSpec).preRow enc Tryd.prog Tryd.f8 Rows.ivalLaterRow.domain false Rows.ivalLaterRow.laid) (((OpenSpec.ofChange Rows.ivalLaterSpec).at F).post enc Tryd.prog Tryd.f8 false true false false) := by
  obtain ⟨places, hx⟩ := reads os enc
  refine returnsInHanded_of_row (C := Tryd.checked) (s := (OpenSpec.ofChange Rows.ivalLaterSpec)) own started (by kernel_rfl) Tryd.func8
    (witness_row_at (enc := enc) (C := Tryd.checked) false (laidWorld os) #[.int .u16 0, .int .u16 0, .bool false, .int .i64 0, .int .u64 0, .int .u64 0] rfl (by kernel_rfl) (by kernel_rfl) (by kernel_rfl)
      (OpenSpec.preRow_of_cond 8 hx (by kernel_rfl) (fun k hk => by cases hk) (by kernel_rfl) (laid_met os))) ?_
  intro W base args ds gs before hval hW _ _ _ hL _ _
  exact contract H enc W base args ds gs before hval hW hL
theorem said : Rows.IvalLaterSaid :=
  OpenClaim.holds_of_cond 8 Tryd.f8 rfl rfl rfl rfl rfl rfl rfl ⟨rfl, rfl, rfl, rfl, rfl⟩ rfl rfl rfl rfl rfl (by kernel_rfl) Tryd.func8 (by kernel_rfl)
    (of_decide_eq_true (by kernel_rfl)) (by unfold Func.isWrapper; first | (rw [if_pos (by decide +kernel)]; kernel_rfl) | (rw [if_neg (by decide +kernel)]; exact ⟨rfl, rfl⟩))
    (fun os started H enc _ F => by rw [OpenClaim.pre_eq_preRow]; exact lifted os started H enc F)
theorem plain (f : FuncId) (fn : Func) (hf : Tryd.pinned.checked.prog.funcNamed "watchglass/watchglasslaw3.IvalLater" = some f) (hfn : Tryd.pinned.checked.prog.funcs[f]? = some fn) :
    false = Tryd.pinned.checked.prog.looks [] ∧ ∀ (j : Nat) t, fn.params[j]? = some t → Tryd.pinned.checked.prog.wantsStandIn t = false := by
  obtain rfl : f = 8 := Option.some.inj ((show Tryd.prog.funcNamed "watchglass/watchglasslaw3.IvalLater" = some 8 by kernel_rfl).symm.trans hf) |>.symm
  obtain rfl : fn = Tryd.f8 := (Option.some.inj (Tryd.func8.symm.trans hfn)).symm
  refine ⟨by kernel_rfl, fun j t ht => ?_⟩
  rw [Tryd.params8] at ht
  have ht2 := Array.mem_of_getElem? ht
  simp only [List.mem_toArray, List.mem_cons, List.not_mem_nil, or_false] at ht2
  rcases ht2 with rfl | rfl | rfl | rfl | rfl | rfl <;> first | exact (show Tryd.prog.wantsStandIn 41 = false by kernel_rfl) | exact (show Tryd.prog.wantsStandIn 41 = false by kernel_rfl) | exact (show Tryd.prog.wantsStandIn 4 = false by kernel_rfl) | exact (show Tryd.prog.wantsStandIn 3 = false by kernel_rfl) | exact (show Tryd.prog.wantsStandIn 39 = false by kernel_rfl) | exact (show Tryd.prog.wantsStandIn 39 = false by kernel_rfl)
theorem proved : Rows.IvalLaterCardSaid :=
  Claim7.holds_tied_plain_at .later [] _ _ _ _ said (fun _ h => by cases h) (by kernel_rfl) (fun _ h => by cases h) ivalLater_row_tie rfl ⟨rfl, rfl⟩ (by kernel_rfl) rfl plain (by kernel_rfl)
end LIvalLater

end Go.Proofs.YteglnekgnbjkoaaDoor
