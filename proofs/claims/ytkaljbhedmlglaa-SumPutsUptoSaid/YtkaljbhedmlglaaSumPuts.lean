/- SumPuts: for every input of bulk at most 1048576 the law returns true, and each argument reads as it did. -/
import Derived.Test.YtkaljbhedmlglaaSumLaws
import Derived.Test.YtkaljbhedmlglaaPuts
import Derived.Test.YtkaljbhedmlglaaRegion
namespace Go.Proofs.Ytkaljbhedmlglaa
open Go.ChangeShapes Go.WideShapes Go.ChangeAt Go.RowKit
open Go.ChangeMaps (open_string shut_string)
namespace Sum
set_option maxRecDepth 20000 in
set_option maxHeartbeats 1000000 in
theorem puts_walk (v : Value) (bs : List UInt8) (w : World) (hv : Bytes w v bs) (hn : bs.length ≤ 1073741824) :
    Calls Try.prog 6 #[v] w fun e w' => e = .returned (.bool true) ∧ Nw w w' := by
  go_enter Try.func6, Try.ntmps6
  go_wp2_with (first
    | (go_at_call 17; refine (right_c _ _ _ hv hn).mono ?_; rintro e w1 ⟨v1, rfl, hb1, hn1⟩)
    | (go_at_call 18; refine (rright_c _ _ _ (hv.nw hn1) hn).mono ?_; rintro e w2 ⟨v2, rfl, hb2, hn2⟩))
  have hv2 := hv.nw (hn1.trans hn2)
  have hb12 := hb1.nw hn2
  have hnw := hn1.trans hn2
  have hs1 := str_later hb12
  have hs2 := str_later hb2
  refine wp_region_says [Is v, Reads8 (put bs), Is (.string ⟨(put bs).toArray⟩), Is v, Reads8 (put bs), Is (.string ⟨(put bs).toArray⟩), Is (.bool true), Is (.bool true),
    Is v1, Is (.string ⟨((right bs).getD []).toArray⟩), Is v2, Is (.string ⟨((right bs).getD []).toArray⟩), Is (.bool true), Is (.bool true), Is (.bool true),
    Is (.bool (right bs).isSome), Is (.bool (right bs).isSome), Is (.bool true), Is (.bool true), Is (.bool true), Is (.bool true), Is (.bool true), Is (.bool true)] (by kernel_rfl) (by kernel_rfl) (by simp [StabL]) ?_ ?_
  · repeat' (first | exact StepsOk.nil | refine StepsOk.cons ?_ ?_)
    all_goals
      intro x wR hR hd K hK
      simp only [fill, Act.put, List.setIfInBounds_toArray, List.set_cons_zero, List.set_cons_succ, Nat.reduceAdd, says, List.getD_cons_zero, List.getD_cons_succ, Is] at hK ⊢
      try simp [Region.binds, says, Is] at hd
      try have hs := str_ok hd
      try simp only [hd] at hK ⊢
      first | (refine wanted_yes ?_ ?_; rfl) | (refine wanted_no ?_ ?_; rfl)
      go_wp2_with (first 
        | (go_at_call 19; refine (put_c _ _ _ (hv2.nw hR) hn).mono ?_; rintro e w4 ⟨v4, rfl, hown4, hn4⟩)
        | (go_at_call 20; refine (rput_c _ _ _ (hv2.nw hR) hn).mono ?_; rintro e w4 ⟨v4, rfl, hown4, hn4⟩)
        | (go_at_call 16; refine (awake_c _).mono ?_; rintro e w5 ⟨rfl, hn5⟩))
    all_goals (try simp only [hd])
    all_goals (refine hK _ _ ?_ ?_ <;> first | exact Nw.refl _ | assumption | exact rfl | exact Own.sl (by assumption))
  intro x wR hR hx
  simp only [fill, Act.put, List.setIfInBounds_toArray, List.set_cons_zero, List.set_cons_succ, Nat.reduceAdd]
  have h22 := hx 22 (by decide)
  simp only [says, List.getD_cons_zero, List.getD_cons_succ, Is] at h22
  clear hx

  go_wp2
  go_ret
  exact ⟨by rw [← h22]; rfl, hnw.trans hR⟩
end Sum
namespace LSumPuts
theorem contract (H : Type) (enc : TypeId × Value → H) (W : World) (base : Nat) (args : Array Value) (ds gs : List (DataW H)) (before : List MemPlace)
    (hval : ∀ (j : Nat) t v, Try.f6.params[j]? = some t → args[j]? = some v → Value.okWide Try.prog W .any base t v)
    (hW : DataW.Whole enc Try.prog Try.f6.params.toList Rows.sumPutsSpec.vars false W args.toList ds gs before) (hk : Rows.uptoSmall H (ds ++ gs) = true) :
    Calls Try.prog 6 args W fun e W' => ∃ v, e = .returned v ∧ Rows.sumPutsSpec.post enc Try.prog Try.f6 false true false false W args v W' := by
  have hA1 := hW
  obtain ⟨p, q, hA, hV, _, _, _⟩ := hA1
  obtain ⟨rfl, _⟩ := trodVars_none hV
  rw [Try.params6] at hA hval
  obtain ⟨v0, vs0, d0, ds0, p0, q0, hargs, rfl, _, h0, r0⟩ := trodAll_cons hA
  obtain ⟨rfl, rfl, _⟩ := trodAll_nil r0
  obtain rfl : args = #[v0] := by cases args; simp_all
  have hk0 := hk
  simp only [List.append_nil] at hk0
  have hk1 : Rows.uptoBulkAll [d0] ≤ 1048576 := of_decide_eq_true hk0
  simp only [Rows.uptoBulkAll] at hk1
  obtain ⟨b0, hb0, hl0⟩ := open_bytes Try.underlying23 Try.underlying5 (by kernel_rfl) (hval 0 23 v0 rfl rfl) h0
  refine (Sum.puts_walk _ b0 _ hb0 (by omega)).mono fun e W' ⟨he, hb⟩ => ⟨_, he, law_post 4 laidOut hW rfl (by rw [Try.params6]; intro t ht; simp at ht; rcases ht with rfl <;> exact ⟨by kernel_rfl, of_decide_eq_true (by kernel_rfl)⟩) (by kernel_rfl) Try.underlying4 rfl hb⟩
set_option maxRecDepth 100000 in
theorem lifted (os : Os) (started : os.Started) (H : Type) (enc : TypeId × Value → H) (F : Stop.Interp) :
    ReturnsInHanded {} Try.checked os 6 .any ((Rows.OpenSpec.upto Rows.sumPutsSpec).pre6 enc Try.prog Try.f6 Rows.sumPutsUptoRow.domain false) (((Rows.OpenSpec.upto Rows.sumPutsSpec).at F).post enc Try.prog Try.f6 false true false false) := by
  refine returnsInHanded_of_cond (C := Try.checked) (s := Rows.OpenSpec.upto Rows.sumPutsSpec) (k := Rows.uptoSmall) rfl own started (by kernel_rfl) Try.func6
    (OpenSpec.witness (enc := enc) (C := Try.checked) (s := Rows.OpenSpec.upto Rows.sumPutsSpec) (k := Rows.uptoSmall) rfl false ⟨#[], #[.slice none 0 0], []⟩ 8 (by kernel_rfl) (by kernel_rfl) (by kernel_rfl)
      (x := ([.nil], [], [])) (by kernel_rfl) rfl (by kernel_rfl)) ?_
  intro W base args ds gs before hval hW _ hk _
  exact contract H enc W base args ds gs before hval hW hk
theorem proved : Rows.SumPutsUptoSaid :=
  OpenClaim.holds_of_cond 6 Try.f6 rfl rfl rfl rfl rfl rfl rfl ⟨rfl, rfl, rfl, rfl, rfl⟩ rfl rfl rfl rfl rfl (by kernel_rfl) Try.func6 (by kernel_rfl)
    (of_decide_eq_true (by kernel_rfl)) (by unfold Func.isWrapper; first | (rw [if_pos (by decide +kernel)]; kernel_rfl) | (rw [if_neg (by decide +kernel)]; exact ⟨rfl, rfl⟩))
    (fun os started H enc _ F => lifted os started H enc F)
end LSumPuts

end Go.Proofs.Ytkaljbhedmlglaa
