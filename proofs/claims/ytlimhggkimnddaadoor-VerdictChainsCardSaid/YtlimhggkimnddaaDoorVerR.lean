/- The law's parsed and awake. No condition but the length that any string has, and what the library's variables hold. -/
import Derived.Test.YtlimhggkimnddaaDoorVerQ
import Derived.Test.YtlimhggkimnddaaDoorVerF
set_option linter.unusedSimpArgs false
set_option linter.unusedVariables false
namespace Go.Proofs.YtlimhggkimnddaaDoor
open Go.ChangeShapes Go.WideShapes Go.ChangeAt Go.RowKit
namespace Vd
set_option maxHeartbeats 1600000 in
theorem parsed_c (s : List UInt8) (w : World) (hm : Mx w) (hs : s.length ≤ 1000000000) : Calls Tryd.prog 12 #[.string ⟨s.toArray⟩] w (Gives (.bool true) w) := by
  have HP := hid (fun w' (h : Nw w w') => parse_c s w' (hm.nw h) hs)
  have HR := hid (fun w' => rparse_c s w' hs)
  unfold HandsP at HP HR
  generalize parse s = r at *
  obtain ⟨l, z1, z2⟩ := r
  simp only at HP HR
  have HE := hid (fun w' va vb (h1 : Its w' va l) (h2 : Its w' vb l) => show Calls Tryd.prog 14 #[va, vb] w' (Gives (.bool true) w') by
    have := eqIts_c va vb l l w' h1 h2
    rwa [decide_eq_true rfl] at this)
  go_enter Tryd.func12, Tryd.ntmps12
  go_wp2_with (first
    | (go_at_call 13; refine (HP.out _ (by repeat (first | assumption | exact Nw.refl _ | refine Nw.alloc ?_ _ | refine Nw.drew ?_ | refine Nw.drewN2 ?_ _ | (refine Nw.trans ?_ (by assumption))))).mono ?_; rintro e w1 ⟨v1, rfl, ho1, hn1⟩)
    | (go_at_call 22; refine (HR.out _).mono ?_; rintro e w2 ⟨v2, rfl, ho2, hn2⟩; have hi1 := ho1.its.nw hn2; have hi2 := ho2.its)
    | (go_at_call 14; refine (HE.out _ _ _ hi1 hi2).mono ?_; rintro e w3 ⟨rfl, hn3⟩)
    | fail)
  go_ret
  exact ⟨rfl, (by repeat (first | assumption | exact Nw.refl _ | refine Nw.alloc ?_ _ | refine Nw.drew ?_ | refine Nw.drewN2 ?_ _ | (refine Nw.trans ?_ (by assumption))))⟩
def L2 : List It := [(2, 0, false, 1), (1, 1, true, 0)]
def T2 : List UInt8 := [48, 32, 61, 32, 49, 10, 49, 32, 116, 114, 117, 101, 10]
theorem text_L2 : text L2 = T2 := by
  have e0 : Lib.itoa 0 = [48] := by
    have := itoa_dec 0
    rw [dec_small (by decide)] at this
    exact this
  have e1 : Lib.itoa 1 = [49] := by
    have := itoa_dec 1
    rw [dec_small (by decide)] at this
    exact this
  simp [text, L2, T2, full, line, told, e0, e1, fb]
theorem parse_T2 : parse T2 = (L2, 0, 0) := by
  rw [← text_L2, parse_text]
  simp [L2, norm, told]
theorem ok_L2 : ok 2 L2 := by
  intro j x hj hx
  match j, hj with
  | 0, _ =>
    cases hx
    exact ⟨by decide, fun i y h => absurd h (Nat.not_lt_zero _)⟩
  | 1, _ =>
    cases hx
    refine ⟨by decide, fun i y h hy => ?_⟩
    obtain rfl : i = 0 := by omega
    cases hy
    decide
  | j + 2, h => exact absurd h (by simp [L2])
theorem res_L2 : res 2 L2 = ([true, true], 0) := by
  rw [res_ok (by decide) ok_L2 rfl]
  rfl
theorem rg_L2 : ∀ x ∈ L2, Rg x := by
  intro x hx
  simp only [L2, List.mem_cons, List.not_mem_nil, or_false] at hx
  rcases hx with rfl | rfl <;> (unfold Rg; simp)
theorem its_L2 (w : World) : Its (w.alloc (.cells #[.int .i64 2, .int .i64 0, .bool false, .int .i64 1, .int .i64 1, .int .i64 1, .bool true, .int .i64 0] 30)) (.slice (some ⟨w.heap.size, 0, none⟩) 2 2) L2 := by
  refine ⟨_, 2, rfl, by decide, by decide, (fun h => by cases h), fun i x hx => ⟨w.heap.size, 0, rfl, ?_⟩⟩
  have hb := heap_new w (.cells #[.int .i64 2, .int .i64 0, .bool false, .int .i64 1, .int .i64 1, .int .i64 1, .bool true, .int .i64 0] 30 (0, 0))
  match i, hx with
  | 0, hx => cases hx; exact ⟨heap_cell hb _, heap_cell hb _, heap_cell hb _, heap_cell hb _⟩
  | 1, hx => cases hx; exact ⟨heap_cell hb _, heap_cell hb _, heap_cell hb _, heap_cell hb _⟩
  | i + 2, hx => cases hx
set_option maxRecDepth 20000 in
set_option maxHeartbeats 4000000 in
theorem awake_c (w : World) (hm : Mx w) (ht : Tab w) : Calls Tryd.prog 11 #[] w (Gives (.bool true) w) := by
  have HP := hid (fun w' (h : Nw w w') => show Calls Tryd.prog 13 #[.string ⟨#[48, 32, 61, 32, 49, 10, 49, 32, 116, 114, 117, 101, 10]⟩] w' (fun e w'' => ∃ v, e = .returned (.tuple #[v, .int .i64 0, .int .i64 0]) ∧ Its w'' v L2 ∧ Nw w' w'') by
    refine (parse_c T2 w' (hm.nw h) (by decide)).mono ?_
    rintro e w'' ⟨v, he, ho, hn⟩
    rw [parse_T2] at he ho
    exact ⟨v, he, ho.its, hn⟩)
  have HR := hid (fun w' v (h : Its w' v L2) => show Calls Tryd.prog 15 #[.int .i64 2, v] w' (fun e w'' => ∃ v, e = .returned (.tuple #[v, .int .i64 0]) ∧ Sl w'' v (bls [true, true]) ∧ Nw w' w'') by
    refine (resolve_c 2 v L2 w' h rg_L2 (by decide) (by decide)).mono ?_
    rintro e w'' ⟨v, he, ho, hn⟩
    rw [res_L2] at he ho
    exact ⟨v, he, ho, hn⟩)
  have HT := hid (fun w' v (h1 : Nw w w') (h : Its w' v L2) => show Calls Tryd.prog 9 #[v] w' (Gives (.string ⟨#[48, 32, 61, 32, 49, 10, 49, 32, 116, 114, 117, 101, 10]⟩) w') by
    have := text_c v L2 w' h rg_L2 (by decide) (ht.nw h1)
    rw [text_L2] at this
    exact this)
  have HE := hid (fun w' va vb (h1 : Its w' va L2) (h2 : Its w' vb L2) => show Calls Tryd.prog 14 #[va, vb] w' (Gives (.bool true) w') by
    have := eqIts_c va vb L2 L2 w' h1 h2
    rwa [decide_eq_true rfl] at this)
  have HI := hid (its_L2 w)
  go_enter Tryd.func11, Tryd.ntmps11
  go_wp2_with (first
    | (go_at_call 13; refine (HP.out _ (by repeat (first | assumption | exact Nw.refl _ | refine Nw.alloc ?_ _ | refine Nw.drew ?_ | refine Nw.drewN2 ?_ _ | (refine Nw.trans ?_ (by assumption))))).mono ?_; rintro e w1 ⟨v1, rfl, ho1, hn1⟩)
    | (go_at_call 15; refine (HR.out _ _ (HI.out.nw hn1)).mono ?_; rintro e w2 ⟨v2, rfl, ho2, hn2⟩; obtain ⟨p2, cap2, rfl, _, _, _, hc2⟩ := bls_open ho2; obtain ⟨b2, o2, rfl, _⟩ := bls_cell hc2 (i := 0) rfl; simp only [List.length_cons, List.length_nil] )
    | (go_at_call 9; refine (HT.out _ _ (by repeat (first | assumption | exact Nw.refl _ | refine Nw.alloc ?_ _ | refine Nw.drew ?_ | refine Nw.drewN2 ?_ _ | (refine Nw.trans ?_ (by assumption)))) (HI.out.nw (hn1.trans hn2))).mono ?_; rintro e w3 ⟨rfl, hn3⟩)
    | (go_at_call 14; refine (HE.out _ _ _ (HI.out.nw (hn1.trans (hn2.trans hn3))) (ho1.nw (hn2.trans hn3))).mono ?_; rintro e w4 ⟨rfl, hn4⟩; have hc4 := hc2.nw (hn3.trans hn4); (obtain ⟨b3, o3, e3, k0⟩ := bls_cell hc4 (i := 0) rfl); (obtain ⟨b4, o4, e4, k1⟩ := bls_cell hc4 (i := 1) rfl); (cases e3; cases e4); simp only [Nat.add_zero] at k0)
    | fail)
  go_ret
  exact ⟨rfl, (by repeat (first | assumption | exact Nw.refl _ | refine Nw.alloc ?_ _ | refine Nw.drew ?_ | refine Nw.drewN2 ?_ _ | (refine Nw.trans ?_ (by assumption))))⟩
end Vd
end Go.Proofs.YtlimhggkimnddaaDoor
