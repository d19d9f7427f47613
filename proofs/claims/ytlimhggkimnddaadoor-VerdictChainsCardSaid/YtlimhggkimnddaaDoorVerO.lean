/- The contracts of verdict.wrong and verdict.Resolve. No condition but lengths. -/
import Derived.Test.YtlimhggkimnddaaDoorVerN
import Derived.Test.YtlimhggkimnddaaDoorMkF
import Derived.Maps.OwnSet
set_option linter.unusedSimpArgs false
set_option linter.unusedVariables false
namespace Go.Proofs.YtlimhggkimnddaaDoor
open Go.ChangeShapes Go.WideShapes Go.ChangeAt Go.RowKit
namespace Vd
set_option maxHeartbeats 1600000 in
theorem wrong_c (n k i t : Int) (b : Bool) (w : World) : Calls Tryd.prog 25 #[.int .i64 n, itv (k, i, b, t)] w (Gives (.bool (wrong n (k, i, b, t))) w) := by
  have HW := hid (show wrong n (k, i, b, t) = if i < 0 ∨ n ≤ i then true else if k = 2 then decide (t ≤ i ∨ n ≤ t) else decide (k ≠ 1) from rfl)
  by_cases h1 : i < 0
  · have d1 : decide (i < 0) = true := decide_eq_true h1
    have HE := hid (HW.out.trans (if_pos (Or.inl h1)))
    clear h1
    go_enter Tryd.func25, Tryd.ntmps25
    unfold itv
    go_wp2
    go_ret
    exact Gives.b HE.out.symm (by repeat (first | assumption | exact Nw.refl _ | refine Nw.alloc ?_ _ | refine Nw.drew ?_ | refine Nw.drewN2 ?_ _ | (refine Nw.trans ?_ (by assumption))))
  · have d1 : decide (i < 0) = false := decide_eq_false h1
    by_cases h2 : n ≤ i
    · have d2 : decide (n ≤ i) = true := decide_eq_true h2
      have HE := hid (HW.out.trans (if_pos (Or.inr h2)))
      clear h1 h2
      go_enter Tryd.func25, Tryd.ntmps25
      unfold itv
      go_wp2
      go_ret
      exact Gives.b HE.out.symm (by repeat (first | assumption | exact Nw.refl _ | refine Nw.alloc ?_ _ | refine Nw.drew ?_ | refine Nw.drewN2 ?_ _ | (refine Nw.trans ?_ (by assumption))))
    · have d2 : decide (n ≤ i) = false := decide_eq_false h2
      have HE := hid (HW.out.trans (if_neg (by rintro (q | q); exact h1 q; exact h2 q)))
      clear h1 h2
      by_cases h3 : k = 2
      · have d3 : (k == 2) = true := by simpa using h3
        have HE2 := hid (HE.out.trans (if_pos h3))
        clear h3
        by_cases h4 : t ≤ i
        · have d4 : decide (t ≤ i) = true := decide_eq_true h4
          have HE3 := hid (HE2.out.trans (decide_eq_true (Or.inl h4)))
          clear h4
          go_enter Tryd.func25, Tryd.ntmps25
          unfold itv
          go_wp2
          go_ret
          exact Gives.b HE3.out.symm (by repeat (first | assumption | exact Nw.refl _ | refine Nw.alloc ?_ _ | refine Nw.drew ?_ | refine Nw.drewN2 ?_ _ | (refine Nw.trans ?_ (by assumption))))
        · have d4 : decide (t ≤ i) = false := decide_eq_false h4
          by_cases h5 : n ≤ t
          · have d5 : decide (n ≤ t) = true := decide_eq_true h5
            have HE3 := hid (HE2.out.trans (decide_eq_true (Or.inr h5)))
            clear h4 h5
            go_enter Tryd.func25, Tryd.ntmps25
            unfold itv
            go_wp2
            go_ret
            exact Gives.b HE3.out.symm (by repeat (first | assumption | exact Nw.refl _ | refine Nw.alloc ?_ _ | refine Nw.drew ?_ | refine Nw.drewN2 ?_ _ | (refine Nw.trans ?_ (by assumption))))
          · have d5 : decide (n ≤ t) = false := decide_eq_false h5
            have HE3 := hid (HE2.out.trans (decide_eq_false (by rintro (q | q); exact h4 q; exact h5 q)))
            clear h4 h5
            go_enter Tryd.func25, Tryd.ntmps25
            unfold itv
            go_wp2
            go_ret
            exact Gives.b HE3.out.symm (by repeat (first | assumption | exact Nw.refl _ | refine Nw.alloc ?_ _ | refine Nw.drew ?_ | refine Nw.drewN2 ?_ _ | (refine Nw.trans ?_ (by assumption))))
      · have d3 : (k == 2) = false := by simpa using h3
        have HE2 := hid (HE.out.trans (if_neg h3))
        clear h3
        by_cases h4 : k = 1
        · have d4 : (k == 1) = true := by simpa using h4
          have d6 : (k != 1) = false := by simpa using h4
          have HE3 := hid (HE2.out.trans (decide_eq_false (by simpa using h4)))
          clear h4
          go_enter Tryd.func25, Tryd.ntmps25
          unfold itv
          go_wp2
          go_ret
          exact Gives.b HE3.out.symm (by repeat (first | assumption | exact Nw.refl _ | refine Nw.alloc ?_ _ | refine Nw.drew ?_ | refine Nw.drewN2 ?_ _ | (refine Nw.trans ?_ (by assumption))))
        · have d4 : (k == 1) = false := by simpa using h4
          have d6 : (k != 1) = true := by simpa using h4
          have HE3 := hid (HE2.out.trans (decide_eq_true h4))
          clear h4
          go_enter Tryd.func25, Tryd.ntmps25
          unfold itv
          go_wp2
          go_ret
          exact Gives.b HE3.out.symm (by repeat (first | assumption | exact Nw.refl _ | refine Nw.alloc ?_ _ | refine Nw.drew ?_ | refine Nw.drewN2 ?_ _ | (refine Nw.trans ?_ (by assumption))))
/-! ### The map of places -/
theorem run_make2 (n : Int) (w : World) : (Instr.makeMap 57 (some (.int .i64 n))).run Tryd.prog w = .ok (.map (some w.heap.size)) (w.alloc (.map #[] 0)) := by
  simp [Instr.makeMap, run_underlying Tryd.underlying57, asInt, asIntOf, Result.andThen]
def mp (l : List It) : Nat → DataW Unit
  | 0 => .map []
  | k + 1 => (mp l k).put (.int .i64 (l.getD k dflt).2.1) (.lit (.int .i64 (k : Int)))
theorem mp_map (l : List It) : ∀ k, Maps.IsMap (mp l k)
  | 0 => ⟨[], rfl⟩
  | k + 1 => (mp_map l k).put _ _
theorem key_int (z : Int) : WideAt.IsKeyLit (.int .i64 z) := trivial
theorem mp_has (l : List It) (z : Int) : ∀ k, k ≤ l.length → (Maps.has (mp l k) (.int .i64 z) = true ↔ ∃ j, j < k ∧ (l.getD j dflt).2.1 = z)
  | 0, _ => by
    constructor
    · intro h; cases h
    · rintro ⟨j, h, _⟩; cases h
  | k + 1, hk => by
    rw [mp]
    by_cases e : z = (l.getD k dflt).2.1
    · subst e
      rw [Maps.has_put_same (mp_map l k) (key_int _)]
      exact ⟨fun _ => ⟨k, by omega, rfl⟩, fun _ => rfl⟩
    · rw [Maps.has_put_other (by intro q; cases q; exact e rfl), mp_has l z k (by omega)]
      constructor
      · rintro ⟨j, h1, h2⟩; exact ⟨j, by omega, h2⟩
      · rintro ⟨j, h1, h2⟩
        refine ⟨j, ?_, h2⟩
        have : j ≠ k := fun q => e (by rw [← h2, q])
        omega
theorem mp_at (l : List It) {n : Int} (zd : DataW Unit) : ∀ k, k ≤ l.length → okUp n l k → ∀ j, j < k → (mp l k).atKey (.int .i64 (l.getD j dflt).2.1) zd = .lit (.int .i64 (j : Int))
  | 0, _, _, j, hj => absurd hj (Nat.not_lt_zero _)
  | k + 1, hk, hok, j, hj => by
    rw [mp]
    by_cases e : j = k
    · subst e
      exact Maps.atKey_put_same (mp_map l j) (key_int _) _ _
    · have hg : ∀ i, i < l.length → l[i]? = some (l.getD i dflt) := fun i hi => by rw [List.getD_eq_getElem?_getD, List.getElem?_eq_getElem hi]; rfl
      have := (hok k _ (by omega) (hg k (by omega))).2 j _ (by omega) (hg j (by omega))
      rw [Maps.atKey_put_other (fun q => by injection q with _ e2; exact this e2) _ _]
      exact mp_at l zd k (by omega) (fun i x hi hx => hok i x (by omega) hx) j (by omega)
theorem om_nw {w w' : World} {b n : Nat} {D : DataW Unit} (h : w.ownsMap Tryd.prog 3 (plainElem Tryd.prog 3) b n D) (hn : Nw w w') : w'.ownsMap Tryd.prog 3 (plainElem Tryd.prog 3) b n D := by
  obtain ⟨es, clock, hb, r⟩ := h
  exact ⟨es, clock, hn.heap hb, r⟩
theorem lawI : Maps.Keyed Tryd.prog 3 := Maps.int_keyed Tryd.underlying3
theorem zeroI (w : World) : (zeroValue 3).run Tryd.prog w = .ok (.int .i64 0) w := by kernel_rfl
theorem getD_some {l : List It} {k : Nat} {x : It} (h : l[k]? = some x) : l.getD k dflt = x := by rw [List.getD_eq_getElem?_getD, h]; rfl
end Vd
end Go.Proofs.YtlimhggkimnddaaDoor
