/- The contracts of verdict.item and the reference's item. No condition but the length that any string has, and that the library's variable MaxLen holds a number. -/
import Derived.Test.YtlimhggkimnddaaDoorVerH
set_option linter.unusedSimpArgs false
set_option linter.unusedVariables false
namespace Go.Proofs.YtlimhggkimnddaaDoor
open Go.ChangeShapes Go.WideShapes Go.ChangeAt Go.RowKit
namespace Vd
theorem results_cell2 {P : Program} {fn : Func} {p u : Tmp} {ty : TypeId} (h : fn.results = #[.cell p ty, .tmp u]) (tmps : Array Value) (w : World) (g : Nat) (t : TypeId) (cs : Array Value) (fr : Nat × Nat) (d : TypeDesc)
    (hp : tmps.getD p undef = .pointer (some ⟨g, 0, none⟩)) (hg : w.heap[g]? = some (.cells cs t fr))
    (hu : P.underlying ty = some d) (hd : (match d with | .struct _ | .array _ _ => true | _ => false) = true) (hi : (P.info? ty).map (·.size) = some cs.size) :
    (results fn tmps).run P w = .ok (.tuple #[.agg cs, tmps.getD u undef]) w := by
  have hp' : tmps[p]?.getD undef = .pointer (some ⟨g, 0, none⟩) := by simpa using hp
  simp [results, h, hp', asAddr, run_loadVar_row w g t ty cs fr d hg hu hd hi]
def HandsI (w : World) (s : List UInt8) (e : Ending) (w' : World) : Prop := ∃ x : It, e = .returned (.tuple #[itv x, .bool (item s).isSome]) ∧ (∀ y, item s = some y → y = x) ∧ Nw w w'
/-- Four cells are written. -/
theorem four_heap {w w1 : World} {z : Nat} {a0 a1 a2 a3 : Value} (h : w1.heap[z]? = some (.cells #[a0, a1, a2, a3] 30 (0, 0))) (hn : Nw w w1) (hz : w.heap.size ≤ z) (b0 b1 b2 b3 : Value) :
    ((((w1.setCell ⟨z, 0, none⟩ b0).setCell ⟨z, 1, none⟩ b1).setCell ⟨z, 2, none⟩ b2).setCell ⟨z, 3, none⟩ b3).heap[z]? = some (.cells #[b0, b1, b2, b3] 30 (0, 0)) ∧
    Nw w ((((w1.setCell ⟨z, 0, none⟩ b0).setCell ⟨z, 1, none⟩ b1).setCell ⟨z, 2, none⟩ b2).setCell ⟨z, 3, none⟩ b3) :=
  ⟨heap_set (heap_set (heap_set (heap_set h 0 b0) 1 b1) 2 b2) 3 b3, (((hn.setCell (p := ⟨z, 0, none⟩) hz b0).setCell (p := ⟨z, 1, none⟩) hz b1).setCell (p := ⟨z, 2, none⟩) hz b2).setCell (p := ⟨z, 3, none⟩) hz b3⟩
theorem it_cells {w : World} {z : Nat} {a0 a1 a2 a3 : Value} (h : w.heap[z]? = some (.cells #[a0, a1, a2, a3] 30 (0, 0))) : w.cell? ⟨z, 0, none⟩ = some a0 ∧ w.cell? ⟨z, 1, none⟩ = some a1 ∧ w.cell? ⟨z, 2, none⟩ = some a2 ∧ w.cell? ⟨z, 3, none⟩ = some a3 ∧
    w.frozen? ⟨z, 0, none⟩ = false ∧ w.frozen? ⟨z, 1, none⟩ = false ∧ w.frozen? ⟨z, 2, none⟩ = false ∧ w.frozen? ⟨z, 3, none⟩ = false :=
  ⟨heap_cell h 0, heap_cell h 1, heap_cell h 2, heap_cell h 3, heap_frozen h 0, heap_frozen h 1, heap_frozen h 2, heap_frozen h 3⟩
theorem item_a {s a b : List UInt8} (e : Lib.cut s [32, 61, 32] = (a, b, true)) : (item s).isSome = ((num a).isSome && (num b).isSome) ∧ ∀ y, item s = some y → y = (2, numv a, false, numv b) := by
  unfold item numv
  rw [e, if_pos rfl]
  cases num a <;> cases num b <;> simp
theorem item_b {s a b c d : List UInt8} {t2 : Bool} (e : Lib.cut s [32, 61, 32] = (c, d, false)) (e2 : Lib.cut s [32] = (a, b, t2)) :
    (item s).isSome = ((num a).isSome && ((b == fb true) || (b == fb false))) ∧ ∀ y, item s = some y → y = (1, numv a, b == fb true, 0) := by
  unfold item numv
  rw [e, e2, if_neg (by simp)]
  simp only
  cases num a with
  | none => simp
  | some i =>
    simp only
    by_cases h1 : b = fb true
    · rw [if_pos h1, h1]; simp
    · rw [if_neg h1]
      by_cases h2 : b = fb false
      · rw [if_pos h2, h2]
        refine ⟨by simp, fun y hy => ?_⟩
        cases hy
        simp [fb]
      · rw [if_neg h2]
        simp [h1, h2]
theorem cut_le (s sep : List UInt8) : (Lib.cut s sep).1.length ≤ s.length ∧ (Lib.cut s sep).2.1.length ≤ s.length := by
  rcases cut_cases s sep with ⟨e, _⟩ | ⟨a, b, e, hs, _⟩
  · rw [e]; simp
  · rw [e]
    have := congrArg List.length hs
    simp only [List.length_append] at this
    exact ⟨by simp only; omega, by simp only; omega⟩
set_option maxRecDepth 20000 in
set_option maxHeartbeats 2000000 in
theorem item_c (s : List UInt8) (w : World) (hm : Mx w) (hs : s.length ≤ 1000000000) : Calls Tryd.prog 24 #[.string ⟨s.toArray⟩] w (HandsI w s) := by
  have HC1 := hid (fun w' (h : Nw w w') => cut_c s [32, 61, 32] w' (hm.nw h) hs)
  have HC2 := hid (fun w' (h : Nw w w') => cut_c s [32] w' (hm.nw h) hs)
  have hl1 := cut_le s [32, 61, 32]
  have hl2 := cut_le s [32]
  obtain ⟨c, d, t1, e1⟩ : ∃ c d t, Lib.cut s [32, 61, 32] = (c, d, t) := ⟨_, _, _, rfl⟩
  obtain ⟨a, b, t2, e2⟩ : ∃ c d t, Lib.cut s [32] = (c, d, t) := ⟨_, _, _, rfl⟩
  rw [e1] at HC1 hl1
  rw [e2] at HC2 hl2
  obtain ⟨l1, l2⟩ := hl1
  obtain ⟨l3, l4⟩ := hl2
  have HNC := hid (fun w' => number_c c w' (Nat.le_trans l1 hs))
  have HND := hid (fun w' => number_c d w' (Nat.le_trans l2 hs))
  have HNA := hid (fun w' => number_c a w' (Nat.le_trans l3 hs))
  unfold HandsN at HNC HND HNA
  clear l1 l2 l3 l4
  cases t1 with
  | true =>
    obtain ⟨hk, hy⟩ := item_a e1
    have HY := hid hy
    clear hy e1 e2
    unfold HandsI
    generalize item s = I at *
    generalize numv c = nc at *
    generalize numv d = nd at *
    generalize (num c).isSome = bc at *
    generalize (num d).isSome = bd at *
    rw [hk]
    clear hk
    cases bc
    all_goals
      cases bd
    all_goals
      go_enter Tryd.func24, Tryd.ntmps24
      go_wp2_with (first
        | (go_at_call 23; (with_reducible refine (HC1.out _ ?_).mono ?_); (try exact (by repeat (first | assumption | exact Nw.refl _ | refine Nw.alloc ?_ _ | refine Nw.drew ?_ | refine Nw.drewN2 ?_ _ | (refine Nw.trans ?_ (by assumption))))); rintro e w1 ⟨rfl, hn1⟩)
        | (go_at_call 33; (with_reducible refine (HNC.out _).mono ?_); rintro e w2 ⟨rfl, hn2⟩)
        | (go_at_call 33; (with_reducible refine (HND.out _).mono ?_); rintro e w3 ⟨rfl, hn3⟩; have hnz := hn1.trans (hn2.trans hn3); obtain ⟨g0, g1, g2, g3, f0, f1, f2, f3⟩ := it_cells (hnz.heap (heap_new w _)))
        | fail)
      have hfh := four_heap (hnz.heap (heap_new w _)) (by repeat (first | assumption | exact Nw.refl _ | refine Nw.alloc ?_ _ | refine Nw.drew ?_ | refine Nw.drewN2 ?_ _ | (refine Nw.trans ?_ (by assumption)))) (Nat.le_refl _) (.int .i64 2) (.int .i64 nc) (.bool false) (.int .i64 nd)
      ((try simp only [Exit.inBlock, Exit.then]); refine bodyPost_ret (results_cell2 rfl _ _ _ _ _ _ _ rfl hfh.1 Tryd.underlying30 rfl (by kernel_rfl)) rfl ?_)
      exact ⟨(2, nc, false, nd), rfl, HY.out, hfh.2⟩
  | false =>
    obtain ⟨hk, hy⟩ := item_b e1 e2
    have HY := hid hy
    clear hy e1 e2
    unfold HandsI
    generalize item s = I at *
    generalize numv a = na at *
    generalize (num a).isSome = ba at *
    rw [hk]
    clear hk
    obtain ⟨v1, hv1⟩ : ∃ v, (b == [116, 114, 117, 101]) = v := ⟨_, rfl⟩
    obtain ⟨v2, hv2⟩ : ∃ v, (b == [102, 97, 108, 115, 101]) = v := ⟨_, rfl⟩
    have hf1 : (b == fb true) = v1 := hv1
    have hf2 : (b == fb false) = v2 := hv2
    rw [hf1, hf2]
    rw [hf1] at HY
    clear hf1 hf2
    cases v1 with
    | true =>
      cases ba
      all_goals
        cases v2
      all_goals
        go_enter Tryd.func24, Tryd.ntmps24
        go_wp2_with (first
          | (go_at_call 23; (with_reducible refine (HC1.out _ ?_).mono ?_); (try exact (by repeat (first | assumption | exact Nw.refl _ | refine Nw.alloc ?_ _ | refine Nw.drew ?_ | refine Nw.drewN2 ?_ _ | (refine Nw.trans ?_ (by assumption))))); rintro e w1 ⟨rfl, hn1⟩)
          | (go_at_call 23; (with_reducible refine (HC2.out _ ?_).mono ?_); (try exact (by repeat (first | assumption | exact Nw.refl _ | refine Nw.alloc ?_ _ | refine Nw.drew ?_ | refine Nw.drewN2 ?_ _ | (refine Nw.trans ?_ (by assumption))))); rintro e w2 ⟨rfl, hn2⟩)
          | (go_at_call 33; (with_reducible refine (HNA.out _).mono ?_); rintro e w3 ⟨rfl, hn3⟩; have hnz := hn1.trans (hn2.trans hn3); obtain ⟨g0, g1, g2, g3, f0, f1, f2, f3⟩ := it_cells (hnz.heap (heap_new w _)))
          | fail)
        have hfh := four_heap (hnz.heap (heap_new w _)) (by repeat (first | assumption | exact Nw.refl _ | refine Nw.alloc ?_ _ | refine Nw.drew ?_ | refine Nw.drewN2 ?_ _ | (refine Nw.trans ?_ (by assumption)))) (Nat.le_refl _) (.int .i64 1) (.int .i64 na) (.bool true) (.int .i64 0)
        ((try simp only [Exit.inBlock, Exit.then]); refine bodyPost_ret (results_cell2 rfl _ _ _ _ _ _ _ rfl hfh.1 Tryd.underlying30 rfl (by kernel_rfl)) rfl ?_)
        exact ⟨(1, na, true, 0), rfl, HY.out, hfh.2⟩
    | false =>
      cases ba
      all_goals
        cases v2
      all_goals
        go_enter Tryd.func24, Tryd.ntmps24
        go_wp2_with (first
          | (go_at_call 23; (with_reducible refine (HC1.out _ ?_).mono ?_); (try exact (by repeat (first | assumption | exact Nw.refl _ | refine Nw.alloc ?_ _ | refine Nw.drew ?_ | refine Nw.drewN2 ?_ _ | (refine Nw.trans ?_ (by assumption))))); rintro e w1 ⟨rfl, hn1⟩)
          | (go_at_call 23; (with_reducible refine (HC2.out _ ?_).mono ?_); (try exact (by repeat (first | assumption | exact Nw.refl _ | refine Nw.alloc ?_ _ | refine Nw.drew ?_ | refine Nw.drewN2 ?_ _ | (refine Nw.trans ?_ (by assumption))))); rintro e w2 ⟨rfl, hn2⟩)
          | (go_at_call 33; (with_reducible refine (HNA.out _).mono ?_); rintro e w3 ⟨rfl, hn3⟩; have hnz := hn1.trans (hn2.trans hn3); obtain ⟨g0, g1, g2, g3, f0, f1, f2, f3⟩ := it_cells (hnz.heap (heap_new w _)))
          | fail)
        have hfh := four_heap (hnz.heap (heap_new w _)) (by repeat (first | assumption | exact Nw.refl _ | refine Nw.alloc ?_ _ | refine Nw.drew ?_ | refine Nw.drewN2 ?_ _ | (refine Nw.trans ?_ (by assumption)))) (Nat.le_refl _) (.int .i64 1) (.int .i64 na) (.bool false) (.int .i64 0)
        ((try simp only [Exit.inBlock, Exit.then]); refine bodyPost_ret (results_cell2 rfl _ _ _ _ _ _ _ rfl hfh.1 Tryd.underlying30 rfl (by kernel_rfl)) rfl ?_)
        exact ⟨(1, na, false, 0), rfl, HY.out, hfh.2⟩
end Vd
end Go.Proofs.YtlimhggkimnddaaDoor
