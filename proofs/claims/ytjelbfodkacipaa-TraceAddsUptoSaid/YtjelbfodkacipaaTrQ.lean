/- TraceFronts walked. No condition but lengths. -/
import Derived.Test.YtjelbfodkacipaaTrP
namespace Go.Proofs.Ytjelbfodkacipaa
open Go.ChangeShapes Go.WideShapes Go.ChangeAt Go.RowKit
namespace Tr
open Go.Proofs.Ytjelbfodkacipaa.Lx (isIn nameB strs_open strs_cell contains_c)
open Go.Proofs.Ytjelbfodkacipaa.Rec (rises i64s_open i64_cell)
theorem eOk_take (n : Int) (es : Es) (k i : Nat) (h : i < k) : eOk n (es.take k) i = eOk n es i := by
  unfold eOk
  rw [ids_take _ _ _ h, tm_take _ _ _ h, tm_take _ _ _ (by omega)]
theorem may_take {l : List ByteArray} {es : Es} (h : mayP ⟨l, es⟩ = true) (k : Nat) : mayP ⟨l, es.take k⟩ = true := by
  unfold mayP at *
  rw [Bool.and_eq_true] at *
  refine ⟨h.1, ?_⟩
  unfold evsP mayTo at *
  rw [List.all_eq_true]
  intro i hi
  have hi2 := List.mem_range.1 hi
  rw [List.length_take] at hi2
  simp only at hi2 ⊢
  rw [eOk_take _ _ _ _ (by omega)]
  exact (List.all_eq_true.1 h.2) i (List.mem_range.2 (by simp only; omega))
theorem may_e {l : List ByteArray} {es : Es} (h : mayP ⟨l, es⟩ = true) (k : Nat) (hk : k < es.length) : k = 0 ∨ ¬ tm es k < tm es (k - 1) := by
  unfold mayP evsP mayTo at h
  rw [Bool.and_eq_true] at h
  have := (List.all_eq_true.1 h.2) k (List.mem_range.2 hk)
  unfold eOk at this
  simp only [Bool.and_eq_true, Bool.or_eq_true, decide_eq_true_eq, Bool.not_eq_true', decide_eq_false_iff_not] at this
  exact this.2
theorem front_take {l : List ByteArray} {es : Es} (h : mayP ⟨l, es⟩ = true) (j k : Nat) (hj : j ≤ k) (hk : k ≤ es.length) : frontP ⟨l, es.take j⟩ ⟨l, es.take k⟩ = true := by
  unfold frontP
  rw [may_take h, may_take h]
  have h1 : (es.take j).length = j := by rw [List.length_take]; omega
  have h2 : (es.take k).length = k := by rw [List.length_take]; omega
  simp only [h1, h2, decide_eq_true hj, List.take_take, Nat.min_eq_left hj, Bool.true_and, decide_true]
theorem front_more {l : List ByteArray} {es : Es} (j k : Nat) (hj : k < j) (hk : j ≤ es.length) : frontP ⟨l, es.take j⟩ ⟨l, es.take k⟩ = false := by
  unfold frontP
  have h1 : (es.take j).length = j := by rw [List.length_take]; omega
  have h2 : (es.take k).length = k := by rw [List.length_take]; omega
  simp only [h1, h2, decide_eq_false (show ¬ j ≤ k by omega), Bool.false_and, Bool.and_false]
theorem cut_at {l : List ByteArray} {es : Es} (h : mayP ⟨l, es⟩ = true) (n : Int) (k : Nat) (hk : k ≤ es.length) (hn : n = (k : Int) ∨ (n < 0 ∧ k = 0) ∨ ((es.length : Int) ≤ n ∧ k = es.length)) : cutP ⟨l, es⟩ n = ⟨l, es.take k⟩ := by
  unfold cutP
  rw [if_pos h]
  have : clampN n es.length = k := by unfold clampN; omega
  simp only [this]
theorem TrR.shape {w : World} {v : Value} {es : Es} {n : Nat} (h : TrR w v ⟨pqr, es⟩) (hn : es.length = n) : ∃ q c p d, v = .agg #[.slice q 3 c, .slice p n d] ∧ Sl w (.slice q 3 c) (Lx.strs pqr) ∧ Evs w (.slice p n d) es := by
  subst hn
  obtain ⟨v1, v2, rfl, h1, h2⟩ := h
  obtain ⟨q, c, rfl⟩ := pqr_shape h1
  obtain ⟨p, d, rfl⟩ := evs_shape h2
  exact ⟨q, c, p, d, rfl, h1, h2⟩
theorem small_take {l : List ByteArray} {es : Es} (h : Small ⟨l, es⟩) (k : Nat) : Small ⟨l, es.take k⟩ :=
  ⟨h.n, by have := h.e; simp only [List.length_take] at *; omega, fun i hi => by
    simp only [List.length_take] at hi
    rw [ids_take _ _ _ (by omega)]
    exact h.i i (by simp only; omega), h.s⟩
/-- A trace's block that is overwritten. -/
def FrSt (wL : World) (g : Nat) (u : T) (n : Nat) (wr : World) : Prop := ∃ q c p d, wr.heap[g]? = some (.cells #[.slice q 3 c, .slice p n d] 26 (0, 0)) ∧ Sl wr (.slice q 3 c) (Lx.strs u.names) ∧ Evs wr (.slice p n d) u.evs ∧ Mods (fun k => k = g) wL wr
theorem Mods.cellM {S : Nat → Prop} {w w' : World} {b o : Nat} {v : Value} (h : Mods S w w') (hs : ¬ S b) (hc : w.cell? ⟨b, o, none⟩ = some v) : w'.cell? ⟨b, o, none⟩ = some v :=
  (World.cell?_of_block (a := ⟨b, o, none⟩) (h.block b (World.block_lt_of_cell? w _ hc) hs)).trans hc
theorem Evs.modsg {w w' : World} {g : Nat} {v : Value} {es : Es} {a b : Value} {e : TypeId} {fr : Nat × Nat} (h : Evs w v es) (hm : Mods (fun k => k = g) w w') (hg : w.heap[g]? = some (.cells #[a, b] e fr)) (ha : ∀ k z, Value.int k z ≠ a) (hb : ∀ k z, Value.int k z ≠ b) : Evs w' v es := by
  obtain ⟨p, cap, rfl, h1, h2, h3, h4⟩ := h
  refine ⟨p, cap, rfl, h1, h2, h3, fun i hi => ?_⟩
  obtain ⟨b1, o1, vi, e1, c0, c1, hs⟩ := h4 i hi
  have hlt := World.block_lt_of_cell? w _ c0
  have hne : ¬ b1 = g := by
    rintro rfl
    rw [heap_cell hg] at c0
    generalize o1 + i * 2 = n at c0
    match n, c0 with
    | 0, c0 => simp at c0; exact ha _ _ c0.symm
    | 1, c0 => simp at c0; exact hb _ _ c0.symm
    | n + 2, c0 => simp at c0
  exact ⟨b1, o1, vi, e1, Mods.cellM hm hne c0, Mods.cellM hm hne c1, Sl.mods hs hm fun h0 k hk => Sl.apart hs hg (i64s_not (ha .i64) (hb .i64)) h0 k hk⟩
theorem Sl.modsg {w w' : World} {g : Nat} {v : Value} {vs : List Value} {a b : Value} {e : TypeId} {fr : Nat × Nat} (h : Sl w v vs) (hm : Mods (fun k => k = g) w w') (hg : w.heap[g]? = some (.cells #[a, b] e fr)) (hne : ∀ x ∈ vs, x ≠ a ∧ x ≠ b) : Sl w' v vs :=
  Sl.mods h hm fun h0 k hk => Sl.apart h hg hne h0 k hk
end Tr
end Go.Proofs.Ytjelbfodkacipaa
