/- Traces that come in; TraceMays walked. No condition but lengths. -/
import Derived.Test.YtdihoedehmfgfaaTrK
set_option linter.unusedSimpArgs false
set_option linter.unusedVariables false
namespace Go.Proofs.Ytdihoedehmfgfaa
open Go.ChangeShapes Go.WideShapes Go.ChangeAt Go.RowKit
open Go.ChangeMaps (open_string shut_string)
namespace Tr
open Go.Proofs.Ytdihoedehmfgfaa.Lx (isIn nameB strs_open strs_cell contains_c)
open Go.Proofs.Ytdihoedehmfgfaa.Rec (rises i64s_open i64_cell)
section
variable {H : Type} {enc : TypeId × Value → H} {P : Program}
theorem choose_list {α β : Type} (d : β) (Q : α → β → Prop) : ∀ l : List α, (∀ x ∈ l, ∃ y, Q x y) → ∃ ys : List β, ys.length = l.length ∧ ∀ i (h : i < l.length), Q l[i] (ys.getD i d)
  | [], _ => ⟨[], rfl, fun i h => by cases h⟩
  | x :: r, h => by
    obtain ⟨y, hy⟩ := h x (by simp)
    obtain ⟨ys, h1, h2⟩ := choose_list d Q r (fun z hz => h z (by simp [hz]))
    refine ⟨y :: ys, by simp [h1], fun i hi => ?_⟩
    cases i with
    | zero => exact hy
    | succ i => exact h2 i (by simpa using hi)
theorem open_strs {t e : TypeId} {W : World} {base : Nat} {v : Value} {d : DataW H} {p : List MemPlace} (ht : P.underlying t = some (.slice e)) (he : P.underlying e = some .string) (hc : P.cellsOf e = 1)
    (hval : Value.okWide P W .any base t v) (hj : DataW.Trod enc P W 0 (fun _ => true) true t v d p) :
    ∃ l : List ByteArray, Sl W v (Lx.strs l) ∧ l.length ≤ Rows.uptoBulk d ∧ (∀ s ∈ l, s.size ≤ Rows.uptoBulk d) := by
  obtain ⟨a0, len, cap, rfl⟩ := okWide_slice ht hval
  obtain ⟨fuel, hf⟩ := hj
  exact open_strs_at (v := .slice a0 len cap) (y := (d, p)) ht he hc (by simpa [Value.cells] using hf)
theorem open_u16s {t e : TypeId} {W : World} {base : Nat} {v : Value} {d : DataW H} {p : List MemPlace} (ht : P.underlying t = some (.slice e)) (he : P.underlying e = some (.int .u16)) (hc : P.cellsOf e = 1)
    (hval : Value.okWide P W .any base t v) (hj : DataW.Trod enc P W 0 (fun _ => true) true t v d p) :
    ∃ zs : List Int, Sl W v (zs.map (.int .u16)) ∧ (∀ z ∈ zs, 0 ≤ z ∧ z ≤ 65535) ∧ zs.length ≤ Rows.uptoBulk d := by
  obtain ⟨zs, h1, h2, sp, h3⟩ := open_sl ht he hc hval hj
  exact ⟨zs, h1, fun z hz => bounds_u16 (h2 z hz), bulk_ints h3⟩
theorem open_ints_at {t e : TypeId} {W : World} {n : Nat} {v : Value} {y : DataW H × List MemPlace} (ht : P.underlying t = some (.slice e)) (he : P.underlying e = some (.int .i64)) (hc : P.cellsOf e = 1)
    (hf : DataW.trod enc P W 0 (fun _ => true) true n t [v] = some y) :
    ∃ zs : List Int, Sl W v (i64s zs) ∧ (∀ z ∈ zs, -9223372036854775808 ≤ z ∧ z ≤ 9223372036854775807) ∧ zs.length ≤ Rows.uptoBulk y.1 := by
  obtain ⟨d, p⟩ := y
  rcases open_ints ht he hc hf with ⟨hcs, hx⟩ | ⟨a, len', cap', zs, hcs, _, hl, hm, hz, hx, hcell, hwz⟩
  · simp at hcs
    subst hcs
    exact ⟨[], Sl.nil W, (fun z h => by cases h), Nat.zero_le _⟩
  · simp at hcs
    subst hcs
    simp only [Prod.mk.injEq] at hx
    simp only [if_true] at hz
    have hlen : (zs.take len').length = len' := by simp; omega
    refine ⟨zs.take len', ⟨some a, cap', by simp [i64s]; omega, by simp [i64s]; omega, hm, (fun h => by cases h), Cells.of_add fun i hi => ?_⟩, fun z h => bounds_i64 (hwz z (List.mem_of_mem_take h)), bulk_ints (k := .i64) (sp := lits .i64 (zs.drop len')) (Or.inl hx.1)⟩
    simp [i64s] at hi
    rw [hcell i (by omega)]
    simp [i64s, List.getElem?_eq_getElem (show i < zs.length by omega)]
/-- What is known of an event's number and ids. -/
def EvIn (b : Nat) (x : Int × List Int) : Prop := (0 ≤ x.1 ∧ x.1 < 18446744073709551616) ∧ (∀ z ∈ x.2, -9223372036854775808 ≤ z ∧ z ≤ 9223372036854775807) ∧ x.2.length ≤ b
theorem open_evs_at {t e e2 : TypeId} {f0 f1 : Field} {W : World} {n : Nat} {v : Value} {y : DataW H × List MemPlace} (ht : P.underlying t = some (.slice e)) (he : P.underlying e = some (.struct #[f0, f1]))
    (ce : P.cellsOf e = 2) (o0 : f0.offset = 0) (o1 : f1.offset = 1) (c0 : P.cellsOf f0.type = 1) (c1 : P.cellsOf f1.type = 1) (h0 : P.underlying f0.type = some (.int .u64)) (h1 : P.underlying f1.type = some (.slice e2)) (he2 : P.underlying e2 = some (.int .i64)) (hc2 : P.cellsOf e2 = 1)
    (hf : DataW.trod enc P W 0 (fun _ => true) true n t [v] = some y) :
    ∃ es : Es, Evs W v es ∧ es.length ≤ Rows.uptoBulk y.1 ∧ ∀ i, i < es.length → EvIn (Rows.uptoBulk y.1) (es.getD i (0, [])) := by
  obtain ⟨d, p⟩ := y
  rcases Deep.open_slice_pairs ht he ce o0 o1 c0 c1 hf with ⟨hcs, hx⟩ | ⟨a, len', cap', m, n, V0, V1, D0, D1, P0, P1, hcs, _, hl, hm, hmm, hx, hc⟩
  · simp at hcs
    subst hcs
    exact ⟨[], Evs.nil W, Nat.zero_le _, fun i h => by cases h⟩
  · simp at hcs
    subst hcs
    simp only [Prod.mk.injEq] at hx
    simp only [if_true] at hmm
    subst hmm
    obtain ⟨es, hl1, hes⟩ := choose_list (0, []) (fun (i : Nat) (x : Int × List Int) => V0 i = .int .u64 x.1 ∧ Sl W (V1 i) (i64s x.2) ∧ (0 ≤ x.1 ∧ x.1 < 18446744073709551616) ∧ (∀ z ∈ x.2, -9223372036854775808 ≤ z ∧ z ≤ 9223372036854775807) ∧ x.2.length ≤ Rows.uptoBulk (D1 i)) (List.range len') (fun i hi => by
      have hi' := List.mem_range.1 hi
      have := hc i (by omega)
      obtain ⟨k, hk, _, hw⟩ := DataW.trod_int h0 this.2.2.1
      obtain ⟨zs, k1, k2, k3⟩ := open_ints_at h1 he2 hc2 this.2.2.2
      have hb := bounds_u64 hw
      exact ⟨(k, zs), by simpa using hk, k1, ⟨hb.1, by omega⟩, k2, k3⟩)
    rw [List.length_range] at hl1
    have hbk : ∀ i, i < len' → Rows.uptoBulk (D1 i) ≤ Rows.uptoBulk d := fun i hi => by
      have h5 := bulk_mem ((List.range len').map fun i => DataW.agg [D0 i, D1 i]) (.agg [D0 i, D1 i]) (List.mem_map.2 ⟨i, List.mem_range.2 hi, rfl⟩)
      rw [hx.1]
      simp only [Rows.uptoBulk, Rows.uptoBulkAll] at h5 ⊢
      omega
    have hbl : len' ≤ Rows.uptoBulk d := by
      have h5 := bulk_len ((List.range len').map fun i => DataW.agg [D0 i, D1 i])
      rw [List.length_map, List.length_range] at h5
      rw [hx.1]
      simp only [Rows.uptoBulk]
      omega
    refine ⟨es, ⟨some a, m, by rw [hl1], by omega, hm, (fun h => by cases h), fun i hi => ?_⟩, by rw [hl1]; exact hbl, fun i hi => ?_⟩
    · rw [hl1] at hi
      have e0 := addr_add_of_cell (by have := (hc 0 (by omega)).1; simpa using this : W.cell? (a.add 0) = some (V0 0))
      obtain ⟨q1, q2, _⟩ := hes i (by simpa using hi)
      simp only [List.getElem_range] at q1 q2
      have := hc i (by omega)
      rw [e0, addr_add, addr_add] at this
      refine ⟨a.block, a.off, V1 i, by rw [← e0], ?_, ?_, q2⟩
      · have h6 := this.1
        rw [q1] at h6
        simpa [tm] using h6
      · rw [← Nat.add_assoc] at this
        simpa using this.2.1
    · rw [hl1] at hi
      obtain ⟨_, _, q3, q4, q5⟩ := hes i (by simpa using hi)
      simp only [List.getElem_range] at q3 q4 q5
      exact ⟨q3, q4, Nat.le_trans q5 (hbk i hi)⟩
/-- What is known of a trace that comes in. -/
structure In (b : Nat) (t : T) : Prop where
  n : t.names.length ≤ b
  e : t.evs.length ≤ b
  i : ∀ i, i < t.evs.length → EvIn b (t.evs.getD i (0, []))
  s : ∀ s ∈ t.names, s.size ≤ b
theorem In.small {b : Nat} {t : T} (h : In b t) (hb : b ≤ 1000000000) : Small t := ⟨Nat.le_trans h.n hb, Nat.le_trans h.e hb, fun i hi => Nat.le_trans (h.i i hi).2.2 hb, fun s hs => Nat.le_trans (h.s s hs) hb⟩
theorem open_trace {t e0 e1 e2 : TypeId} {f0 f1 g0 g1 : Field} {W : World} {base : Nat} {v : Value} {d : DataW H} {p : List MemPlace} (ht : P.underlying t = some (.struct #[f0, f1])) (hone : Deep.oneCellFields P #[f0, f1] = true) (hC : P.cellsOf t = 2)
    (hs : P.underlying f0.type = some (.slice e0)) (he0 : P.underlying e0 = some .string) (hc0 : P.cellsOf e0 = 1) (hv : P.underlying f1.type = some (.slice e1)) (he1 : P.underlying e1 = some (.struct #[g0, g1]))
    (ce : P.cellsOf e1 = 2) (o0 : g0.offset = 0) (o1 : g1.offset = 1) (c0 : P.cellsOf g0.type = 1) (c1 : P.cellsOf g1.type = 1) (h0 : P.underlying g0.type = some (.int .u64)) (h1 : P.underlying g1.type = some (.slice e2)) (he2 : P.underlying e2 = some (.int .i64)) (hc2 : P.cellsOf e2 = 1)
    (hval : Value.okWide P W .any base t v) (hj : DataW.Trod enc P W 0 (fun _ => true) true t v d p) :
    ∃ (vn ve : Value) (tr : T), v = .agg #[vn, ve] ∧ Sl W vn (Lx.strs tr.names) ∧ Evs W ve tr.evs ∧ In (Rows.uptoBulk d) tr ∧ True := by
  obtain ⟨v0, v1, y0, y1, m, rfl, rfl, rfl, h2, h3⟩ := Joins.open_agg2 ht hone hC hval hj
  obtain ⟨l, k1, k2, k3⟩ := open_strs_at hs he0 hc0 h2
  obtain ⟨es, k4, k5, k6⟩ := open_evs_at hv he1 ce o0 o1 c0 c1 h0 h1 he2 hc2 h3
  have hb0 : Rows.uptoBulk y0.1 ≤ Rows.uptoBulk (.agg [y0.1, y1.1]) := by simp only [Rows.uptoBulk, Rows.uptoBulkAll]; omega
  have hb1 : Rows.uptoBulk y1.1 ≤ Rows.uptoBulk (.agg [y0.1, y1.1]) := by simp only [Rows.uptoBulk, Rows.uptoBulkAll]; omega
  exact ⟨v0, v1, ⟨l, es⟩, rfl, k1, k4, ⟨Nat.le_trans k2 hb0, Nat.le_trans k5 hb1, fun i hi => ⟨(k6 i hi).1, (k6 i hi).2.1, Nat.le_trans (k6 i hi).2.2 hb1⟩, fun s hs => Nat.le_trans (k3 s hs) hb0⟩, trivial⟩
end
/-! ### TraceMays -/
theorem great_or (t : T) : greatP t = 0 ∨ greatP t = 1 := by unfold greatP; split <;> simp
end Tr
end Go.Proofs.Ytdihoedehmfgfaa
