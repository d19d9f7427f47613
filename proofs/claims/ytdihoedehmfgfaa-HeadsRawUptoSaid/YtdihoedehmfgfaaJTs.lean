/- Joined texts.
The contracts of Front, both. No condition but lengths.
The contracts of the law's tells, great and awake. No condition but lengths.
Traces that come in; TraceMays walked. No condition but lengths.
The contract of the law's Make: a trace of the names p, q, r by numbers. No condition but lengths.
What Make makes may be; TraceMade walked. No condition but lengths.
-/
import Derived.Test.YtdihoedehmfgfaaTrI
set_option linter.unusedSimpArgs false
set_option linter.unusedVariables false
namespace Go.Proofs.Ytdihoedehmfgfaa
open Go.ChangeShapes Go.WideShapes Go.ChangeAt Go.RowKit
namespace Tr
open Go.Proofs.Ytdihoedehmfgfaa.Lx (isIn nameB strs_open strs_cell contains_c)
open Go.Proofs.Ytdihoedehmfgfaa.Rec (rises i64s_open i64_cell)
def frontP (a b : T) : Bool := mayP a && (mayP b && (decide (a.names = b.names) && (decide (a.evs.length ≤ b.evs.length) && decide (a.evs = b.evs.take a.evs.length))))
end Tr
end Go.Proofs.Ytdihoedehmfgfaa
namespace Go.Proofs.Ytdihoedehmfgfaa
open Go.ChangeShapes Go.WideShapes Go.ChangeAt Go.RowKit
namespace Tr
open Go.Proofs.Ytdihoedehmfgfaa.Lx (isIn nameB strs_open strs_cell contains_c)
open Go.Proofs.Ytdihoedehmfgfaa.Rec (rises i64s_open i64_cell)
def ReadsT (t : T) : Says := fun w v => TrR w v t
/-! ### great -/
def greatB (t : T) : Bool := decide (200 < t.names.length) || (decide (200 < t.evs.length) || (List.range t.evs.length).any fun i => decide (200 < (ids t.evs i).length))
def greatP (t : T) : Int := if greatB t = true then 1 else 0
theorem great_at {t : T} {k : Nat} (h : k < t.evs.length) (h2 : 200 < (ids t.evs k).length) : greatP t = 1 := by
  unfold greatP
  rw [if_pos]
  unfold greatB
  rw [List.any_eq_true.2 ⟨k, List.mem_range.2 h, decide_eq_true h2⟩]
  simp
theorem great_no {t : T} (h1 : ¬ 200 < t.names.length) (h2 : ¬ 200 < t.evs.length) (h3 : ∀ j, j < t.evs.length → (ids t.evs j).length ≤ 200) : greatP t = 0 := by
  unfold greatP
  rw [if_neg]
  unfold greatB
  rw [decide_eq_false h1, decide_eq_false h2]
  simp only [Bool.false_or, List.any_eq_true, List.mem_range, decide_eq_true_eq, not_exists, not_and]
  intro j hj
  have := h3 j hj
  omega
/-! ### awake -/
def aw : T := ⟨[⟨#[112]⟩, ⟨#[113]⟩], [(3, [1])]⟩
theorem aw_small : Small aw := by
  refine ⟨by decide, by decide, fun i hi => ?_, fun s hs => ?_⟩
  · match i, hi with
    | 0, _ => decide
  · simp only [aw, List.mem_cons, List.not_mem_nil, or_false] at hs
    rcases hs with rfl | rfl <;> decide
theorem size_alloc (w : World) (o : Obj) : (w.alloc o).heap.size = w.heap.size + 1 := by
  show (w.heap.push _).size = _
  rw [Array.size_push]
theorem aw_reads (w : World) : Sl ((((w.alloc (.cells #[.string ⟨#[112]⟩, .string ⟨#[113]⟩] 9)).alloc (.cells #[.int .i64 1] 3)).alloc (.cells #[.int .u64 3, .slice (some ⟨w.heap.size + 1, 0, none⟩) 1 1] 38)).alloc (.cells #[.slice (some ⟨w.heap.size, 0, none⟩) 2 2, .slice (some ⟨w.heap.size + 1 + 1, 0, none⟩) 1 1] 34)) (.slice (some ⟨w.heap.size, 0, none⟩) 2 2) (Lx.strs aw.names) ∧
    Evs ((((w.alloc (.cells #[.string ⟨#[112]⟩, .string ⟨#[113]⟩] 9)).alloc (.cells #[.int .i64 1] 3)).alloc (.cells #[.int .u64 3, .slice (some ⟨w.heap.size + 1, 0, none⟩) 1 1] 38)).alloc (.cells #[.slice (some ⟨w.heap.size, 0, none⟩) 2 2, .slice (some ⟨w.heap.size + 1 + 1, 0, none⟩) 1 1] 34)) (.slice (some ⟨w.heap.size + 1 + 1, 0, none⟩) 1 1) aw.evs ∧
    Nw w ((((w.alloc (.cells #[.string ⟨#[112]⟩, .string ⟨#[113]⟩] 9)).alloc (.cells #[.int .i64 1] 3)).alloc (.cells #[.int .u64 3, .slice (some ⟨w.heap.size + 1, 0, none⟩) 1 1] 38)).alloc (.cells #[.slice (some ⟨w.heap.size, 0, none⟩) 2 2, .slice (some ⟨w.heap.size + 1 + 1, 0, none⟩) 1 1] 34)) ∧
    ((((w.alloc (.cells #[.string ⟨#[112]⟩, .string ⟨#[113]⟩] 9)).alloc (.cells #[.int .i64 1] 3)).alloc (.cells #[.int .u64 3, .slice (some ⟨w.heap.size + 1, 0, none⟩) 1 1] 38)).alloc (.cells #[.slice (some ⟨w.heap.size, 0, none⟩) 2 2, .slice (some ⟨w.heap.size + 1 + 1, 0, none⟩) 1 1] 34)).cell? ⟨w.heap.size + 1 + 1 + 1, 0, none⟩ = some (.slice (some ⟨w.heap.size, 0, none⟩) 2 2) ∧
    ((((w.alloc (.cells #[.string ⟨#[112]⟩, .string ⟨#[113]⟩] 9)).alloc (.cells #[.int .i64 1] 3)).alloc (.cells #[.int .u64 3, .slice (some ⟨w.heap.size + 1, 0, none⟩) 1 1] 38)).alloc (.cells #[.slice (some ⟨w.heap.size, 0, none⟩) 2 2, .slice (some ⟨w.heap.size + 1 + 1, 0, none⟩) 1 1] 34)).cell? ⟨w.heap.size + 1 + 1 + 1, 1, none⟩ = some (.slice (some ⟨w.heap.size + 1 + 1, 0, none⟩) 1 1) := by
  have s1 := Sl.newAt w (Lx.strs aw.names) 9 (0, 0) w.heap.size 2 rfl rfl (by decide)
  have z1 := size_alloc w (.cells #[.string ⟨#[112]⟩, .string ⟨#[113]⟩] 9)
  change Sl (w.alloc (.cells #[.string ⟨#[112]⟩, .string ⟨#[113]⟩] 9)) _ _ at s1
  have n1 := (Nw.refl w).alloc (.cells #[.string ⟨#[112]⟩, .string ⟨#[113]⟩] 9)
  generalize w.alloc (.cells #[.string ⟨#[112]⟩, .string ⟨#[113]⟩] 9) = w1 at *
  have s2 := Sl.newAt w1 [.int .i64 1] 3 (0, 0) (w.heap.size + 1) 1 z1.symm rfl (by decide)
  change Sl (w1.alloc (.cells #[.int .i64 1] 3)) _ _ at s2
  have z2 := size_alloc w1 (.cells #[.int .i64 1] 3)
  have n2 := (Nw.refl w1).alloc (.cells #[.int .i64 1] 3)
  generalize w1.alloc (.cells #[.int .i64 1] 3) = w2 at *
  rw [z1] at z2
  have b3 := box2 w2 (.int .u64 3) (.slice (some ⟨w.heap.size + 1, 0, none⟩) 1 1) 38
  have z3 := size_alloc w2 (.cells #[.int .u64 3, .slice (some ⟨w.heap.size + 1, 0, none⟩) 1 1] 38)
  have n3 := (Nw.refl w2).alloc (.cells #[.int .u64 3, .slice (some ⟨w.heap.size + 1, 0, none⟩) 1 1] 38)
  generalize w2.alloc (.cells #[.int .u64 3, .slice (some ⟨w.heap.size + 1, 0, none⟩) 1 1] 38) = w3 at *
  rw [z2] at z3 b3
  have b4 := box2 w3 (.slice (some ⟨w.heap.size, 0, none⟩) 2 2) (.slice (some ⟨w.heap.size + 1 + 1, 0, none⟩) 1 1) 34
  have n4 := (Nw.refl w3).alloc (.cells #[.slice (some ⟨w.heap.size, 0, none⟩) 2 2, .slice (some ⟨w.heap.size + 1 + 1, 0, none⟩) 1 1] 34)
  generalize w3.alloc (.cells #[.slice (some ⟨w.heap.size, 0, none⟩) 2 2, .slice (some ⟨w.heap.size + 1 + 1, 0, none⟩) 1 1] 34) = w4 at *
  rw [z3] at b4
  refine ⟨s1.nw (n2.trans (n3.trans n4)), ⟨_, _, rfl, by decide, by decide, (fun h => by cases h), fun i hi => ?_⟩, n1.trans (n2.trans (n3.trans n4)), b4.1, b4.2⟩
  match i, hi with
  | 0, _ => exact ⟨_, 0, _, rfl, n4.cell b3.1, n4.cell b3.2, s2.nw (n3.trans n4)⟩
end Tr
end Go.Proofs.Ytdihoedehmfgfaa
namespace Go.Proofs.Ytdihoedehmfgfaa
open Go.ChangeShapes Go.WideShapes Go.ChangeAt Go.RowKit
open Go.ChangeMaps (open_string shut_string)
namespace Tr
open Go.Proofs.Ytdihoedehmfgfaa.Lx (isIn nameB strs_open strs_cell contains_c)
open Go.Proofs.Ytdihoedehmfgfaa.Rec (rises i64s_open i64_cell)
section
variable {H : Type} {enc : TypeId × Value → H} {P : Program}
theorem choose_list {α β : Type} (d : β) (Q : α → β → Prop) : ∀ l : List α, (∀ x ∈ l, ∃ y, Q x y) → ∃ ys : List β, ys.length = l.length ∧ ∀ i (h : i < l.length), Q l[i] (ys.getD i d)
  | [], _ => ⟨[], rfl, fun i h => by cases h⟩
  | x :: r, h => by
    obtain ⟨y, hy⟩ := h x (by simp)
    obtain ⟨ys, h1, h2⟩ := choose_list d Q r (fun z hz => h z (by simp [hz]))
    refine ⟨y :: ys, by simp [h1], fun i hi => ?_⟩
    cases i with
    | zero => exact hy
    | succ i => exact h2 i (by simpa using hi)
theorem open_strs {t e : TypeId} {W : World} {base : Nat} {v : Value} {d : DataW H} {p : List MemPlace} (ht : P.underlying t = some (.slice e)) (he : P.underlying e = some .string) (hc : P.cellsOf e = 1)
    (hval : Value.okWide P W .any base t v) (hj : DataW.Trod enc P W 0 (fun _ => true) true t v d p) :
    ∃ l : List ByteArray, Sl W v (Lx.strs l) ∧ l.length ≤ Rows.uptoBulk d ∧ (∀ s ∈ l, s.size ≤ Rows.uptoBulk d) := by
  obtain ⟨a0, len, cap, rfl⟩ := okWide_slice ht hval
  obtain ⟨fuel, hf⟩ := hj
  exact open_strs_at (v := .slice a0 len cap) (y := (d, p)) ht he hc (by simpa [Value.cells] using hf)
theorem open_u16s {t e : TypeId} {W : World} {base : Nat} {v : Value} {d : DataW H} {p : List MemPlace} (ht : P.underlying t = some (.slice e)) (he : P.underlying e = some (.int .u16)) (hc : P.cellsOf e = 1)
    (hval : Value.okWide P W .any base t v) (hj : DataW.Trod enc P W 0 (fun _ => true) true t v d p) :
    ∃ zs : List Int, Sl W v (zs.map (.int .u16)) ∧ (∀ z ∈ zs, 0 ≤ z ∧ z ≤ 65535) ∧ zs.length ≤ Rows.uptoBulk d := by
  obtain ⟨zs, h1, h2, sp, h3⟩ := open_sl ht he hc hval hj
  exact ⟨zs, h1, fun z hz => bounds_u16 (h2 z hz), bulk_ints h3⟩
theorem open_ints_at {t e : TypeId} {W : World} {n : Nat} {v : Value} {y : DataW H × List MemPlace} (ht : P.underlying t = some (.slice e)) (he : P.underlying e = some (.int .i64)) (hc : P.cellsOf e = 1)
    (hf : DataW.trod enc P W 0 (fun _ => true) true n t [v] = some y) :
    ∃ zs : List Int, Sl W v (i64s zs) ∧ (∀ z ∈ zs, -9223372036854775808 ≤ z ∧ z ≤ 9223372036854775807) ∧ zs.length ≤ Rows.uptoBulk y.1 := by
  obtain ⟨d, p⟩ := y
  rcases open_ints ht he hc hf with ⟨hcs, hx⟩ | ⟨a, len', cap', zs, hcs, _, hl, hm, hz, hx, hcell, hwz⟩
  · simp at hcs
    subst hcs
    exact ⟨[], Sl.nil W, (fun z h => by cases h), Nat.zero_le _⟩
  · simp at hcs
    subst hcs
    simp only [Prod.mk.injEq] at hx
    simp only [if_true] at hz
    have hlen : (zs.take len').length = len' := by simp; omega
    refine ⟨zs.take len', ⟨some a, cap', by simp [i64s]; omega, by simp [i64s]; omega, hm, (fun h => by cases h), Cells.of_add fun i hi => ?_⟩, fun z h => bounds_i64 (hwz z (List.mem_of_mem_take h)), bulk_ints (k := .i64) (sp := lits .i64 (zs.drop len')) (Or.inl hx.1)⟩
    simp [i64s] at hi
    rw [hcell i (by omega)]
    simp [i64s, List.getElem?_eq_getElem (show i < zs.length by omega)]
/-- What is known of an event's number and ids. -/
def EvIn (b : Nat) (x : Int × List Int) : Prop := (0 ≤ x.1 ∧ x.1 < 18446744073709551616) ∧ (∀ z ∈ x.2, -9223372036854775808 ≤ z ∧ z ≤ 9223372036854775807) ∧ x.2.length ≤ b
theorem open_evs_at {t e e2 : TypeId} {f0 f1 : Field} {W : World} {n : Nat} {v : Value} {y : DataW H × List MemPlace} (ht : P.underlying t = some (.slice e)) (he : P.underlying e = some (.struct #[f0, f1]))
    (ce : P.cellsOf e = 2) (o0 : f0.offset = 0) (o1 : f1.offset = 1) (c0 : P.cellsOf f0.type = 1) (c1 : P.cellsOf f1.type = 1) (h0 : P.underlying f0.type = some (.int .u64)) (h1 : P.underlying f1.type = some (.slice e2)) (he2 : P.underlying e2 = some (.int .i64)) (hc2 : P.cellsOf e2 = 1)
    (hf : DataW.trod enc P W 0 (fun _ => true) true n t [v] = some y) :
    ∃ es : Es, Evs W v es ∧ es.length ≤ Rows.uptoBulk y.1 ∧ ∀ i, i < es.length → EvIn (Rows.uptoBulk y.1) (es.getD i (0, [])) := by
  obtain ⟨d, p⟩ := y
  rcases Deep.open_slice_pairs ht he ce o0 o1 c0 c1 hf with ⟨hcs, hx⟩ | ⟨a, len', cap', m, n, V0, V1, D0, D1, P0, P1, hcs, _, hl, hm, hmm, hx, hc⟩
  · simp at hcs
    subst hcs
    exact ⟨[], Evs.nil W, Nat.zero_le _, fun i h => by cases h⟩
  · simp at hcs
    subst hcs
    simp only [Prod.mk.injEq] at hx
    simp only [if_true] at hmm
    subst hmm
    obtain ⟨es, hl1, hes⟩ := choose_list (0, []) (fun (i : Nat) (x : Int × List Int) => V0 i = .int .u64 x.1 ∧ Sl W (V1 i) (i64s x.2) ∧ (0 ≤ x.1 ∧ x.1 < 18446744073709551616) ∧ (∀ z ∈ x.2, -9223372036854775808 ≤ z ∧ z ≤ 9223372036854775807) ∧ x.2.length ≤ Rows.uptoBulk (D1 i)) (List.range len') (fun i hi => by
      have hi' := List.mem_range.1 hi
      have := hc i (by omega)
      obtain ⟨k, hk, _, hw⟩ := DataW.trod_int h0 this.2.2.1
      obtain ⟨zs, k1, k2, k3⟩ := open_ints_at h1 he2 hc2 this.2.2.2
      have hb := bounds_u64 hw
      exact ⟨(k, zs), by simpa using hk, k1, ⟨hb.1, by omega⟩, k2, k3⟩)
    rw [List.length_range] at hl1
    have hbk : ∀ i, i < len' → Rows.uptoBulk (D1 i) ≤ Rows.uptoBulk d := fun i hi => by
      have h5 := bulk_mem ((List.range len').map fun i => DataW.agg [D0 i, D1 i]) (.agg [D0 i, D1 i]) (List.mem_map.2 ⟨i, List.mem_range.2 hi, rfl⟩)
      rw [hx.1]
      simp only [Rows.uptoBulk, Rows.uptoBulkAll] at h5 ⊢
      omega
    have hbl : len' ≤ Rows.uptoBulk d := by
      have h5 := bulk_len ((List.range len').map fun i => DataW.agg [D0 i, D1 i])
      rw [List.length_map, List.length_range] at h5
      rw [hx.1]
      simp only [Rows.uptoBulk]
      omega
    refine ⟨es, ⟨some a, m, by rw [hl1], by omega, hm, (fun h => by cases h), fun i hi => ?_⟩, by rw [hl1]; exact hbl, fun i hi => ?_⟩
    · rw [hl1] at hi
      have e0 := addr_add_of_cell (by have := (hc 0 (by omega)).1; simpa using this : W.cell? (a.add 0) = some (V0 0))
      obtain ⟨q1, q2, _⟩ := hes i (by simpa using hi)
      simp only [List.getElem_range] at q1 q2
      have := hc i (by omega)
      rw [e0, addr_add, addr_add] at this
      refine ⟨a.block, a.off, V1 i, by rw [← e0], ?_, ?_, q2⟩
      · have h6 := this.1
        rw [q1] at h6
        simpa [tm] using h6
      · rw [← Nat.add_assoc] at this
        simpa using this.2.1
    · rw [hl1] at hi
      obtain ⟨_, _, q3, q4, q5⟩ := hes i (by simpa using hi)
      simp only [List.getElem_range] at q3 q4 q5
      exact ⟨q3, q4, Nat.le_trans q5 (hbk i hi)⟩
/-- What is known of a trace that comes in. -/
structure In (b : Nat) (t : T) : Prop where
  n : t.names.length ≤ b
  e : t.evs.length ≤ b
  i : ∀ i, i < t.evs.length → EvIn b (t.evs.getD i (0, []))
  s : ∀ s ∈ t.names, s.size ≤ b
theorem In.small {b : Nat} {t : T} (h : In b t) (hb : b ≤ 1000000000) : Small t := ⟨Nat.le_trans h.n hb, Nat.le_trans h.e hb, fun i hi => Nat.le_trans (h.i i hi).2.2 hb, fun s hs => Nat.le_trans (h.s s hs) hb⟩
theorem open_trace {t e0 e1 e2 : TypeId} {f0 f1 g0 g1 : Field} {W : World} {base : Nat} {v : Value} {d : DataW H} {p : List MemPlace} (ht : P.underlying t = some (.struct #[f0, f1])) (hone : Deep.oneCellFields P #[f0, f1] = true) (hC : P.cellsOf t = 2)
    (hs : P.underlying f0.type = some (.slice e0)) (he0 : P.underlying e0 = some .string) (hc0 : P.cellsOf e0 = 1) (hv : P.underlying f1.type = some (.slice e1)) (he1 : P.underlying e1 = some (.struct #[g0, g1]))
    (ce : P.cellsOf e1 = 2) (o0 : g0.offset = 0) (o1 : g1.offset = 1) (c0 : P.cellsOf g0.type = 1) (c1 : P.cellsOf g1.type = 1) (h0 : P.underlying g0.type = some (.int .u64)) (h1 : P.underlying g1.type = some (.slice e2)) (he2 : P.underlying e2 = some (.int .i64)) (hc2 : P.cellsOf e2 = 1)
    (hval : Value.okWide P W .any base t v) (hj : DataW.Trod enc P W 0 (fun _ => true) true t v d p) :
    ∃ (vn ve : Value) (tr : T), v = .agg #[vn, ve] ∧ Sl W vn (Lx.strs tr.names) ∧ Evs W ve tr.evs ∧ In (Rows.uptoBulk d) tr ∧ True := by
  obtain ⟨v0, v1, y0, y1, m, rfl, rfl, rfl, h2, h3⟩ := Joins.open_agg2 ht hone hC hval hj
  obtain ⟨l, k1, k2, k3⟩ := open_strs_at hs he0 hc0 h2
  obtain ⟨es, k4, k5, k6⟩ := open_evs_at hv he1 ce o0 o1 c0 c1 h0 h1 he2 hc2 h3
  have hb0 : Rows.uptoBulk y0.1 ≤ Rows.uptoBulk (.agg [y0.1, y1.1]) := by simp only [Rows.uptoBulk, Rows.uptoBulkAll]; omega
  have hb1 : Rows.uptoBulk y1.1 ≤ Rows.uptoBulk (.agg [y0.1, y1.1]) := by simp only [Rows.uptoBulk, Rows.uptoBulkAll]; omega
  exact ⟨v0, v1, ⟨l, es⟩, rfl, k1, k4, ⟨Nat.le_trans k2 hb0, Nat.le_trans k5 hb1, fun i hi => ⟨(k6 i hi).1, (k6 i hi).2.1, Nat.le_trans (k6 i hi).2.2 hb1⟩, fun s hs => Nat.le_trans (k3 s hs) hb0⟩, trivial⟩
end
/-! ### TraceMays -/
theorem great_or (t : T) : greatP t = 0 ∨ greatP t = 1 := by unfold greatP; split <;> simp
end Tr
end Go.Proofs.Ytdihoedehmfgfaa
namespace Go.Proofs.Ytdihoedehmfgfaa
open Go.ChangeShapes Go.WideShapes Go.ChangeAt Go.RowKit
namespace Tr
open Go.Proofs.Ytdihoedehmfgfaa.Lx (isIn nameB strs_open strs_cell contains_c)
open Go.Proofs.Ytdihoedehmfgfaa.Rec (rises i64s_open i64_cell)
def id3To (n k : Nat) : List Int := ((List.range k).filter fun i => decide (n / 2 ^ i % 2 = 1)).map fun i : Nat => (i : Int)
def id3 (n : Nat) : List Int := id3To n 3
theorem id3_succ (n k : Nat) : id3To n (k + 1) = id3To n k ++ (if decide (n / 2 ^ k % 2 = 1) = true then [(k : Int)] else []) := by
  unfold id3To
  rw [List.range_succ, List.filter_append, List.map_append]
  congr 1
  by_cases h : n / 2 ^ k % 2 = 1
  · simp [h]
  · simp [h]
theorem id3_len (n k : Nat) : (id3To n k).length ≤ k := by
  unfold id3To
  rw [List.length_map]
  have := List.length_filter_le (fun i => decide (n / 2 ^ i % 2 = 1)) (List.range k)
  simpa using this
theorem bit3 : ∀ n : Nat, n < 8 → ∀ j : Nat, j < 3 → (bits .and .u16 ((n : Int) / 2 ^ j) 1 == 1) = decide (n / 2 ^ j % 2 = 1) := by decide +kernel
set_option maxRecDepth 20000 in
theorem ids_c (m : Int) (n : Nat) (hm : m = (n : Int)) (hn8 : n < 8) (w : World) : Calls Try.prog 46 #[.int .u16 m] w (Hands 3 w (i64s (id3 n))) := by
  subst hm
  go_enter Try.func46, Try.ntmps46
  go_wp2
  go_loopw [3, 4, 5] (fun v _ i wr => ∃ j : Nat, j ≤ 3 ∧ i = .int .i64 j ∧ Own wr w.heap.size 3 v (i64s (id3To n j)) ∧ Nw w wr) (fun _ _ i _ => 3 - (intOf i).toNat)
  case atStart => exact ⟨0, by omega, rfl, Own.nil _ _ _, Nw.refl _⟩
  case round =>
    obtain ⟨j, hj, rfl, hown, hn⟩ := hrel
    obtain ⟨pv, cv, rfl, hcv, hmv, _⟩ := i64s_open hown.sl
    have HO := hid hown
    have hll := id3_len n j
    clear hown
    by_cases hlt : j < 3
    · have hdj : decide ((j : Int) < 3) = true := decide_eq_true (by omega)
      have HB := hid (bit3 n hn8 j hlt)
      have HS := hid (id3_succ n j)
      cases hb : decide (n / 2 ^ j % 2 = 1) with
      | true =>
        rw [hb] at HB HS
        have hbb : (bits .and .u16 ((n : Int) / 2 ^ j) 1 == 1) = true := HB.out
        clear hb
        generalize id3To n j = ij at *
        go_wp2_with (first
          | ((at_builtin; refine app1 rfl _ _ _ rfl _ _ _ Try.underlying23 info_i64 rfl (by decide) (hn.alloc _) (HO.out.nw ((Nw.refl _).alloc _)) rfl (Sl.new wr [_] _ _ (by simp [maxLen])) rfl (by simp [Value.oneCell']) ?_ ?_; rotate_left; (simp only [i64s_length, List.length_cons, List.length_nil]; omega); intro v1 w1 hown1 hg1 hn1))
          | fail)
        go_roundw
        case rel => exact ⟨j + 1, by omega, by go_num, by rw [HS.out, if_pos rfl]; simpa [i64s] using hown1, hn1⟩
        case measure => simp [intOf]; omega
      | false =>
        rw [hb] at HB HS
        have hbb : (bits .and .u16 ((n : Int) / 2 ^ j) 1 == 1) = false := HB.out
        clear hb
        generalize id3To n j = ij at *
        go_wp2
        go_roundw
        case rel => exact ⟨j + 1, by omega, by go_num, by rw [HS.out]; simpa using HO.out, hn⟩
        case measure => simp [intOf]; omega
    · obtain rfl : j = 3 := by omega
      have hdj : decide ((3 : Int) < 3) = false := rfl
      go_wp2
      go_ret
      exact ⟨_, rfl, HO.out, hn⟩
/-! ### What Make makes -/
def u16s (ns : List Nat) : List Value := ns.map fun n : Nat => Value.int .u16 (n : Int)
theorem u16s_length (ns : List Nat) : (u16s ns).length = ns.length := by simp [u16s]
theorem u16_cell {w : World} {p : Option Addr} {l : List Nat} (h : Cells w p (u16s l)) (i : Nat) (hi : i < l.length) :
    ∃ b off, p = some ⟨b, off, none⟩ ∧ w.cell? ⟨b, off + i, none⟩ = some (.int .u16 ((l.getD i 0 : Nat) : Int)) := by
  obtain ⟨b, off, e, h⟩ := h i (by rw [u16s_length]; exact hi)
  refine ⟨b, off, e, ?_⟩
  rw [h]; simp [u16s, List.getD_eq_getElem?_getD, hi]
theorem u16s_of (zs : List Int) (h : ∀ z ∈ zs, 0 ≤ z ∧ z ≤ 65535) : ∃ ns : List Nat, zs.map (Value.int .u16) = u16s ns ∧ (∀ n ∈ ns, n ≤ 65535) ∧ ns.length = zs.length := by
  refine ⟨zs.map Int.toNat, ?_, fun n hn => ?_, by simp⟩
  · unfold u16s
    rw [List.map_map]
    refine List.map_congr_left fun z hz => ?_
    have := h z hz
    simp only [Function.comp_apply]
    congr 1; omega
  · obtain ⟨z, hz, rfl⟩ := List.mem_map.1 hn
    have := h z hz
    omega
def pqr : List ByteArray := [⟨#[112]⟩, ⟨#[113]⟩, ⟨#[114]⟩]
def dOf (n : Nat) : Nat := if 65000 ≤ n then 1125899906842624 else if n / 32 % 32 = 31 then 3000 else n / 8 % 4
def stp (s : Int × Es) (n : Nat) : Int × Es := (s.1 + dOf n, s.2 ++ [(s.1 + dOf n, id3 (n % 8))])
def runM (start : Int) (ns : List Nat) : Int × Es := ns.foldl stp (min start 9223372036854775808, [])
def makeP (start : Int) (ns : List Nat) : T := ⟨pqr, (runM start (ns.take 60)).2⟩
theorem runM_snoc (start : Int) (ns : List Nat) (n : Nat) : runM start (ns ++ [n]) = stp (runM start ns) n := by simp [runM]
theorem dOf_le (n : Nat) : dOf n ≤ 1125899906842624 := by
  unfold dOf
  split
  · omega
  · split <;> omega
theorem fold_facts (ns : List Nat) : ∀ s : Int × Es, 0 ≤ s.1 → 0 ≤ (ns.foldl stp s).1 ∧ (ns.foldl stp s).1 ≤ s.1 + ns.length * 1125899906842624 ∧ (ns.foldl stp s).2.length = s.2.length + ns.length := by
  induction ns with
  | nil => intro s h; simp; omega
  | cons n r ih =>
    intro s h
    have h1 := dOf_le n
    have h2 := ih (stp s n) (by simp only [stp]; omega)
    simp only [List.foldl_cons, List.length_cons]
    simp only [stp, List.length_append, List.length_singleton] at h2 ⊢
    omega
theorem runM_facts (start : Int) (h0 : 0 ≤ start) (ns : List Nat) : 0 ≤ (runM start ns).1 ∧ (runM start ns).1 ≤ 9223372036854775808 + ns.length * 1125899906842624 ∧ (runM start ns).2.length = ns.length := by
  have := fold_facts ns (min start 9223372036854775808, []) (by simp only; omega)
  unfold runM
  simp only [List.length_nil] at this
  omega
theorem runM_at (start : Int) (ns : List Nat) (k : Nat) (hk : k < ns.length) : runM start (ns.take (k + 1)) = stp (runM start (ns.take k)) (ns.getD k 0) := by
  rw [List.take_add_one, List.getElem?_eq_getElem hk, Option.toList_some, runM_snoc]
  simp [List.getD_eq_getElem?_getD, hk]
/-! ### The walk -/
theorem pqr_new (w : World) (g : Nat) (hg : g = w.heap.size) : Sl (w.alloc (.cells #[.string ⟨#[112]⟩, .string ⟨#[113]⟩, .string ⟨#[114]⟩] 9)) (.slice (some ⟨g, 0, none⟩) 3 3) (Lx.strs pqr) :=
  Sl.newAt w (Lx.strs pqr) 9 (0, 0) g 3 hg rfl (by decide)
/-- Blocks ahead of the loop: what is handed back, the names, the trace that is filled. -/
theorem make_start (w : World) : (((w.alloc (.cells #[.slice none 0 0, .slice none 0 0] 34)).alloc (.cells #[.string ⟨#[112]⟩, .string ⟨#[113]⟩, .string ⟨#[114]⟩] 9)).alloc (.cells #[.slice (some ⟨w.heap.size + 1, 0, none⟩) 3 3, .slice none 0 0] 34)).heap[w.heap.size]? = some (.cells #[.slice none 0 0, .slice none 0 0] 34 (0, 0)) ∧
    (((w.alloc (.cells #[.slice none 0 0, .slice none 0 0] 34)).alloc (.cells #[.string ⟨#[112]⟩, .string ⟨#[113]⟩, .string ⟨#[114]⟩] 9)).alloc (.cells #[.slice (some ⟨w.heap.size + 1, 0, none⟩) 3 3, .slice none 0 0] 34)).heap[w.heap.size + 1 + 1]? = some (.cells #[.slice (some ⟨w.heap.size + 1, 0, none⟩) 3 3, .slice none 0 0] 34 (0, 0)) ∧
    Sl (((w.alloc (.cells #[.slice none 0 0, .slice none 0 0] 34)).alloc (.cells #[.string ⟨#[112]⟩, .string ⟨#[113]⟩, .string ⟨#[114]⟩] 9)).alloc (.cells #[.slice (some ⟨w.heap.size + 1, 0, none⟩) 3 3, .slice none 0 0] 34)) (.slice (some ⟨w.heap.size + 1, 0, none⟩) 3 3) (Lx.strs pqr) ∧
    Nw w (((w.alloc (.cells #[.slice none 0 0, .slice none 0 0] 34)).alloc (.cells #[.string ⟨#[112]⟩, .string ⟨#[113]⟩, .string ⟨#[114]⟩] 9)).alloc (.cells #[.slice (some ⟨w.heap.size + 1, 0, none⟩) 3 3, .slice none 0 0] 34)) ∧
    (((w.alloc (.cells #[.slice none 0 0, .slice none 0 0] 34)).alloc (.cells #[.string ⟨#[112]⟩, .string ⟨#[113]⟩, .string ⟨#[114]⟩] 9)).alloc (.cells #[.slice (some ⟨w.heap.size + 1, 0, none⟩) 3 3, .slice none 0 0] 34)).heap.size = w.heap.size + 1 + 1 + 1 := by
  have y1 := heap_new w (.cells #[.slice none 0 0, .slice none 0 0] 34)
  have z1 := size_alloc w (.cells #[.slice none 0 0, .slice none 0 0] 34)
  have n1 := (Nw.refl w).alloc (.cells #[.slice none 0 0, .slice none 0 0] 34)
  generalize w.alloc (.cells #[.slice none 0 0, .slice none 0 0] 34) = w1 at *
  have s2 := pqr_new w1 (w.heap.size + 1) z1.symm
  have z2 := size_alloc w1 (.cells #[.string ⟨#[112]⟩, .string ⟨#[113]⟩, .string ⟨#[114]⟩] 9)
  have n2 := (Nw.refl w1).alloc (.cells #[.string ⟨#[112]⟩, .string ⟨#[113]⟩, .string ⟨#[114]⟩] 9)
  generalize w1.alloc (.cells #[.string ⟨#[112]⟩, .string ⟨#[113]⟩, .string ⟨#[114]⟩] 9) = w2 at *
  rw [z1] at z2
  have y3 := heap_new w2 (.cells #[.slice (some ⟨w.heap.size + 1, 0, none⟩) 3 3, .slice none 0 0] 34)
  have z3 := size_alloc w2 (.cells #[.slice (some ⟨w.heap.size + 1, 0, none⟩) 3 3, .slice none 0 0] 34)
  have n3 := (Nw.refl w2).alloc (.cells #[.slice (some ⟨w.heap.size + 1, 0, none⟩) 3 3, .slice none 0 0] 34)
  rw [z2] at y3 z3
  exact ⟨(n2.trans n3).heap y1, y3, s2.nw n3, n1.trans (n2.trans n3), z3⟩
set_option maxRecDepth 20000 in
set_option maxHeartbeats 3200000 in
theorem make_c (start : Int) (h0 : 0 ≤ start) (h64 : start < 18446744073709551616) (vn : Value) (ns : List Nat) (w : World) (hvn : Sl w vn (u16s ns)) (hns : ∀ n ∈ ns, n ≤ 65535) :
    Calls Try.prog 18 #[.int .u64 start, vn] w (HandsT w (makeP start ns)) := by
  obtain ⟨p, cap, rfl, hcap, hmx, hp0, hc⟩ := hvn.open (u16s_length ns)
  have HC := hid hc
  have HNS := hid hns
  unfold maxLen at hmx
  have HST := hid (make_start w)
  clear hc hvn hns
  go_enter Try.func18, Try.ntmps18
  go_upto_region 3 with fail
  generalize hm : (if (9223372036854775808 : Int) < start then (9223372036854775808 : Int) else start) = m0
  have HM := hid (show (runM start (ns.take 0)).1 = m0 by rw [← hm]; show min start 9223372036854775808 = _; split <;> omega)
  clear hm
  obtain ⟨y4, y5, s1, hnL, hsz⟩ := HST.out
  generalize (((w.alloc (.cells #[.slice none 0 0, .slice none 0 0] 34)).alloc (.cells #[.string ⟨#[112]⟩, .string ⟨#[113]⟩, .string ⟨#[114]⟩] 9)).alloc (.cells #[.slice (some ⟨w.heap.size + 1, 0, none⟩) 3 3, .slice none 0 0] 34)) = wL at *
  have hg5 : w.heap.size + 1 + 1 < wL.heap.size := by omega
  clear hsz
  go_wp2
  go_loopw [6, 7, 8, 9, 16] (fun o _ _ _ i wr => ∃ (k : Nat) (v : Value), k ≤ ns.length ∧ k ≤ 60 ∧ i = .int .i64 k ∧ o = .int .u64 (runM start (ns.take k)).1 ∧ CpSt wL (w.heap.size + 1 + 1) (.slice (some ⟨w.heap.size + 1, 0, none⟩) 3 3) v (runM start (ns.take k)).2 wr) (fun _ _ _ _ i _ => ns.length - (intOf i).toNat)
  case atStart => exact ⟨0, _, by omega, by omega, rfl, by rw [HM.out], y5, EvOwn.nil _ _, Mods.refl _ _⟩
  case round =>
    obtain ⟨k, v, hk, hk60, rfl, rfl, hst⟩ := hrel
    have hnr : Nw w wr := hnL.ofMods hst.2.2 (fun j e => by omega)
    have HL := hid (show (runM start (ns.take k)).2.length = k by rw [(runM_facts start h0 (ns.take k)).2.2, List.length_take]; omega)
    have HS0 := hid (fun hlt => runM_at start ns k hlt)
    have HE0 := hid (show (k = 60 ∨ k = ns.length) → makeP start ns = ⟨pqr, (runM start (ns.take k)).2⟩ from fun h => by
      unfold makeP
      rcases h with rfl | rfl
      · rfl
      · rw [List.take_of_length_le hk60, List.take_of_length_le (Nat.le_refl _)])
    have hf1 := (runM_facts start h0 (ns.take k)).1
    have hf2 : (runM start (ns.take k)).1 ≤ 9290926031265333248 := by
      have h1 := (runM_facts start h0 (ns.take k)).2.1
      rw [List.length_take] at h1
      have : min k ns.length ≤ 60 := by omega
      omega
    generalize runM start (ns.take k) = r at *
    obtain ⟨now, et⟩ := r
    dsimp only at *
    obtain ⟨qv, cv, rfl⟩ := hst.2.1.shape HL.out
    by_cases hlt : k < ns.length ∧ ¬ k = 60
    · have hdk : decide (k < ns.length) = true := decide_eq_true hlt.1
      have hd60 : ((k : Int) == 60) = false := beq_eq_false_iff_ne.2 (by have := hlt.2; omega)
      obtain ⟨b1, o1, rfl, hcell⟩ := u16_cell (HC.out.nw hnr) k hlt.1
      have hx : ns.getD k 0 ≤ 65535 := HNS.out _ (by rw [List.getD_eq_getElem?_getD, List.getElem?_eq_getElem hlt.1]; exact List.getElem_mem hlt.1)
      have HS1 := hid (HS0.out hlt.1)
      have hkk := hlt.1
      have hk61 : k + 1 ≤ 60 := by have := hlt.2; omega
      clear HS0 HE0 hlt HNS
      generalize ns.getD k 0 = nx at *
      by_cases c1 : 65000 ≤ nx
      · have d1 : decide ((65000 : Int) ≤ nx) = true := decide_eq_true (by omega)
        have HS := hid (show runM start (ns.take (k + 1)) = (now + 1125899906842624, et ++ [(now + 1125899906842624, id3 (nx % 8))]) by rw [HS1.out]; unfold stp dOf; rw [if_pos c1]; rfl)
        clear HS1 c1
        go_upto_region 13 with fail
        have e1 := heap_cell hst.1 1
        simp only [List.getElem?_toArray, List.getElem?_cons_succ, List.getElem?_cons_zero] at e1
        have g2 := lt_of_heap hst.1
        have st5 := CloneS.stab wr.heap.size (id3 (nx % 8))
        have st6 := EvS.stab wr.heap.size (now + 1125899906842624) (id3 (nx % 8))
        have st7 := OneS.stab wr.heap.size (now + 1125899906842624) (id3 (nx % 8))
        refine wp_region_tail 8 (by kernel_rfl) (by kernel_rfl) (by kernel_rfl) (by kernel_rfl) (by kernel_rfl) ?_
        dsimp only [List.take, List.drop]
        iterate 5
          refine Stairs.is ?_ ?_ ?_
          rotate_left 1
          · intro x wR hR hd K hK
            simp only [Act.put, List.setIfInBounds_toArray, List.set_cons_zero, List.set_cons_succ, Say.ok] at hK ⊢
            clear hd
            change Hid _ at hK
            obtain ⟨hcR, hfR, hzR⟩ := nwc hR
            first | (refine wanted_yes ?_ ?_; rfl) | (refine wanted_no ?_ ?_; rfl)
            go_wp2_with (first | (go_at_call 46; refine (ids_c ((nx : Int) % 8) (nx % 8) (by omega) (by omega) _).mono ?_; rintro e w5 ⟨u5, rfl, hown5, hn5⟩))
            all_goals (refine hK.out _ _ ?_ ?_ <;> first | (solve | (repeat (first | assumption | exact Nw.refl _ | refine Nw.alloc ?_ _ | refine Nw.drew ?_ | refine Nw.drewN2 ?_ _ | (refine Nw.trans ?_ (by assumption))))) | exact rfl)
          try simp only [Act.put, List.setIfInBounds_toArray, List.set_cons_zero, List.set_cons_succ]
        iterate 1
          refine Stairs.that (CloneS wr.heap.size (id3 (nx % 8))) (by first | assumption | simp) ?_ ?_
          · intro x wR hR hd K hK
            simp only [Act.put, List.setIfInBounds_toArray, List.set_cons_zero, List.set_cons_succ, Say.ok] at hK ⊢
            clear hd
            change Hid _ at hK
            obtain ⟨hcR, hfR, hzR⟩ := nwc hR
            first | (refine wanted_yes ?_ ?_; rfl) | (refine wanted_no ?_ ?_; rfl)
            go_wp2_with (first | (go_at_call 46; refine (ids_c ((nx : Int) % 8) (nx % 8) (by omega) (by omega) _).mono ?_; rintro e w5 ⟨u5, rfl, hown5, hn5⟩))
            all_goals (refine hK.out _ _ ?_ ?_ <;> first | (solve | (repeat (first | assumption | exact Nw.refl _ | refine Nw.alloc ?_ _ | refine Nw.drew ?_ | refine Nw.drewN2 ?_ _ | (refine Nw.trans ?_ (by assumption))))) | exact rfl | exact hown5.mono hR.size)
          try simp only [Act.put, List.setIfInBounds_toArray, List.set_cons_zero, List.set_cons_succ, List.length_nil, List.length_cons, List.nil_append, List.cons_append, Nat.reduceAdd]
        iterate 1
          refine Stairs.that (EvS wr.heap.size (now + 1125899906842624) (id3 (nx % 8))) (by first | assumption | simp) ?_ ?_
          · intro x wR hR hd K hK
            simp only [Act.put, List.setIfInBounds_toArray, List.set_cons_zero, List.set_cons_succ, Say.ok] at hK ⊢
            try simp [Region.binds, sayAt, Say.ok] at hd
            change Hid _ at hK
            obtain ⟨hcR, hfR, hzR⟩ := nwc hR
            have hu6 : CloneS wr.heap.size (id3 (nx % 8)) wR (x 5) := (by first | exact hd | exact hd.2 | exact hd.1); obtain ⟨q6, c6, e6⟩ := ints_shape hu6; rw [e6] at hK hu6 ⊢
            first | (refine wanted_yes ?_ ?_; rfl) | (refine wanted_no ?_ ?_; rfl)
            go_wp2_with (first | (go_at_call 46; refine (ids_c ((nx : Int) % 8) (nx % 8) (by omega) (by omega) _).mono ?_; rintro e w5 ⟨u5, rfl, hown5, hn5⟩))
            all_goals (refine hK.out _ _ ?_ ?_ <;> first | (solve | (repeat (first | assumption | exact Nw.refl _ | refine Nw.alloc ?_ _ | refine Nw.drew ?_ | refine Nw.drewN2 ?_ _ | (refine Nw.trans ?_ (by assumption))))) | exact rfl | exact ⟨_, rfl, hu6⟩)
          try simp only [Act.put, List.setIfInBounds_toArray, List.set_cons_zero, List.set_cons_succ, List.length_nil, List.length_cons, List.nil_append, List.cons_append, Nat.reduceAdd]
        iterate 1
          refine Stairs.that (OneS wr.heap.size (now + 1125899906842624) (id3 (nx % 8))) (by first | assumption | simp) ?_ ?_
          · intro x wR hR hd K hK
            simp only [Act.put, List.setIfInBounds_toArray, List.set_cons_zero, List.set_cons_succ, Say.ok] at hK ⊢
            try simp [Region.binds, sayAt, Say.ok] at hd
            change Hid _ at hK
            obtain ⟨hcR, hfR, hzR⟩ := nwc hR
            obtain ⟨u7, e7, hu7⟩ := hd; obtain ⟨q7, c7, rfl⟩ := ints_shape hu7; rw [e7] at hK ⊢
            first | (refine wanted_yes ?_ ?_; rfl) | (refine wanted_no ?_ ?_; rfl)
            go_wp2_with (first | (go_at_call 46; refine (ids_c ((nx : Int) % 8) (nx % 8) (by omega) (by omega) _).mono ?_; rintro e w5 ⟨u5, rfl, hown5, hn5⟩))
            all_goals (refine hK.out _ _ ?_ ?_ <;> first | (solve | (repeat (first | assumption | exact Nw.refl _ | refine Nw.alloc ?_ _ | refine Nw.drew ?_ | refine Nw.drewN2 ?_ _ | (refine Nw.trans ?_ (by assumption))))) | exact rfl | exact ⟨_, _, rfl, cells_newAt _ [_, _] _ _ _ rfl, Own.nw hu7 ((Nw.refl _).alloc _)⟩)
          try simp only [Act.put, List.setIfInBounds_toArray, List.set_cons_zero, List.set_cons_succ, List.length_nil, List.length_cons, List.nil_append, List.cons_append, Nat.reduceAdd]
        refine Stairs.nil ?_
        intro x wR hR hx yR
        have h5 := hx 5 (by decide)
        simp only [sayAt, Say.ok] at h5
        have h6 := hx 6 (by decide)
        simp only [sayAt, Say.ok] at h6
        have h7 := hx 7 (by decide)
        simp only [sayAt, Say.ok] at h7
        clear hx
        simp only [fill, Act.put, List.setIfInBounds_toArray, List.set_cons_zero, List.set_cons_succ]
        obtain ⟨hcR, hfR, hzR⟩ := nwc hR
        obtain ⟨g8, u8, e8, hcs8, hu8⟩ := h7
        obtain ⟨q8, c8, rfl⟩ := ints_shape hu8
        rw [e8]
        obtain ⟨vs, hvl, hrow, hall⟩ := hst.2.1
        have hB : wL.heap.size ≤ wR.heap.size := Nat.le_trans hst.2.2.size hR.size
        generalize id3 (nx % 8) = l at *
        go_wp2_with (first
          | (at_builtin; refine appat rfl _ _ _ rfl _ _ _ _ Try.underlying32 info_event rfl (by decide) (by decide) hB (hR.ownsRow hrow) rfl rfl (show [Value.int .u64 (now + 1125899906842624), Value.slice q8 l.length c8].length = 2 from rfl) hcs8 (by simp [Value.oneCell']) ?_ ?_; rotate_left; (have := HL.out; omega); intro v2 w2 hown2 hg2 hat2; obtain ⟨⟨q9, c9, rfl⟩, y2, hst2⟩ := CpSt.step hst hR hg5 HL.out hvl hrow hall hu8 hown2 hg2 hat2; have y21 := heap_cell y2 1; have y2f := heap_frozen y2 1; simp only [List.getElem?_toArray, List.getElem?_cons_succ, List.getElem?_cons_zero] at y21)
          | fail)
        go_roundw
        case rel => exact ⟨k + 1, _, by omega, by omega, by go_num, by rw [HS.out], by rw [HS.out]; exact hst2⟩
        case measure => simp [intOf]; omega
      · have d1 : decide ((65000 : Int) ≤ nx) = false := decide_eq_false (by omega)
        by_cases c2 : nx / 32 % 32 = 31
        · have d2 : ((nx : Int) / 32 % 32 == 31) = true := by rw [beq_iff_eq]; omega
          have HS := hid (show runM start (ns.take (k + 1)) = (now + 3000, et ++ [(now + 3000, id3 (nx % 8))]) by rw [HS1.out]; unfold stp dOf; rw [if_neg c1, if_pos c2]; rfl)
          clear HS1 c1 c2
          go_upto_region 13 with fail
          have e1 := heap_cell hst.1 1
          simp only [List.getElem?_toArray, List.getElem?_cons_succ, List.getElem?_cons_zero] at e1
          have g2 := lt_of_heap hst.1
          have st5 := CloneS.stab wr.heap.size (id3 (nx % 8))
          have st6 := EvS.stab wr.heap.size (now + 3000) (id3 (nx % 8))
          have st7 := OneS.stab wr.heap.size (now + 3000) (id3 (nx % 8))
          refine wp_region_tail 8 (by kernel_rfl) (by kernel_rfl) (by kernel_rfl) (by kernel_rfl) (by kernel_rfl) ?_
          dsimp only [List.take, List.drop]
          iterate 5
            refine Stairs.is ?_ ?_ ?_
            rotate_left 1
            · intro x wR hR hd K hK
              simp only [Act.put, List.setIfInBounds_toArray, List.set_cons_zero, List.set_cons_succ, Say.ok] at hK ⊢
              clear hd
              change Hid _ at hK
              obtain ⟨hcR, hfR, hzR⟩ := nwc hR
              first | (refine wanted_yes ?_ ?_; rfl) | (refine wanted_no ?_ ?_; rfl)
              go_wp2_with (first | (go_at_call 46; refine (ids_c ((nx : Int) % 8) (nx % 8) (by omega) (by omega) _).mono ?_; rintro e w5 ⟨u5, rfl, hown5, hn5⟩))
              all_goals (refine hK.out _ _ ?_ ?_ <;> first | (solve | (repeat (first | assumption | exact Nw.refl _ | refine Nw.alloc ?_ _ | refine Nw.drew ?_ | refine Nw.drewN2 ?_ _ | (refine Nw.trans ?_ (by assumption))))) | exact rfl)
            try simp only [Act.put, List.setIfInBounds_toArray, List.set_cons_zero, List.set_cons_succ]
          iterate 1
            refine Stairs.that (CloneS wr.heap.size (id3 (nx % 8))) (by first | assumption | simp) ?_ ?_
            · intro x wR hR hd K hK
              simp only [Act.put, List.setIfInBounds_toArray, List.set_cons_zero, List.set_cons_succ, Say.ok] at hK ⊢
              clear hd
              change Hid _ at hK
              obtain ⟨hcR, hfR, hzR⟩ := nwc hR
              first | (refine wanted_yes ?_ ?_; rfl) | (refine wanted_no ?_ ?_; rfl)
              go_wp2_with (first | (go_at_call 46; refine (ids_c ((nx : Int) % 8) (nx % 8) (by omega) (by omega) _).mono ?_; rintro e w5 ⟨u5, rfl, hown5, hn5⟩))
              all_goals (refine hK.out _ _ ?_ ?_ <;> first | (solve | (repeat (first | assumption | exact Nw.refl _ | refine Nw.alloc ?_ _ | refine Nw.drew ?_ | refine Nw.drewN2 ?_ _ | (refine Nw.trans ?_ (by assumption))))) | exact rfl | exact hown5.mono hR.size)
            try simp only [Act.put, List.setIfInBounds_toArray, List.set_cons_zero, List.set_cons_succ, List.length_nil, List.length_cons, List.nil_append, List.cons_append, Nat.reduceAdd]
          iterate 1
            refine Stairs.that (EvS wr.heap.size (now + 3000) (id3 (nx % 8))) (by first | assumption | simp) ?_ ?_
            · intro x wR hR hd K hK
              simp only [Act.put, List.setIfInBounds_toArray, List.set_cons_zero, List.set_cons_succ, Say.ok] at hK ⊢
              try simp [Region.binds, sayAt, Say.ok] at hd
              change Hid _ at hK
              obtain ⟨hcR, hfR, hzR⟩ := nwc hR
              have hu6 : CloneS wr.heap.size (id3 (nx % 8)) wR (x 5) := (by first | exact hd | exact hd.2 | exact hd.1); obtain ⟨q6, c6, e6⟩ := ints_shape hu6; rw [e6] at hK hu6 ⊢
              first | (refine wanted_yes ?_ ?_; rfl) | (refine wanted_no ?_ ?_; rfl)
              go_wp2_with (first | (go_at_call 46; refine (ids_c ((nx : Int) % 8) (nx % 8) (by omega) (by omega) _).mono ?_; rintro e w5 ⟨u5, rfl, hown5, hn5⟩))
              all_goals (refine hK.out _ _ ?_ ?_ <;> first | (solve | (repeat (first | assumption | exact Nw.refl _ | refine Nw.alloc ?_ _ | refine Nw.drew ?_ | refine Nw.drewN2 ?_ _ | (refine Nw.trans ?_ (by assumption))))) | exact rfl | exact ⟨_, rfl, hu6⟩)
            try simp only [Act.put, List.setIfInBounds_toArray, List.set_cons_zero, List.set_cons_succ, List.length_nil, List.length_cons, List.nil_append, List.cons_append, Nat.reduceAdd]
          iterate 1
            refine Stairs.that (OneS wr.heap.size (now + 3000) (id3 (nx % 8))) (by first | assumption | simp) ?_ ?_
            · intro x wR hR hd K hK
              simp only [Act.put, List.setIfInBounds_toArray, List.set_cons_zero, List.set_cons_succ, Say.ok] at hK ⊢
              try simp [Region.binds, sayAt, Say.ok] at hd
              change Hid _ at hK
              obtain ⟨hcR, hfR, hzR⟩ := nwc hR
              obtain ⟨u7, e7, hu7⟩ := hd; obtain ⟨q7, c7, rfl⟩ := ints_shape hu7; rw [e7] at hK ⊢
              first | (refine wanted_yes ?_ ?_; rfl) | (refine wanted_no ?_ ?_; rfl)
              go_wp2_with (first | (go_at_call 46; refine (ids_c ((nx : Int) % 8) (nx % 8) (by omega) (by omega) _).mono ?_; rintro e w5 ⟨u5, rfl, hown5, hn5⟩))
              all_goals (refine hK.out _ _ ?_ ?_ <;> first | (solve | (repeat (first | assumption | exact Nw.refl _ | refine Nw.alloc ?_ _ | refine Nw.drew ?_ | refine Nw.drewN2 ?_ _ | (refine Nw.trans ?_ (by assumption))))) | exact rfl | exact ⟨_, _, rfl, cells_newAt _ [_, _] _ _ _ rfl, Own.nw hu7 ((Nw.refl _).alloc _)⟩)
            try simp only [Act.put, List.setIfInBounds_toArray, List.set_cons_zero, List.set_cons_succ, List.length_nil, List.length_cons, List.nil_append, List.cons_append, Nat.reduceAdd]
          refine Stairs.nil ?_
          intro x wR hR hx yR
          have h5 := hx 5 (by decide)
          simp only [sayAt, Say.ok] at h5
          have h6 := hx 6 (by decide)
          simp only [sayAt, Say.ok] at h6
          have h7 := hx 7 (by decide)
          simp only [sayAt, Say.ok] at h7
          clear hx
          simp only [fill, Act.put, List.setIfInBounds_toArray, List.set_cons_zero, List.set_cons_succ]
          obtain ⟨hcR, hfR, hzR⟩ := nwc hR
          obtain ⟨g8, u8, e8, hcs8, hu8⟩ := h7
          obtain ⟨q8, c8, rfl⟩ := ints_shape hu8
          rw [e8]
          obtain ⟨vs, hvl, hrow, hall⟩ := hst.2.1
          have hB : wL.heap.size ≤ wR.heap.size := Nat.le_trans hst.2.2.size hR.size
          generalize id3 (nx % 8) = l at *
          go_wp2_with (first
            | (at_builtin; refine appat rfl _ _ _ rfl _ _ _ _ Try.underlying32 info_event rfl (by decide) (by decide) hB (hR.ownsRow hrow) rfl rfl (show [Value.int .u64 (now + 3000), Value.slice q8 l.length c8].length = 2 from rfl) hcs8 (by simp [Value.oneCell']) ?_ ?_; rotate_left; (have := HL.out; omega); intro v2 w2 hown2 hg2 hat2; obtain ⟨⟨q9, c9, rfl⟩, y2, hst2⟩ := CpSt.step hst hR hg5 HL.out hvl hrow hall hu8 hown2 hg2 hat2; have y21 := heap_cell y2 1; have y2f := heap_frozen y2 1; simp only [List.getElem?_toArray, List.getElem?_cons_succ, List.getElem?_cons_zero] at y21)
            | fail)
          go_roundw
          case rel => exact ⟨k + 1, _, by omega, by omega, by go_num, by rw [HS.out], by rw [HS.out]; exact hst2⟩
          case measure => simp [intOf]; omega
        · have d2 : ((nx : Int) / 32 % 32 == 31) = false := beq_eq_false_iff_ne.2 (by omega)
          have HS := hid (show runM start (ns.take (k + 1)) = (now + (nx : Int) / 8 % 4, et ++ [(now + (nx : Int) / 8 % 4, id3 (nx % 8))]) by
            have : ((dOf nx : Nat) : Int) = (nx : Int) / 8 % 4 := by unfold dOf; rw [if_neg c1, if_neg c2]; omega
            rw [HS1.out]
            unfold stp
            rw [this])
          clear HS1 c1 c2
          go_upto_region 13 with fail
          have e1 := heap_cell hst.1 1
          simp only [List.getElem?_toArray, List.getElem?_cons_succ, List.getElem?_cons_zero] at e1
          have g2 := lt_of_heap hst.1
          have st5 := CloneS.stab wr.heap.size (id3 (nx % 8))
          have st6 := EvS.stab wr.heap.size (now + (nx : Int) / 8 % 4) (id3 (nx % 8))
          have st7 := OneS.stab wr.heap.size (now + (nx : Int) / 8 % 4) (id3 (nx % 8))
          refine wp_region_tail 8 (by kernel_rfl) (by kernel_rfl) (by kernel_rfl) (by kernel_rfl) (by kernel_rfl) ?_
          dsimp only [List.take, List.drop]
          iterate 5
            refine Stairs.is ?_ ?_ ?_
            rotate_left 1
            · intro x wR hR hd K hK
              simp only [Act.put, List.setIfInBounds_toArray, List.set_cons_zero, List.set_cons_succ, Say.ok] at hK ⊢
              clear hd
              change Hid _ at hK
              obtain ⟨hcR, hfR, hzR⟩ := nwc hR
              first | (refine wanted_yes ?_ ?_; rfl) | (refine wanted_no ?_ ?_; rfl)
              go_wp2_with (first | (go_at_call 46; refine (ids_c ((nx : Int) % 8) (nx % 8) (by omega) (by omega) _).mono ?_; rintro e w5 ⟨u5, rfl, hown5, hn5⟩))
              all_goals (refine hK.out _ _ ?_ ?_ <;> first | (solve | (repeat (first | assumption | exact Nw.refl _ | refine Nw.alloc ?_ _ | refine Nw.drew ?_ | refine Nw.drewN2 ?_ _ | (refine Nw.trans ?_ (by assumption))))) | exact rfl)
            try simp only [Act.put, List.setIfInBounds_toArray, List.set_cons_zero, List.set_cons_succ]
          iterate 1
            refine Stairs.that (CloneS wr.heap.size (id3 (nx % 8))) (by first | assumption | simp) ?_ ?_
            · intro x wR hR hd K hK
              simp only [Act.put, List.setIfInBounds_toArray, List.set_cons_zero, List.set_cons_succ, Say.ok] at hK ⊢
              clear hd
              change Hid _ at hK
              obtain ⟨hcR, hfR, hzR⟩ := nwc hR
              first | (refine wanted_yes ?_ ?_; rfl) | (refine wanted_no ?_ ?_; rfl)
              go_wp2_with (first | (go_at_call 46; refine (ids_c ((nx : Int) % 8) (nx % 8) (by omega) (by omega) _).mono ?_; rintro e w5 ⟨u5, rfl, hown5, hn5⟩))
              all_goals (refine hK.out _ _ ?_ ?_ <;> first | (solve | (repeat (first | assumption | exact Nw.refl _ | refine Nw.alloc ?_ _ | refine Nw.drew ?_ | refine Nw.drewN2 ?_ _ | (refine Nw.trans ?_ (by assumption))))) | exact rfl | exact hown5.mono hR.size)
            try simp only [Act.put, List.setIfInBounds_toArray, List.set_cons_zero, List.set_cons_succ, List.length_nil, List.length_cons, List.nil_append, List.cons_append, Nat.reduceAdd]
          iterate 1
            refine Stairs.that (EvS wr.heap.size (now + (nx : Int) / 8 % 4) (id3 (nx % 8))) (by first | assumption | simp) ?_ ?_
            · intro x wR hR hd K hK
              simp only [Act.put, List.setIfInBounds_toArray, List.set_cons_zero, List.set_cons_succ, Say.ok] at hK ⊢
              try simp [Region.binds, sayAt, Say.ok] at hd
              change Hid _ at hK
              obtain ⟨hcR, hfR, hzR⟩ := nwc hR
              have hu6 : CloneS wr.heap.size (id3 (nx % 8)) wR (x 5) := (by first | exact hd | exact hd.2 | exact hd.1); obtain ⟨q6, c6, e6⟩ := ints_shape hu6; rw [e6] at hK hu6 ⊢
              first | (refine wanted_yes ?_ ?_; rfl) | (refine wanted_no ?_ ?_; rfl)
              go_wp2_with (first | (go_at_call 46; refine (ids_c ((nx : Int) % 8) (nx % 8) (by omega) (by omega) _).mono ?_; rintro e w5 ⟨u5, rfl, hown5, hn5⟩))
              all_goals (refine hK.out _ _ ?_ ?_ <;> first | (solve | (repeat (first | assumption | exact Nw.refl _ | refine Nw.alloc ?_ _ | refine Nw.drew ?_ | refine Nw.drewN2 ?_ _ | (refine Nw.trans ?_ (by assumption))))) | exact rfl | exact ⟨_, rfl, hu6⟩)
            try simp only [Act.put, List.setIfInBounds_toArray, List.set_cons_zero, List.set_cons_succ, List.length_nil, List.length_cons, List.nil_append, List.cons_append, Nat.reduceAdd]
          iterate 1
            refine Stairs.that (OneS wr.heap.size (now + (nx : Int) / 8 % 4) (id3 (nx % 8))) (by first | assumption | simp) ?_ ?_
            · intro x wR hR hd K hK
              simp only [Act.put, List.setIfInBounds_toArray, List.set_cons_zero, List.set_cons_succ, Say.ok] at hK ⊢
              try simp [Region.binds, sayAt, Say.ok] at hd
              change Hid _ at hK
              obtain ⟨hcR, hfR, hzR⟩ := nwc hR
              obtain ⟨u7, e7, hu7⟩ := hd; obtain ⟨q7, c7, rfl⟩ := ints_shape hu7; rw [e7] at hK ⊢
              first | (refine wanted_yes ?_ ?_; rfl) | (refine wanted_no ?_ ?_; rfl)
              go_wp2_with (first | (go_at_call 46; refine (ids_c ((nx : Int) % 8) (nx % 8) (by omega) (by omega) _).mono ?_; rintro e w5 ⟨u5, rfl, hown5, hn5⟩))
              all_goals (refine hK.out _ _ ?_ ?_ <;> first | (solve | (repeat (first | assumption | exact Nw.refl _ | refine Nw.alloc ?_ _ | refine Nw.drew ?_ | refine Nw.drewN2 ?_ _ | (refine Nw.trans ?_ (by assumption))))) | exact rfl | exact ⟨_, _, rfl, cells_newAt _ [_, _] _ _ _ rfl, Own.nw hu7 ((Nw.refl _).alloc _)⟩)
            try simp only [Act.put, List.setIfInBounds_toArray, List.set_cons_zero, List.set_cons_succ, List.length_nil, List.length_cons, List.nil_append, List.cons_append, Nat.reduceAdd]
          refine Stairs.nil ?_
          intro x wR hR hx yR
          have h5 := hx 5 (by decide)
          simp only [sayAt, Say.ok] at h5
          have h6 := hx 6 (by decide)
          simp only [sayAt, Say.ok] at h6
          have h7 := hx 7 (by decide)
          simp only [sayAt, Say.ok] at h7
          clear hx
          simp only [fill, Act.put, List.setIfInBounds_toArray, List.set_cons_zero, List.set_cons_succ]
          obtain ⟨hcR, hfR, hzR⟩ := nwc hR
          obtain ⟨g8, u8, e8, hcs8, hu8⟩ := h7
          obtain ⟨q8, c8, rfl⟩ := ints_shape hu8
          rw [e8]
          obtain ⟨vs, hvl, hrow, hall⟩ := hst.2.1
          have hB : wL.heap.size ≤ wR.heap.size := Nat.le_trans hst.2.2.size hR.size
          generalize id3 (nx % 8) = l at *
          go_wp2_with (first
            | (at_builtin; refine appat rfl _ _ _ rfl _ _ _ _ Try.underlying32 info_event rfl (by decide) (by decide) hB (hR.ownsRow hrow) rfl rfl (show [Value.int .u64 (now + (nx : Int) / 8 % 4), Value.slice q8 l.length c8].length = 2 from rfl) hcs8 (by simp [Value.oneCell']) ?_ ?_; rotate_left; (have := HL.out; omega); intro v2 w2 hown2 hg2 hat2; obtain ⟨⟨q9, c9, rfl⟩, y2, hst2⟩ := CpSt.step hst hR hg5 HL.out hvl hrow hall hu8 hown2 hg2 hat2; have y21 := heap_cell y2 1; have y2f := heap_frozen y2 1; simp only [List.getElem?_toArray, List.getElem?_cons_succ, List.getElem?_cons_zero] at y21)
            | fail)
          go_roundw
          case rel => exact ⟨k + 1, _, by omega, by omega, by go_num, by rw [HS.out], by rw [HS.out]; exact hst2⟩
          case measure => simp [intOf]; omega
    · have HF := hid (HE0.out (by omega))
      have y4r := hst.2.2.heap y4 (by omega)
      have d0 := heap_cell y4r 0
      have d1 := heap_cell y4r 1
      have e0 := heap_cell hst.1 0
      have e1 := heap_cell hst.1 1
      simp only [List.getElem?_toArray, List.getElem?_cons_succ, List.getElem?_cons_zero] at d0 d1 e0 e1
      have f0 := heap_frozen y4r 0
      have f1 := heap_frozen y4r 1
      have s1r := Sl.mods s1 hst.2.2 (fun h0 j hj e => by subst e; exact absurd rfl (Sl.apart (s1.nw (Nw.refl _)) y5 strs_not h0 _ hj))
      have hev := hst.2.1
      have hz49 : w.heap.size < wL.heap.size := by omega
      have hsplit : k = ns.length ∨ (k < ns.length ∧ k = 60) := by omega
      clear HS0 HE0
      rcases hsplit with rfl | ⟨hkl, rfl⟩
      · have hdk : decide (ns.length < ns.length) = false := decide_eq_false (by omega)
        clear hlt
        go_wp2
        ((try simp only [Exit.inBlock, Exit.then]); refine bodyPost_ret (results_cell_row rfl _ _ _ _ _ _ _ rfl (heap_set (heap_set y4r 0 _) 1 _) Try.underlying34 rfl (by kernel_rfl)) rfl ?_)
        rw [HF.out]
        refine ⟨_, rfl, ⟨_, _, rfl, ?_, ?_⟩, ?_⟩
        · exact Sl.set2 (a := .slice (some ⟨w.heap.size + 1, 0, none⟩) 3 3) (b := .slice none 0 0) (Sl.set2 s1r y4r strs_not) (heap_set y4r 0 _) strs_not
        · exact (EvOwn.set (a := .slice (some ⟨w.heap.size + 1, 0, none⟩) 3 3) (b := .slice none 0 0) (EvOwn.set hev hz49 y4r (fun _ => nofun) (fun _ => nofun)) hz49 (heap_set y4r 0 _) (fun _ => nofun) (fun _ => nofun)).evs
        · exact (hnr.setCell (p := ⟨w.heap.size, 0, none⟩) (Nat.le_refl _) _).setCell (p := ⟨w.heap.size, 1, none⟩) (Nat.le_refl _) _
      · have hdk : decide (60 < ns.length) = true := decide_eq_true hkl
        have hdk2 : decide ((60 : Int) < ns.length) = true := decide_eq_true (by omega)
        obtain ⟨b1, o1, rfl, hcell⟩ := u16_cell (HC.out.nw hnr) 60 hkl
        clear hlt
        go_wp2
        ((try simp only [Exit.inBlock, Exit.then]); refine bodyPost_ret (results_cell_row rfl _ _ _ _ _ _ _ rfl (heap_set (heap_set y4r 0 _) 1 _) Try.underlying34 rfl (by kernel_rfl)) rfl ?_)
        rw [HF.out]
        refine ⟨_, rfl, ⟨_, _, rfl, ?_, ?_⟩, ?_⟩
        · exact Sl.set2 (a := .slice (some ⟨w.heap.size + 1, 0, none⟩) 3 3) (b := .slice none 0 0) (Sl.set2 s1r y4r strs_not) (heap_set y4r 0 _) strs_not
        · exact (EvOwn.set (a := .slice (some ⟨w.heap.size + 1, 0, none⟩) 3 3) (b := .slice none 0 0) (EvOwn.set hev hz49 y4r (fun _ => nofun) (fun _ => nofun)) hz49 (heap_set y4r 0 _) (fun _ => nofun) (fun _ => nofun)).evs
        · exact (hnr.setCell (p := ⟨w.heap.size, 0, none⟩) (Nat.le_refl _) _).setCell (p := ⟨w.heap.size, 1, none⟩) (Nat.le_refl _) _
end Tr
end Go.Proofs.Ytdihoedehmfgfaa
namespace Go.Proofs.Ytdihoedehmfgfaa
open Go.ChangeShapes Go.WideShapes Go.ChangeAt Go.RowKit
namespace Tr
open Go.Proofs.Ytdihoedehmfgfaa.Lx (isIn nameB strs_open strs_cell contains_c)
open Go.Proofs.Ytdihoedehmfgfaa.Rec (rises i64s_open i64_cell)
theorem eOk_snoc_lt (n : Int) (es : Es) (e : Int × List Int) (i : Nat) (h : i < es.length) : eOk n (es ++ [e]) i = eOk n es i := by
  unfold eOk
  rw [ids_snoc_lt _ _ _ h, tm_snoc_lt _ _ _ h]
  cases i with
  | zero => simp
  | succ i => rw [Nat.add_sub_cancel, tm_snoc_lt _ _ _ (by omega)]
theorem id3_rises : ∀ n : Nat, n < 8 → rises (id3 n) 3 = true := by decide +kernel
theorem id3_lens (n : Nat) : (id3 n).length ≤ 3 := id3_len n 3
/-- What holds of the events all along. -/
def Fine (s : Int × Es) : Prop := ∀ i, i < s.2.length → eOk 3 s.2 i = true ∧ tm s.2 i ≤ s.1 ∧ 0 ≤ tm s.2 i ∧ (ids s.2 i).length ≤ 3 ∧ (∀ x ∈ ids s.2 i, 0 ≤ x ∧ x < 3)
theorem Fine.step {s : Int × Es} (h : Fine s) (h0 : 0 ≤ s.1) (n : Nat) : Fine (stp s n) := by
  intro i hi
  simp only [stp, List.length_append, List.length_singleton] at hi ⊢
  by_cases hlt : i < s.2.length
  · obtain ⟨h1, h2, h3, h4, h5⟩ := h i hlt
    rw [eOk_snoc_lt _ _ _ _ hlt, tm_snoc_lt _ _ _ hlt, ids_snoc_lt _ _ _ hlt]
    exact ⟨h1, by omega, h3, h4, h5⟩
  · obtain rfl : i = s.2.length := by omega
    rw [tm_snoc, ids_snoc]
    have hr := id3_rises (n % 8) (by omega)
    refine ⟨?_, by omega, by simp only; omega, id3_lens _, Rec.rises_mem hr⟩
    refine e_yes (by rw [ids_snoc]; exact hr) ?_
    by_cases hz : s.2.length = 0
    · exact Or.inl hz
    · right
      rw [tm_snoc, tm_snoc_lt _ _ _ (by omega)]
      have := (h (s.2.length - 1) (by omega)).2.1
      simp only
      omega
theorem fold_fine (ns : List Nat) : ∀ s : Int × Es, 0 ≤ s.1 → Fine s → Fine (ns.foldl stp s) := by
  induction ns with
  | nil => intro s _ h; exact h
  | cons n r ih => intro s h0 h; exact ih _ (by simp only [stp]; omega) (h.step h0 n)
theorem runM_fine (start : Int) (h0 : 0 ≤ start) (ns : List Nat) : Fine (runM start ns) := fold_fine ns _ (by simp only; omega) (fun i hi => by cases hi)
theorem pqr_ok : namesP pqr = true := by decide +kernel
theorem make_may (start : Int) (h0 : 0 ≤ start) (ns : List Nat) : mayP (makeP start ns) = true := by
  unfold mayP makeP
  rw [pqr_ok, Bool.true_and]
  unfold evsP mayTo
  rw [List.all_eq_true]
  intro i hi
  exact (runM_fine start h0 (ns.take 60) i (List.mem_range.1 hi)).1
theorem make_len (start : Int) (h0 : 0 ≤ start) (ns : List Nat) : (makeP start ns).evs.length ≤ 60 := by
  unfold makeP
  rw [(runM_facts start h0 (ns.take 60)).2.2, List.length_take]
  omega
theorem make_small (start : Int) (h0 : 0 ≤ start) (ns : List Nat) : Small (makeP start ns) := by
  refine ⟨by show pqr.length ≤ _; decide, Nat.le_trans (make_len start h0 ns) (by decide), fun i hi => Nat.le_trans (runM_fine start h0 (ns.take 60) i hi).2.2.2.1 (by decide), fun s hs => ?_⟩
  simp only [makeP, pqr, List.mem_cons, List.not_mem_nil, or_false] at hs
  rcases hs with rfl | rfl | rfl <;> decide
theorem cut_small {t : T} (h : Small t) (n : Int) : Small (cutP t n) := by
  unfold cutP
  split
  · refine ⟨h.n, by simp only [List.length_take]; have := h.e; omega, fun i hi => ?_, h.s⟩
    simp only [List.length_take] at hi
    rw [ids_take _ _ _ (by omega)]
    exact h.i i (by omega)
  · exact ⟨by decide, by decide, (fun i hi => by cases hi), (fun s hs => by cases hs)⟩
theorem evs_shape {w : World} {v : Value} {es : Es} (h : Evs w v es) : ∃ p c, v = .slice p es.length c := by
  obtain ⟨p, c, e, _⟩ := h
  exact ⟨p, c, e⟩
theorem pqr_idx : ∀ k, k < 3 → idxP pqr (pqr.getD k ⟨#[]⟩) = (k : Int) := by decide +kernel
theorem made_holds (start : Int) (h0 : 0 ≤ start) (ns : List Nat) (k j : Nat) (hk : k < (makeP start ns).evs.length) (hj : j < 3) : holdsP (makeP start ns) k (pqr.getD j ⟨#[]⟩) = decide ((j : Int) ∈ ids (makeP start ns).evs k) := by
  rw [holds_at _ _ _ (make_may start h0 ns) hk, Bool.eq_iff_iff, decide_eq_true_eq, decide_eq_true_eq]
  show idxP pqr (pqr.getD j ⟨#[]⟩) ∈ _ ↔ _
  rw [pqr_idx j hj]
theorem make_c3 (start : Int) (h0 : 0 ≤ start) (h64 : start < 18446744073709551616) (vn : Value) (ns : List Nat) (w : World) (hvn : Sl w vn (u16s ns)) (hns : ∀ n ∈ ns, n ≤ 65535) :
    Calls Try.prog 18 #[.int .u64 start, vn] w fun e w' => ∃ q c p d, e = .returned (.agg #[.slice q 3 c, .slice p (makeP start ns).evs.length d]) ∧ Sl w' (.slice q 3 c) (Lx.strs pqr) ∧ Evs w' (.slice p (makeP start ns).evs.length d) (makeP start ns).evs ∧ Nw w w' :=
  (make_c start h0 h64 vn ns w hvn hns).mono fun e w' h => by
    obtain ⟨v, rfl, ⟨v1, v2, rfl, h1, h2⟩, h3⟩ := h
    obtain ⟨q, c, rfl, _⟩ := strs_open h1
    obtain ⟨p, d, rfl⟩ := evs_shape h2
    exact ⟨q, c, p, d, rfl, h1, h2, h3⟩
theorem pqr_shape {w : World} {v : Value} (h : Sl w v (Lx.strs pqr)) : ∃ p c, v = .slice p 3 c := by
  obtain ⟨p, c, e, _⟩ := h
  exact ⟨p, c, e⟩
end Tr
end Go.Proofs.Ytdihoedehmfgfaa
