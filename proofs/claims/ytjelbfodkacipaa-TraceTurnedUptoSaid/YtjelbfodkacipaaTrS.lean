/- The contracts of Add, both, whole. No condition but lengths. -/
import Derived.Test.YtjelbfodkacipaaTrQ
import Derived.Lib.AppendZerosOnto
set_option linter.unusedSimpArgs false
set_option linter.unusedVariables false
namespace Go.Proofs.Ytjelbfodkacipaa
open Go.ChangeShapes Go.WideShapes Go.ChangeAt Go.RowKit
theorem wp_append_run {P : Program} {w w' : World} {o : Oper} {a : Act} {K : Act → World → Prop} {Q : Exit → Act → World → Prop} {s x : Operand} {t : TypeId} (ho : o.op = .call { callee := .builtin .append, args := #[s, x], argTypes := #[t, t] })
    {v u v' : Value} (hs : a.eval s = v) (hx : a.eval x = u) (hr : (Builtin.append_ #[t, t] o.type #[v, u]).run P w = .ok v' w') (hK : K (a.put o.dst v') w') : o.wp P a w K Q := by
  unfold Oper.wp execOp
  simp only [ho, resolve, invoke, builtin, Sem.run_bind, Sem.run_pure, Result.andThen_ok, List.map_toArray, List.map_cons, List.map_nil, hs, hx, hr]
  exact hK
/-- 's = append(s, x...)', s an empty row without room, elements of several cells: a new row, or s itself. -/
theorem appf0 {P : Program} {w : World} {o : Oper} {a : Act} {K : Act → World → Prop} {Q : Exit → Act → World → Prop} (s x : Operand) (t : TypeId) (ho : o.op = .call { callee := .builtin .append, args := #[s, x], argTypes := #[t, t] })
    (e : TypeId) (z : Value) (size bytes : Nat) (ht : P.underlying t = some (.slice e)) (hinfo : (P.info? e).map (fun i => (i.zero, i.size, i.bytes)) = some (some z, size, bytes)) (hz : z.cells.size = size) (hs0 : 0 < size) (hby : bytes ≤ 128)
    {B g : Nat} (hB : B ≤ w.heap.size) (hown : w.ownsRow B e size (.slice (some ⟨g, 0, none⟩) 0 0) 0 []) (hs : a.eval s = .slice (some ⟨g, 0, none⟩) 0 0) {px : Option Addr} {m cap : Nat} {news : List Value} (hx : a.eval x = .slice px m cap) (hl : news.length = m * size)
    (hu : Cells w px news)
    (h : ∀ v' w', w'.ownsRow B e size v' m news → Nw w w' → (m = 0 ∨ v'.ownBlock = some w.heap.size) → K (a.put o.dst v') w')
    (h63 : m ≤ 1099511627776) : o.wp P a w K Q := by
  obtain ⟨i, hi, hz0, hz1, hz2⟩ := info_parts hinfo
  rcases Nat.eq_zero_or_pos m with h0 | h0
  · subst h0
    obtain rfl : news = [] := by cases news with | nil => rfl | cons y r => simp at hl
    refine wp_append_run ho hs hx (v' := .slice (some ⟨g, 0, none⟩) 0 0) (w' := w) ?_ (h _ _ hown (Nw.refl w) (Or.inl rfl))
    cases px <;> simp [Builtin.append_, run_underlying ht, sizeOf, typeInfo, hi, Builtin.lenOf, Builtin.firstCells, storeCells, loadCells, loadCellsFrom]
  · have hpos : 0 < news.length := by rw [hl]; exact Nat.mul_pos h0 hs0
    obtain ⟨b1, o1, rfl⟩ := hu.place hpos
    have hml : 0 + m ≤ maxLen := by unfold maxLen; omega
    have hr := run_append_grow (P := P) w t o.type e i z ht hi hz0 ⟨g, 0, none⟩ 0 0 [] (by simp) (fun j v hj => by simp at hj) ⟨b1, o1, none⟩ m cap news (by rw [hz1]; exact hl) (fun j v hj => by
        obtain ⟨hjl, rfl⟩ := List.getElem?_eq_some_iff.1 hj
        obtain ⟨b, o, e1, hcell⟩ := hu j hjl
        cases e1
        rw [addr_add]; exact hcell) (by omega) (by omega) (growslice_fits (by omega) (by rw [hz2, Nat.zero_add]; have := Nat.mul_le_mul h63 hby; omega))
    refine wp_append_run ho hs hx hr (h _ _ ?_ (((Nw.refl w).drew).alloc _) (Or.inr rfl))
    have hge := grownCap_ge w (0 + m) 0 e
    have hcm : grownCap w (0 + m) 0 e ≤ maxLen := grownCap_le_maxLen w (0 + m) 0 e hml
    rw [Nat.zero_add] at hge hcm ⊢
    refine ⟨hl, .inr ⟨w.heap.size, _, _, rfl, hB, heap_alloc_new w.drew _, hge, hcm, ?_, ?_⟩⟩
    · simp only [Array.size_append, size_zeroCells, List.size_toArray, List.length_nil, hl, hz]
      rw [Nat.zero_add, ← Nat.add_mul]
      congr 1
      omega
    · simp only [Array.toList_append, List.nil_append]
      rw [← hl]
      exact List.take_left
namespace Tr
open Go.Proofs.Ytjelbfodkacipaa.Lx (isIn nameB strs_open strs_cell contains_c)
open Go.Proofs.Ytjelbfodkacipaa.Rec (rises i64s_open i64_cell)
theorem EC.cells {w : World} {p : Option Addr} {es : Es} (h : EC w p es) : ∃ vs : List Value, vs.length = es.length ∧ Cells w p (evc es vs) ∧ ∀ i, i < es.length → Sl w (vs.getD i undef) (i64s (ids es i)) := by
  obtain ⟨vs, h1, h2⟩ := choose_list undef (fun (i : Nat) (v : Value) => ∃ b off, p = some ⟨b, off, none⟩ ∧ w.cell? ⟨b, off + i * 2, none⟩ = some (.int .u64 (tm es i)) ∧ w.cell? ⟨b, off + i * 2 + 1, none⟩ = some v ∧ Sl w v (i64s (ids es i))) (List.range es.length) (fun i hi => by
    obtain ⟨b, off, vi, e, c0, c1, hs⟩ := h i (List.mem_range.1 hi)
    exact ⟨vi, b, off, e, c0, c1, hs⟩)
  rw [List.length_range] at h1
  refine ⟨vs, h1, fun j hj => ?_, fun i hi => ?_⟩
  · rw [evc_len es vs h1] at hj
    obtain ⟨b, off, e, c0, c1, _⟩ := h2 (j / 2) (by rw [List.length_range]; omega)
    simp only [List.getElem_range] at c0 c1
    obtain ⟨d0, d1⟩ := evc_at es vs (j / 2) h1 (by omega)
    refine ⟨b, off, e, ?_⟩
    rcases (by omega : j = j / 2 * 2 ∨ j = j / 2 * 2 + 1) with hj2 | hj2
    · rw [show off + j = off + j / 2 * 2 by omega, c0]
      rw [← hj2] at d0
      rw [← d0, List.getElem?_eq_getElem]
    · rw [show off + j = off + j / 2 * 2 + 1 by omega, c1]
      rw [← hj2] at d1
      rw [← d1, List.getElem?_eq_getElem]
  · obtain ⟨_, _, _, _, _, hs⟩ := h2 i (by rw [List.length_range]; exact hi)
    simpa using hs
def Row0S (B : Nat) : Says := fun w v => ∃ g, v = .slice (some ⟨g, 0, none⟩) 0 0 ∧ w.ownsRow B 39 2 (.slice (some ⟨g, 0, none⟩) 0 0) 0 []
def RowS (B : Nat) (es : Es) : Says := fun w v => EvOwn w B v es
def OneV (B : Nat) (t : Int) (u : Value) : Says := fun w s => ∃ g, s = .slice (some ⟨g, 0, none⟩) 1 1 ∧ Cells w (some ⟨g, 0, none⟩) [.int .u64 t, u]
theorem Row0S.stab (B : Nat) : Stab (Row0S B) := fun _ _ _ ⟨g, e, h⟩ hn => ⟨g, e, hn.ownsRow h⟩
theorem RowS.stab (B : Nat) (es : Es) : Stab (RowS B es) := fun _ _ _ h hn => EvOwn.nw h hn
theorem OneV.stab (B : Nat) (t : Int) (u : Value) : Stab (OneV B t u) := fun _ _ _ ⟨g, e, h⟩ hn => ⟨g, e, h.nw hn⟩
theorem row0_new (w : World) (B : Nat) (hB : B ≤ w.heap.size) : Row0S B (w.alloc (.cells #[] 39)) (.slice (some ⟨w.heap.size, 0, none⟩) 0 0) :=
  ⟨_, rfl, rfl, .inr ⟨w.heap.size, 0, #[], rfl, hB, heap_new w _, Nat.le_refl _, Nat.zero_le _, rfl, rfl⟩⟩
theorem row_of {w w' : World} {B : Nat} {v : Value} {es : Es} {vs : List Value} (h1 : vs.length = es.length) (h3 : ∀ i, i < es.length → Sl w (vs.getD i undef) (i64s (ids es i))) (ho : w'.ownsRow B 39 2 v es.length (evc es vs)) (hn : Nw w w') (hat : es.length = 0 ∨ v.ownBlock = some w.heap.size) : EvOwn w' B v es :=
  ⟨vs, h1, ho, fun i hi => ⟨(h3 i hi).nw hn, fun h0 k hk e2 => by
    rcases hat with h | h
    · omega
    · have := (h3 i hi).lt (by intro e3; apply h0; cases hx : ids es i with | nil => rfl | cons x r => rw [hx] at e3; simp [i64s] at e3) k hk
      rw [h] at e2
      simp only [Option.some.injEq] at e2
      omega⟩⟩
end Tr
end Go.Proofs.Ytjelbfodkacipaa
