/- Items that come in, as data. No condition. -/
import Derived.Test.YtlimhggkimnddaaDoorVerM
import Derived.Deep.Slices
set_option linter.unusedSimpArgs false
set_option linter.unusedVariables false
namespace Go.Proofs.YtlimhggkimnddaaDoor
open Go.ChangeShapes Go.WideShapes Go.ChangeAt Go.RowKit
namespace Vd
section
variable {H : Type} {enc : TypeId × Value → H} {P : Program}
theorem open_items {t e : TypeId} {f0 f1 f2 f3 : Field} {W : World} {base : Nat} {v : Value} {d : DataW H} {p : List MemPlace} (ht : P.underlying t = some (.slice e)) (he : P.underlying e = some (.struct #[f0, f1, f2, f3]))
    (ce : P.cellsOf e = 4) (o0 : f0.offset = 0) (o1 : f1.offset = 1) (o2 : f2.offset = 2) (o3 : f3.offset = 3) (c0 : P.cellsOf f0.type = 1) (c1 : P.cellsOf f1.type = 1) (c2 : P.cellsOf f2.type = 1) (c3 : P.cellsOf f3.type = 1)
    (h0 : P.underlying f0.type = some (.int .i64)) (h1 : P.underlying f1.type = some (.int .i64)) (h2 : P.underlying f2.type = some .bool) (h3 : P.underlying f3.type = some (.int .i64))
    (hval : Value.okWide P W .any base t v) (hj : DataW.Trod enc P W 0 (fun _ => true) true t v d p) : ∃ l : List It, Its W v l ∧ (∀ x ∈ l, Rg x) ∧ l.length ≤ Rows.uptoBulk d := by
  obtain ⟨a0, len, cap, rfl⟩ := okWide_slice ht hval
  obtain ⟨fuel, hf⟩ := hj
  simp only [Value.cells] at hf
  rcases Deep.open_slice ht hf with ⟨hcs, hx⟩ | ⟨a, len', cap', m, n, D, Pl, hcs, hb, hl, hm, hmm, hx, hel⟩
  · simp at hcs
    obtain ⟨rfl, rfl, rfl⟩ := hcs
    exact ⟨[], Its.nil W, (fun x hx => by cases hx), Nat.zero_le _⟩
  · simp at hcs
    obtain ⟨rfl, rfl, rfl⟩ := hcs
    simp only [if_true] at hmm
    subst hmm
    have each : ∀ i, i < len → ∃ x : It, Rg x ∧ W.cell? (a.add (i * 4)) = some (.int .i64 x.1) ∧ W.cell? (a.add (i * 4 + 1)) = some (.int .i64 x.2.1) ∧ W.cell? (a.add (i * 4 + 2)) = some (.bool x.2.2.1) ∧ W.cell? (a.add (i * 4 + 3)) = some (.int .i64 x.2.2.2) := by
      intro i hi
      obtain ⟨cs', k1, k2⟩ := hel i (by omega)
      rw [ce] at k1
      obtain ⟨_, hlen, hcell⟩ := World.cells?_some k1
      obtain ⟨xs, k, hk, hxy, _, hxl, hg⟩ := DataW.trod_struct he k2
      match xs, hxl, cs', hlen with
      | [y0, y1, y2, y3], _, [v0, v1, v2, v3], _ =>
        have g0 := hg 0 f0 rfl
        have g1 := hg 1 f1 rfl
        have g2 := hg 2 f2 rfl
        have g3 := hg 3 f3 rfl
        simp [o0, o1, o2, o3, c0, c1, c2, c3] at g0 g1 g2 g3
        have e0 := hcell 0 (by omega)
        have e1 := hcell 1 (by omega)
        have e2 := hcell 2 (by omega)
        have e3 := hcell 3 (by omega)
        rw [Deep.add_add] at e0 e1 e2 e3
        obtain ⟨z0, hz0, _, hw0⟩ := DataW.trod_int h0 g0
        obtain ⟨z1, hz1, _, hw1⟩ := DataW.trod_int h1 g1
        obtain ⟨z2, hz2, _⟩ := DataW.trod_bool h2 g2
        obtain ⟨z3, hz3, _, hw3⟩ := DataW.trod_int h3 g3
        have b0 := bounds_i64 hw0
        have b1 := bounds_i64 hw1
        have b3 := bounds_i64 hw3
        simp at hz0 hz1 hz2 hz3
        refine ⟨(z0, z1, z2, z3), ⟨b0, b1, b3⟩, ?_, ?_, ?_, ?_⟩
        · rw [← hz0]; simpa using e0
        · rw [← hz1]; simpa using e1
        · rw [← hz2]; simpa using e2
        · rw [← hz3]; simpa using e3
    obtain ⟨g, hg⟩ := Deep.choose_lt (α := It) each
    have hget : ∀ i x, ((List.range len).map g)[i]? = some x → i < len ∧ x = g i := fun i x hx => by
      obtain ⟨hi, e⟩ := List.getElem?_eq_some_iff.1 hx
      simp at hi e
      exact ⟨hi, e.symm⟩
    refine ⟨(List.range len).map g, ⟨some a, m, by simp, by simpa using hl, hm, (fun h => by cases h), fun i x hx => ?_⟩, fun x hx => ?_, ?_⟩
    · obtain ⟨hi, rfl⟩ := hget i x hx
      obtain ⟨_, k0, k1, k2, k3⟩ := hg i hi
      obtain ⟨_, z, _⟩ := hg 0 (by omega)
      have ea := addr_add_of_cell (w := W) (a := a) (v := .int .i64 (g 0).1) (by simpa using z)
      rw [ea] at k0 k1 k2 k3
      rw [addr_add] at k0 k1 k2 k3
      exact ⟨a.block, a.off, by rw [← ea], k0, k1, k2, k3⟩
    · obtain ⟨i, hi⟩ := List.mem_iff_getElem?.1 hx
      obtain ⟨hlt, rfl⟩ := hget i x hi
      exact (hg i hlt).1
    · simp only [Prod.mk.injEq] at hx
      rw [hx.1, List.length_map, List.length_range]
      have := bulk_len ((List.range len).map D)
      rw [List.length_map, List.length_range] at this
      simp only [Rows.uptoBulk]
      omega
end
end Vd
end Go.Proofs.YtlimhggkimnddaaDoor
