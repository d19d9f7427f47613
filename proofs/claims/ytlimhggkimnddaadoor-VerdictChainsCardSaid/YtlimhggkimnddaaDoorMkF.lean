/- 'make([]T, n)', T of one cell: a new row of n zero values. No condition but lengths. -/
import Derived.Test.YtlimhggkimnddaaDoorBase
set_option linter.unusedSimpArgs false
set_option linter.unusedVariables false
namespace Go.Proofs.YtlimhggkimnddaaDoor
open Go.RowKit
section
variable {P : Program} {w : World} {ops : Array Oper} {rest : List Oper} {o : Oper} {a : Act} {Q : Exit → Act → World → Prop}
/-- 'make([]T, n)', T of one cell -/
theorem mk1f (hgd : o.guard = none) (l c : Operand) (t : TypeId) (ho : o.op = Op.makeSlice t l c) (e : TypeId) (z : Value) (bytes : Nat) (ht : P.underlying t = some (.slice e))
    (hinfo : (P.info? e).map (fun i => (i.zero, i.size, i.bytes)) = some (some z, 1, bytes)) (hby : bytes ≤ 128) (hz : z.cells = #[z]) {w0 : World} (hn : Nw w0 w) {kl kc : IntKind} {L C : Int} (n : Nat) (hl : a.eval l = .int kl L) (hc : a.eval c = .int kc C)
    (h : ∀ w', Own w' w0.heap.size e (.slice (some ⟨w.heap.size, 0, none⟩) n n) (List.replicate n z) → Nw w0 w' → w.heap.size < w'.heap.size → wpList P ops Q rest (a.put o.dst (.slice (some ⟨w.heap.size, 0, none⟩) n n)) w')
    (hL : L = (n : Int)) (hC : C = (n : Int)) (hsz : n ≤ 1099511627776) : wpList P ops Q (o :: rest) a w := by
  obtain ⟨i, hi, hz0, hz1, hz2⟩ := info_parts hinfo
  refine wpList_make_full w hgd l c t ho w0.heap.size e i z 1 ht hi hz0 hz1 kl kc L C n hl hc hL hC (by have := Nat.mul_le_mul hby hsz; rw [hz2]; omega) (by unfold maxLen; omega) hn.size
    (fun w' h1 h2 => h w' ?_ (hn.grown h2 (fun k hk => by cases hk)) ?_)
  · rw [hz, Nat.mul_one, toList_madeCells_one] at h1
    unfold Own
    rw [List.length_replicate]; exact h1
  · rcases h1.2 with ⟨h3, _⟩ | ⟨g, cap, cur, hv, hg, hh, _⟩
    · cases h3
    · cases hv; exact lt_of_heap hh
end
end Go.Proofs.YtlimhggkimnddaaDoor
