/- 'append(s, x...)', s a slice that has no room behind it: a new row, or s itself where x has no element. No condition but lengths. -/
import Derived.Test.YtfbokhodcgpppaaBase
import Derived.Lib.AppendZerosOnto
namespace Go.Proofs.Ytfbokhodcgpppaa
open Go.RowKit
section
variable {P : Program} {w : World} {ops : Array Oper} {rest : List Oper} {o : Oper} {a : Act} {Q : Exit → Act → World → Prop}
/-- An operation whose guard holds goes as one without a guard. -/
theorem unguard (hw : Region.wanted o (yielded ops a.tmps) = true) (h : wpList P ops Q ({ o with guard := none } :: rest) a w) : wpList P ops Q (o :: rest) a w := by
  unfold wpList at h ⊢
  rw [if_pos hw]
  rw [if_pos (by simp [Region.wanted])] at h
  exact h
theorem appf (hgd : o.guard = none) (s x : Operand) (t : TypeId) (ho : o.op = .call { callee := .builtin .append, args := #[s, x], argTypes := #[t, t] })
    (e : TypeId) (z : Value) (bytes : Nat) (ht : P.underlying t = some (.slice e)) (hinfo : (P.info? e).map (fun i => (i.zero, i.size, i.bytes)) = some (some z, 1, bytes)) (hz : z.cells = #[z]) (hby : bytes ≤ 128)
    {b0 off n : Nat} {xs : List Value} (hsl : Sl w (.slice (some ⟨b0, off, none⟩) n n) xs) (hs : a.eval s = .slice (some ⟨b0, off, none⟩) n n) {u : Value} {news : List Value} (hu : Sl w u news) (hx : a.eval x = u)
    (h : ∀ v' w', Sl w' v' (xs ++ news) → Nw w w' → wpList P ops Q rest (a.put o.dst v') w')
    (h63 : xs.length + news.length ≤ 1099511627776) : wpList P ops Q (o :: rest) a w := by
  obtain ⟨i, hi, hz0, hz1, hz2⟩ := info_parts hinfo
  obtain ⟨ps, cs, es, hcs, hms, _, hcl⟩ := id hsl
  obtain ⟨p, cap, rfl, hcap, hmx, hnone, hc⟩ := hu
  cases es
  rcases Nat.eq_zero_or_pos news.length with h0 | h0
  · obtain rfl : news = [] := List.eq_nil_of_length_eq_zero h0
    refine Lib.wpList_append_run w hgd s x t t ho _ _ hs hx (.slice (some ⟨b0, off, none⟩) xs.length xs.length) w ?_ (h _ _ (by simpa using hsl) (Nw.refl _))
    cases p <;> simp [Builtin.append_, run_underlying ht, sizeOf, typeInfo, hi, Builtin.lenOf, Builtin.firstCells, storeCells, loadCells, loadCellsFrom]
  · obtain ⟨b1, o1, rfl⟩ := hc.place h0
    have hml : xs.length + news.length ≤ maxLen := by unfold maxLen; omega
    have hr := run_append_grow (P := P) w t o.type e i z ht hi hz0 ⟨b0, off, none⟩ xs.length xs.length xs (by rw [hz1]; omega) (fun j v hj => by
        obtain ⟨hjl, rfl⟩ := List.getElem?_eq_some_iff.1 hj
        obtain ⟨b, o, e1, hcell⟩ := hcl j hjl
        cases e1
        rw [addr_add]; exact hcell) ⟨b1, o1, none⟩ news.length cap news (by rw [hz1]; omega) (fun j v hj => by
        obtain ⟨hjl, rfl⟩ := List.getElem?_eq_some_iff.1 hj
        obtain ⟨b, o, e1, hcell⟩ := hc j hjl
        cases e1
        rw [addr_add]; exact hcell) (by omega) (by omega) (growslice_fits (by omega) (by rw [hz2]; have := Nat.mul_le_mul h63 hby; omega))
    refine Lib.wpList_append_run w hgd s x t t ho _ _ hs hx _ _ hr (h _ _ ?_ (((Nw.refl w).drew).alloc _))
    have hge := grownCap_ge w (xs.length + news.length) xs.length e
    have hcm : grownCap w (xs.length + news.length) xs.length e ≤ maxLen := grownCap_le_maxLen w (xs.length + news.length) xs.length e hml
    have hll : (xs ++ news).length = xs.length + news.length := by simp
    have ho : Own (w.drew.alloc (.cells (xs.toArray ++ news.toArray ++ Builtin.zeroCells z.cells (grownCap w (xs.length + news.length) xs.length e - (xs.length + news.length))) e)) w.heap.size e
        (.slice (some ⟨w.heap.size, 0, none⟩) (xs.length + news.length) (grownCap w (xs.length + news.length) xs.length e)) (xs ++ news) := by
      refine ⟨by rw [Nat.mul_one], .inr ⟨w.heap.size, _, _, by rw [hll], Nat.le_refl _, heap_alloc_new w.drew _, by rw [hll]; exact hge, hcm, ?_, ?_⟩⟩
      · rw [hz]; unfold Builtin.zeroCells; simp; omega
      · rw [Nat.mul_one]
        simp only [Array.toList_append]
        exact List.take_left
    exact ho.sl
end
end Go.Proofs.Ytfbokhodcgpppaa
