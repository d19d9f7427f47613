/- 'append(s, make([]T, k)...)', s of the call's own, T of one cell, k from 0 on: k zero values behind. No condition but lengths. -/
import Derived.Test.YteglnekgnbjkoaaDoorBase
import Derived.Lib.AppendZerosOnto
namespace Go.Proofs.YteglnekgnbjkoaaDoor
open Go.RowKit
section
variable {P : Program} {w : World} {ops : Array Oper} {rest : List Oper} {o : Oper} {a : Act} {Q : Exit → Act → World → Prop}
theorem zero_cells (z : Value) (k : Nat) : Builtin.zeroCells #[z] k = (List.replicate k z).toArray := by
  unfold Builtin.zeroCells
  apply Array.ext_getElem?
  intro i
  by_cases h : i < k
  · simp [h, Nat.mod_one]
  · simp [h]
theorem run_append_zeros_room (t tn ty e : TypeId) (i : TypeInfo) (z : Value) (kq kn : IntKind) (ht : P.underlying t = some (.slice e)) (htn : P.underlying tn = some (.int kn)) (hi : P.info? e = some i) (hz : i.zero = some z) (hz1 : z.cells = #[z]) (h1 : z.oneCell' = true) (hs : i.size = 1)
    (g sLen sCap : Nat) (cur : Array Value) (hg : w.heap[g]? = some (.cells cur e (0, 0))) (k : Nat) (hroom : sLen + k ≤ sCap) (hfit : sLen + k ≤ cur.size) (hk : k ≤ 1099511627776) (hb : i.bytes ≤ 128) :
    (Builtin.append_ #[t, tn] ty #[.slice (some ⟨g, 0, none⟩) sLen sCap, .int kq k]).run P w =
      .ok (.slice (some ⟨g, 0, none⟩) (sLen + k) sCap) (w.setRow g (cur.toList.take sLen ++ List.replicate k z ++ cur.toList.drop (sLen + k)).toArray) := by
  have hst := run_storeCells_at P g sLen e (List.replicate k z) 0 cur w hg (by simpa using hfit) (fun u hu => by rw [List.eq_of_mem_replicate hu]; exact h1)
  simp only [Nat.add_zero, List.length_replicate] at hst
  have hw : IntKind.i64.wrap (k : Int) = k := by rw [IntKind.wrap_i64]; omega
  have hneg : ¬ ((k : Int) < 0) := by omega
  have h48i : ¬ (281474976710656 < (k : Int) * (i.bytes : Int)) := by
    rw [← Int.natCast_mul]
    have := Nat.mul_le_mul hk hb
    omega
  rcases Nat.eq_zero_or_pos k with rfl | h0
  · have hw0 : IntKind.i64.wrap 0 = 0 := by rw [IntKind.wrap_i64]; rfl
    simp at hst hroom
    simp [Builtin.append_, run_underlying ht, run_underlying htn, sizeOf, typeInfo, zeroValue, hi, hz, hs, asInt, asIntOf, hw0, hroom, Addr.add_lit, hst]
  · have hns : ¬ k = 0 := by omega
    simp [Builtin.append_, run_underlying ht, run_underlying htn, sizeOf, typeInfo, zeroValue, hi, hz, hs, asInt, asIntOf, hw, hneg, h48i, hns, hroom, Addr.add_lit, hz1, zero_cells, hst]
theorem app0 (hgd : o.guard = none) (s x : Operand) (t tn : TypeId) (kn : IntKind) (ho : o.op = .call { callee := .builtin .append, args := #[s, x], argTypes := #[t, tn] })
    (e : TypeId) (z : Value) (bytes : Nat) (ht : P.underlying t = some (.slice e)) (htn : P.underlying tn = some (.int kn)) (hinfo : (P.info? e).map (fun i => (i.zero, i.size, i.bytes)) = some (some z, 1, bytes)) (hz : z.cells = #[z]) (h1 : z.oneCell' = true) (hby : bytes ≤ 128)
    {w0 : World} (hn : Nw w0 w) {v : Value} {xs : List Value} (hown : Own w w0.heap.size e v xs) (hs : a.eval s = v) {kq : IntKind} (k : Nat) {z0 : Int} (hx : a.eval x = .int kq z0)
    (h : ∀ v' w', Own w' w0.heap.size e v' (xs ++ List.replicate k z) → Nw w0 w' → wpList P ops Q rest (a.put o.dst v') w')
    (hz0 : z0 = (k : Int)) (h63 : xs.length + k ≤ 1099511627776) : wpList P ops Q (o :: rest) a w := by
  subst hz0
  obtain ⟨i, hi, hz0, hz1, hz2⟩ := info_parts hinfo
  obtain ⟨hl, hrow⟩ := hown
  have hml : xs.length + k ≤ maxLen := by unfold maxLen; omega
  have grown : ∀ old : Nat, Own (w.drew.alloc (.cells (xs.toArray ++ Builtin.zeroCells z.cells k ++ Builtin.zeroCells z.cells (grownCap w (xs.length + k) old e - (xs.length + k))) e)) w0.heap.size e
      (.slice (some ⟨w.heap.size, 0, none⟩) (xs.length + k) (grownCap w (xs.length + k) old e)) (xs ++ List.replicate k z) := by
    intro old
    have hge := grownCap_ge w (xs.length + k) old e
    have hcm : grownCap w (xs.length + k) old e ≤ maxLen := grownCap_le_maxLen w (xs.length + k) old e hml
    have hll : (xs ++ List.replicate k z).length = xs.length + k := by simp
    refine ⟨by rw [Nat.mul_one], .inr ⟨w.heap.size, _, _, by rw [hll], hn.size, heap_alloc_new w.drew _, by rw [hll]; exact hge, hcm, ?_, ?_⟩⟩
    · rw [hz, zero_cells, zero_cells]; simp; omega
    · rw [hz, zero_cells, zero_cells, Nat.mul_one]
      simp only [Array.toList_append]
      exact List.take_left
  rcases hrow with ⟨rfl, h0⟩ | ⟨g, cap, cur, rfl, hbg, hg, hnc, hcm, hcs, htake⟩
  · have hx0 : xs = [] := List.eq_nil_of_length_eq_zero h0
    subst hx0
    rcases Nat.eq_zero_or_pos k with rfl | hk
    · refine Lib.wpList_append_run w hgd s x t tn ho _ _ hs hx (.slice none 0 0) w ?_ (h _ _ (by simpa using Own.nil w w0.heap.size e) hn)
      have hw : IntKind.i64.wrap (0 : Int) = 0 := by rw [IntKind.wrap_i64]; rfl
      simp [Builtin.append_, run_underlying ht, run_underlying htn, sizeOf, typeInfo, zeroValue, hi, hz0, asInt, asIntOf, hw]
    · have hk2 : k ≤ 1099511627776 := by simpa using h63
      have hm := Nat.mul_le_mul hk2 hby
      have hr := Lib.run_append_grow_zeros (P := P) w t tn o.type e i z kq kn ht htn hi hz0 none 0 0 [] (by simp [Builtin.firstCells]) k hk (by omega) (by omega) (by omega)
        (by rw [hz2]; omega) (growslice_fits (by omega) (by rw [hz2, Nat.zero_add]; omega))
      refine Lib.wpList_append_run w hgd s x t tn ho _ _ hs hx _ _ hr (h _ _ ?_ ((hn.drew).alloc _))
      have := grown 0
      simpa using this
  · have hnl : xs.length = xs.length := rfl
    by_cases hroom : xs.length + k ≤ cap
    · have hr := run_append_zeros_room (P := P) (w := w) t tn o.type e i z kq kn ht htn hi hz0 hz h1 hz1 g xs.length cap cur hg k hroom (by rw [hcs]; omega) (by omega) (by omega)
      refine Lib.wpList_append_run w hgd s x t tn ho _ _ hs hx _ _ hr (h _ _ ?_ ?_)
      · have hll : (xs ++ List.replicate k z).length = xs.length + k := by simp
        have hcl : cur.toList.length = cap := by simp [hcs]
        refine ⟨by rw [Nat.mul_one], .inr ⟨g, cap, _, by rw [hll], hbg, setRow_heap w g cur _ e _ hg, by rw [hll]; exact hroom, hcm, ?_, ?_⟩⟩
        · simp; omega
        · rw [Nat.mul_one] at htake ⊢
          rw [htake]
          exact List.take_left
      · exact hn.grown (row := some g) ⟨rfl, rfl, rfl, by simp, fun q _ hq => setRow_other w g q _ (fun e => hq (by simp [e]))⟩ (fun q hq => by cases hq; exact hbg)
    · rw [Nat.mul_one] at htake hcs
      have hold : ∀ j u, xs[j]? = some u → w.cell? ((⟨g, 0, none⟩ : Addr).add j) = some u :=
        World.ownsRow.cells (w := w) (base := w0.heap.size) (e := e) (size := 1) (n := xs.length) (xs := xs) (v := .slice (some ⟨g, 0, none⟩) xs.length cap) ⟨hl, .inr ⟨g, cap, cur, rfl, hbg, hg, hnc, hcm, by omega, by rw [Nat.mul_one]; exact htake⟩⟩ (g := g) rfl
      have hf := run_firstCells_some (P := P) w.drew i.size xs.length ⟨g, 0, none⟩ xs.length cap xs (by rw [hz1]; omega) (by simpa using hold)
      have hr := Lib.run_append_grow_zeros (P := P) w t tn o.type e i z kq kn ht htn hi hz0 (some ⟨g, 0, none⟩) xs.length cap xs hf k (by omega) (by omega) (by omega) (by omega)
        (by rw [hz2]; have := Nat.mul_le_mul (show k ≤ 1099511627776 by omega) hby; omega) (growslice_fits (by omega) (by rw [hz2]; have := Nat.mul_le_mul h63 hby; omega))
      exact Lib.wpList_append_run w hgd s x t tn ho _ _ hs hx _ _ hr (h _ _ (grown cap) ((hn.drew).alloc _))
end
end Go.Proofs.YteglnekgnbjkoaaDoor
