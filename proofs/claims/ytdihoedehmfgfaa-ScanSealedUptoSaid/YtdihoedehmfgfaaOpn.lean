/- Strings and events that come in; how long Sealed's bytes are. No program in sight. -/
import Derived.Test.YtdihoedehmfgfaaLogN
import Derived.Test.YtdihoedehmfgfaaTrL
set_option linter.unusedSimpArgs false
set_option linter.unusedVariables false
namespace Go.Proofs.Ytdihoedehmfgfaa
open Go.ChangeShapes Go.WideShapes Go.ChangeAt Go.RowKit
open Go.ChangeMaps (open_string shut_string)
namespace Lg
open Go.Proofs.Ytdihoedehmfgfaa.Tr (T Es tm ids Evs EC EvIn open_evs_at)
/-! ### What comes in -/
section
variable {H : Type} {enc : TypeId × Value → H} {P : Program}
theorem bulk_nms (l : List ByteArray) : Rows.uptoBulkAll (Go.ChangeShapes.strs (H := H) l) = (nmsS l).length := by
  induction l with
  | nil => rfl
  | cons s r ih =>
    have e : nmsS (s :: r) = nmS s ++ nmsS r := rfl
    have e2 : (nmS s).length = s.data.toList.length + 1 := rfl
    rw [e, List.length_append, e2, ← ih]
    show Rows.uptoBulk (.lit (.string s.data.toList)) + _ = _
    simp only [Rows.uptoBulk]
    rfl
theorem nmsS_ge (l : List ByteArray) : l.length ≤ (nmsS l).length := by
  induction l with
  | nil => simp [nmsS]
  | cons s r ih =>
    have e : nmsS (s :: r) = nmS s ++ nmsS r := rfl
    have e2 : (nmS s).length = s.data.toList.length + 1 := rfl
    rw [e, List.length_append, e2, List.length_cons]
    omega
theorem open_strs_sum {t e : TypeId} {W : World} {base : Nat} {v : Value} {d : DataW H} {p : List MemPlace} (ht : P.underlying t = some (.slice e)) (he : P.underlying e = some .string) (hc : P.cellsOf e = 1)
    (hval : Value.okWide P W .any base t v) (hj : DataW.Trod enc P W 0 (fun _ => true) true t v d p) :
    ∃ l : List ByteArray, Sl W v (Lx.strs l) ∧ (nmsS l).length ≤ Rows.uptoBulk d := by
  obtain ⟨a0, len, cap, rfl⟩ := okWide_slice ht hval
  obtain ⟨fuel, hf⟩ := hj
  simp only [Value.cells] at hf
  rcases open_strings ht he hc hf with ⟨hcs, hx⟩ | ⟨a, len', cap', ss, hcs, _, hl, hm, hz, hx, hcell, hsz⟩
  · simp at hcs
    obtain ⟨rfl, rfl, rfl⟩ := hcs
    exact ⟨[], Sl.nil W, Nat.zero_le _⟩
  · simp at hcs
    obtain ⟨rfl, rfl, rfl⟩ := hcs
    simp only [Prod.mk.injEq] at hx
    obtain ⟨rfl, _⟩ := hx
    simp only [if_true] at hz
    have hlen : (ss.take len).length = len := by simp; omega
    refine ⟨ss.take len, ⟨some a, cap, by simp [Lx.strs]; omega, by simp [Lx.strs]; omega, hm, (fun h => by cases h), Cells.of_add fun i hi => ?_⟩, ?_⟩
    · simp [Lx.strs] at hi
      rw [hcell i (by omega)]
      simp [Lx.strs, List.getD_eq_getElem?_getD, List.getElem?_eq_getElem (show i < ss.length by omega)]
    · simp only [Rows.uptoBulk]
      rw [bulk_nms]
      omega
theorem open_evs {t e e2 : TypeId} {f0 f1 : Field} {W : World} {base : Nat} {v : Value} {d : DataW H} {p : List MemPlace} (ht : P.underlying t = some (.slice e)) (he : P.underlying e = some (.struct #[f0, f1]))
    (ce : P.cellsOf e = 2) (o0 : f0.offset = 0) (o1 : f1.offset = 1) (c0 : P.cellsOf f0.type = 1) (c1 : P.cellsOf f1.type = 1) (h0 : P.underlying f0.type = some (.int .u64)) (h1 : P.underlying f1.type = some (.slice e2)) (he2 : P.underlying e2 = some (.int .i64)) (hc2 : P.cellsOf e2 = 1)
    (hval : Value.okWide P W .any base t v) (hj : DataW.Trod enc P W 0 (fun _ => true) true t v d p) :
    ∃ es : Es, Evs W v es ∧ es.length ≤ Rows.uptoBulk d ∧ (∀ i, i < es.length → (ids es i).length ≤ Rows.uptoBulk d) ∧ (∀ i, i < es.length → 0 ≤ tm es i ∧ tm es i < 18446744073709551616) := by
  obtain ⟨a0, len, cap, rfl⟩ := okWide_slice ht hval
  obtain ⟨fuel, hf⟩ := hj
  obtain ⟨es, k1, k2, k3⟩ := open_evs_at (v := .slice a0 len cap) (y := (d, p)) ht he ce o0 o1 c0 c1 h0 h1 he2 hc2 (by simpa [Value.cells] using hf)
  exact ⟨es, k1, k2, fun i hi => (k3 i hi).2.2, fun i hi => (k3 i hi).1⟩
end
/-! ### LogSealed -/
theorem sealP_len (l : List ByteArray) (es : Es) (h : ∀ i, i < es.length → (ids es i).length ≤ 300) : (sealP l es).length ≤ (nmsS l).length + 9 + 314 * es.length := by
  have := recsS_len es h
  unfold sealP
  rw [List.length_append, Rec.put_len, List.length_append]
  simp only [preS, List.length_cons, List.length_nil]
  omega
end Lg
end Go.Proofs.Ytdihoedehmfgfaa
