/- An event that comes in; TraceAdds walked. No condition but lengths. -/
import Derived.Test.YtjelbfodkacipaaTrU
import Derived.Test.YtjelbfodkacipaaTrQ
namespace Go.Proofs.Ytjelbfodkacipaa
open Go.ChangeShapes Go.WideShapes Go.ChangeAt Go.RowKit
open Go.ChangeMaps (open_string shut_string)
namespace Tr
open Go.Proofs.Ytjelbfodkacipaa.Lx (isIn nameB strs_open strs_cell contains_c)
open Go.Proofs.Ytjelbfodkacipaa.Rec (rises i64s_open i64_cell)
section
variable {H : Type} {enc : TypeId × Value → H} {P : Program}
/-- An event. -/
theorem open_event {t e : TypeId} {f0 f1 : Field} {W : World} {base : Nat} {v : Value} {d : DataW H} {p : List MemPlace} (ht : P.underlying t = some (.struct #[f0, f1])) (hone : Deep.oneCellFields P #[f0, f1] = true) (hC : P.cellsOf t = 2)
    (h0 : P.underlying f0.type = some (.int .u64)) (h1 : P.underlying f1.type = some (.slice e)) (he : P.underlying e = some (.int .i64)) (hc : P.cellsOf e = 1)
    (hval : Value.okWide P W .any base t v) (hj : DataW.Trod enc P W 0 (fun _ => true) true t v d p) :
    ∃ (n : Int) (b : Value) (l : List Int), v = .agg #[.int .u64 n, b] ∧ (0 ≤ n ∧ n < 18446744073709551616) ∧ Sl W b (i64s l) ∧ (∀ z ∈ l, -9223372036854775808 ≤ z ∧ z ≤ 9223372036854775807) ∧ l.length ≤ Rows.uptoBulk d := by
  obtain ⟨v0, v1, y0, y1, m, rfl, rfl, rfl, h2, h3⟩ := Joins.open_agg2 ht hone hC hval hj
  obtain ⟨n, e0, _, hw⟩ := DataW.trod_int h0 h2
  obtain rfl : v0 = .int .u64 n := by simpa using e0
  have hb := bounds_u64 hw
  obtain ⟨zs, k1, k2, k3⟩ := open_ints_at h1 he hc h3
  refine ⟨n, v1, zs, rfl, ⟨hb.1, by omega⟩, k1, k2, ?_⟩
  simp only [Rows.uptoBulk, Rows.uptoBulkAll]
  omega
end
/-! ### TraceAdds -/
theorem HandsTE.open {w w' : World} {r : T × Int} {e : Ending} (h : HandsTE w r e w') : ∃ q n c p m d, e = .returned (.tuple #[.agg #[.slice q n c, .slice p m d], .int .i64 r.2]) ∧ TrR w' (.agg #[.slice q n c, .slice p m d]) r.1 ∧ Nw w w' := by
  obtain ⟨v, rfl, ⟨v1, v2, rfl, h1, h2⟩, h3⟩ := h
  obtain ⟨q, c, rfl, _⟩ := strs_open h1
  obtain ⟨p, d, rfl⟩ := evs_shape h2
  exact ⟨q, _, c, p, _, d, rfl, ⟨_, _, rfl, h1, h2⟩, h3⟩
end Tr
end Go.Proofs.Ytjelbfodkacipaa
