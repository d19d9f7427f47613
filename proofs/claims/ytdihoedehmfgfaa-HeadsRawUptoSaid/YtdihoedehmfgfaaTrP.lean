/- The contract of Add where the trace may be and the event fits; copied, its events' row owned. No condition but lengths. -/
import Derived.Test.YtdihoedehmfgfaaJTs
set_option linter.unusedSimpArgs false
set_option linter.unusedVariables false
namespace Go.Proofs.Ytdihoedehmfgfaa
open Go.ChangeShapes Go.WideShapes Go.ChangeAt Go.RowKit
namespace Tr
open Go.Proofs.Ytdihoedehmfgfaa.Lx (isIn nameB strs_open strs_cell contains_c)
open Go.Proofs.Ytdihoedehmfgfaa.Rec (rises i64s_open i64_cell)
theorem EvOwn.mono {w : World} {B B' : Nat} {v : Value} {es : Es} (h : EvOwn w B v es) (hb : B' ≤ B) : EvOwn w B' v es := by
  obtain ⟨vs, h1, h2, h3⟩ := h
  refine ⟨vs, h1, ⟨h2.1, ?_⟩, h3⟩
  rcases h2.2 with h4 | ⟨g, cap, cur, hv, hg, hh, r⟩
  · exact Or.inl h4
  · exact Or.inr ⟨g, cap, cur, hv, by omega, hh, r⟩
/-- A call hands back a trace whose events' row is the caller's. -/
def HandsO (w : World) (t : T) (e : Ending) (w' : World) : Prop :=
  ∃ vn ve, e = .returned (.agg #[vn, ve]) ∧ Sl w' vn (Lx.strs t.names) ∧ EvOwn w' w.heap.size ve t.evs ∧ (∀ k, vn.ownBlock = some k → ve.ownBlock ≠ some k) ∧ Nw w w'
/-! ### Add -/
theorem results_cell2 {P : Program} {fn : Func} {p u : Tmp} {ty : TypeId} (h : fn.results = #[.cell p ty, .tmp u]) (tmps : Array Value) (w : World) (g : Nat) (t : TypeId) (cs : Array Value) (fr : Nat × Nat) (d : TypeDesc)
    (hp : tmps.getD p undef = .pointer (some ⟨g, 0, none⟩)) (hg : w.heap[g]? = some (.cells cs t fr))
    (hu : P.underlying ty = some d) (hd : (match d with | .struct _ | .array _ _ => true | _ => false) = true) (hi : (P.info? ty).map (·.size) = some cs.size) :
    (results fn tmps).run P w = .ok (.tuple #[.agg cs, tmps.getD u undef]) w := by
  have hp' : tmps[p]?.getD undef = .pointer (some ⟨g, 0, none⟩) := by simpa using hp
  simp [results, h, hp', asAddr, run_loadVar_row w g t ty cs fr d hg hu hd hi]
/-- Three new blocks of two cells each. -/
theorem boxes3 (w : World) (a b c d x y : Value) (e f g : TypeId) : (((w.alloc (.cells #[a, b] e)).alloc (.cells #[c, d] f)).alloc (.cells #[x, y] g)).cell? ⟨w.heap.size, 0, none⟩ = some a ∧ (((w.alloc (.cells #[a, b] e)).alloc (.cells #[c, d] f)).alloc (.cells #[x, y] g)).cell? ⟨w.heap.size, 1, none⟩ = some b ∧
    (((w.alloc (.cells #[a, b] e)).alloc (.cells #[c, d] f)).alloc (.cells #[x, y] g)).cell? ⟨w.heap.size + 1, 0, none⟩ = some c ∧ (((w.alloc (.cells #[a, b] e)).alloc (.cells #[c, d] f)).alloc (.cells #[x, y] g)).cell? ⟨w.heap.size + 1, 1, none⟩ = some d ∧
    (((w.alloc (.cells #[a, b] e)).alloc (.cells #[c, d] f)).alloc (.cells #[x, y] g)).heap[w.heap.size + 1 + 1]? = some (.cells #[x, y] g (0, 0)) ∧ Nw w (((w.alloc (.cells #[a, b] e)).alloc (.cells #[c, d] f)).alloc (.cells #[x, y] g)) ∧
    (((w.alloc (.cells #[a, b] e)).alloc (.cells #[c, d] f)).alloc (.cells #[x, y] g)).heap.size = w.heap.size + 1 + 1 + 1 := by
  obtain ⟨h1, h2, h3, h4, h5⟩ := boxes w a b c d e f
  have hn := (Nw.refl ((w.alloc (.cells #[a, b] e)).alloc (.cells #[c, d] f))).alloc (.cells #[x, y] g)
  have hz := size_alloc ((w.alloc (.cells #[a, b] e)).alloc (.cells #[c, d] f)) (.cells #[x, y] g)
  have hw := heap_new ((w.alloc (.cells #[a, b] e)).alloc (.cells #[c, d] f)) (.cells #[x, y] g)
  rw [h5] at hz hw
  exact ⟨hn.cell h1, hn.cell h2, hn.cell (heap_cell h3 0), hn.cell (heap_cell h3 1), hw, h4.trans hn, hz⟩
def HandsTE (w : World) (r : T × Int) (e : Ending) (w' : World) : Prop := ∃ v, e = .returned (.tuple #[v, .int .i64 r.2]) ∧ TrR w' v r.1 ∧ Nw w w'
end Tr
end Go.Proofs.Ytdihoedehmfgfaa
