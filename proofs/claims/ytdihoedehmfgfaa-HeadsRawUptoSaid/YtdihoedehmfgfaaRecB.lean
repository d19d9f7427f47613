/- The contract of the law's Event: the event of a time and of bits. No condition. -/
import Derived.Test.YtdihoedehmfgfaaRecA
set_option linter.unusedSimpArgs false
set_option linter.unusedVariables false
namespace Go.Proofs.Ytdihoedehmfgfaa
open Go.ChangeShapes Go.WideShapes Go.ChangeAt Go.RowKit
namespace Rec
def idsTo (x : Words.Wd) (j : Nat) : List Int := ((List.range j).filter fun i => x.getLsbD i).map fun n : Nat => (n : Int)
theorem idsTo_succ (x : Words.Wd) (j : Nat) : idsTo x (j + 1) = idsTo x j ++ (if x.getLsbD j = true then [(j : Int)] else []) := by
  unfold idsTo
  rw [List.range_succ, List.filter_append, List.map_append]
  cases h : x.getLsbD j <;> simp [h]
theorem idsTo_all (x : Words.Wd) : idsTo x 64 = ids x := rfl
theorem idsTo_len (x : Words.Wd) (j : Nat) : (idsTo x j).length ≤ j := by
  unfold idsTo
  rw [List.length_map]
  exact Nat.le_trans (List.length_filter_le _ _) (by simp)
/-- A call hands back an event. -/
def HandsE (w : World) (t : Int) (l : List Int) (e : Ending) (w' : World) : Prop := ∃ v, e = .returned (.agg #[.int .u64 t, v]) ∧ Sl w' v (i64s l) ∧ Nw w w'
theorem info_i64 : (Try.prog.info? 3).map (fun i => (i.zero, i.size, i.bytes)) = some (some (.int .i64 0), 1, 8) := by kernel_rfl
theorem bit_is (x : Words.Wd) (k : Nat) : (bits .and .u64 ((x.toNat : Int) / 2 ^ k) 1 == 1) = x.getLsbD k := by
  rw [Words.getbit]
  cases x.getLsbD k <;> rfl
/-- An event that a call fills: its block g, with the row of its ids behind it; block z holds what is handed back. -/
def EvSt (w : World) (z g : Nat) (t : Int) (v : Value) (l : List Int) (wr : World) : Prop :=
  wr.heap[g]? = some (.cells #[.int .u64 t, v] 38 (0, 0)) ∧ wr.heap[z]? = some (.cells #[.int .u64 0, .slice none 0 0] 38 (0, 0)) ∧ Own wr (g + 1) 3 v (i64s l) ∧ Nw w wr ∧ w.heap.size ≤ g ∧ z < g
theorem EvSt.read {w : World} {z g : Nat} {t : Int} {v : Value} {l : List Int} {wr : World} (h : EvSt w z g t v l wr) :
    wr.cell? ⟨g, 0, none⟩ = some (.int .u64 t) ∧ wr.cell? ⟨g, 1, none⟩ = some v ∧ wr.frozen? ⟨g, 0, none⟩ = false ∧ wr.frozen? ⟨g, 1, none⟩ = false ∧
    wr.cell? ⟨z, 0, none⟩ = some (.int .u64 0) ∧ wr.cell? ⟨z, 1, none⟩ = some (.slice none 0 0) ∧ wr.frozen? ⟨z, 0, none⟩ = false ∧ wr.frozen? ⟨z, 1, none⟩ = false ∧ g < wr.heap.size :=
  ⟨heap_cell h.1 0, heap_cell h.1 1, heap_frozen h.1 0, heap_frozen h.1 1, heap_cell h.2.1 0, heap_cell h.2.1 1, heap_frozen h.2.1 0, heap_frozen h.2.1 1, lt_of_heap h.1⟩
/-- An append to its row has no hold on it. -/
theorem EvSt.mid {w : World} {z g : Nat} {t : Int} {v v1 : Value} {l l1 : List Int} {wr w1 : World} {xs : List Value} (h : EvSt w z g t v l wr) {o : Obj} (hm : Mods (g + 1 ≤ ·) (wr.alloc o) w1) (ho : Own w1 (g + 1) 3 v1 xs) (hx : xs = i64s l1) :
    w1.heap[g]? = some (.cells #[.int .u64 t, v] 38 (0, 0)) ∧ EvSt w z g t v1 l1 (w1.setCell ⟨g, 1, none⟩ v1) := by
  subst hx
  obtain ⟨h1, h2, h3, h4, h5, h6⟩ := h
  have k1 := hm.heap (((Nw.refl wr).alloc o).heap h1) (by omega)
  have k2 := hm.heap (((Nw.refl wr).alloc o).heap h2) (by omega)
  have ms : Mods (· = g) w1 (w1.setCell ⟨g, 1, none⟩ v1) := Mods.setCell (S := (· = g)) (Mods.refl _ w1) (p := ⟨g, 1, none⟩) rfl v1
  refine ⟨k1, heap_set k1 1 v1, ms.heap k2 (by omega), ho.mods ms (fun q hq e => by omega), ?_, h5, h6⟩
  exact (Nw.ofMods (h4.alloc o) hm (fun q hq => by omega)).ofMods ms (fun q hq => by omega)
/-- Its time is written. -/
theorem EvSt.time {w : World} {z g : Nat} {t : Int} {v : Value} {l : List Int} {wr : World} (h : EvSt w z g t v l wr) (t' : Int) : EvSt w z g t' v l (wr.setCell ⟨g, 0, none⟩ (.int .u64 t')) := by
  obtain ⟨h1, h2, h3, h4, h5, h6⟩ := h
  have ms : Mods (· = g) wr (wr.setCell ⟨g, 0, none⟩ (.int .u64 t')) := Mods.setCell (S := (· = g)) (Mods.refl _ wr) (p := ⟨g, 0, none⟩) rfl _
  exact ⟨heap_set h1 0 _, ms.heap h2 (by omega), h3.mods ms (fun q hq e => by omega), h4.ofMods ms (fun q hq => by omega), h5, h6⟩
theorem EvSt.new {w0 : World} {z : Nat} {t : Int} (h2 : w0.heap[z]? = some (.cells #[.int .u64 0, .slice none 0 0] 38 (0, 0))) {g : Nat} (he : g = w0.heap.size) :
    EvSt w0 z g t (.slice none 0 0) [] (w0.alloc (.cells #[.int .u64 t, .slice none 0 0] 38)) := by
  subst he
  exact ⟨heap_new _ _, ((Nw.refl _).alloc _).heap h2, Own.nil _ _ _, (Nw.refl _).alloc _, Nat.le_refl _, lt_of_heap h2⟩
theorem results_cell3 {P : Program} {fn : Func} {p u v : Tmp} {ty : TypeId} (h : fn.results = #[.cell p ty, .tmp u, .tmp v]) (tmps : Array Value) (w : World) (g : Nat) (t : TypeId) (cs : Array Value) (fr : Nat × Nat) (d : TypeDesc)
    (hp : tmps.getD p undef = .pointer (some ⟨g, 0, none⟩)) (hg : w.heap[g]? = some (.cells cs t fr))
    (hu : P.underlying ty = some d) (hd : (match d with | .struct _ | .array _ _ => true | _ => false) = true) (hi : (P.info? ty).map (·.size) = some cs.size) :
    (results fn tmps).run P w = .ok (.tuple #[.agg cs, tmps.getD u undef, tmps.getD v undef]) w := by
  have hp' : tmps[p]?.getD undef = .pointer (some ⟨g, 0, none⟩) := by simpa using hp
  simp [results, h, hp', asAddr, run_loadVar_row w g t ty cs fr d hg hu hd hi]
/-- It is handed back. -/
theorem EvSt.done {w : World} {z g : Nat} {t : Int} {v : Value} {l : List Int} {wr : World} (h : EvSt w z g t v l wr) {wa : World} (ha : Nw wa w) (hz : wa.heap.size ≤ z) {w' : World} (hw : w' = (wr.setCell ⟨z, 0, none⟩ (.int .u64 t)).setCell ⟨z, 1, none⟩ v) :
    w'.heap[z]? = some (.cells #[.int .u64 t, v] 38 (0, 0)) ∧ Sl w' v (i64s l) ∧ Nw wa w' := by
  subst hw
  obtain ⟨h1, h2, h3, h4, h5, h6⟩ := h
  have k1 := heap_set (heap_set h2 0 (.int .u64 t)) 1 v
  have ms : Mods (· = z) wr ((wr.setCell ⟨z, 0, none⟩ (.int .u64 t)).setCell ⟨z, 1, none⟩ v) := Mods.setCell (S := (· = z)) (Mods.setCell (S := (· = z)) (Mods.refl _ wr) (p := ⟨z, 0, none⟩) rfl _) (p := ⟨z, 1, none⟩) rfl v
  exact ⟨k1, (h3.mods ms (fun q hq e => by omega)).sl, (ha.trans h4).ofMods ms (fun q hq => by omega)⟩
end Rec
end Go.Proofs.Ytdihoedehmfgfaa
