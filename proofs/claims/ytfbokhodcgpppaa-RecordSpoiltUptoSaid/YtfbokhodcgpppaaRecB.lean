/- The contract of the law's Event: the event of a time and of bits. No condition. -/
import Derived.Test.YtfbokhodcgpppaaRecA
namespace Go.Proofs.Ytfbokhodcgpppaa
open Go.ChangeShapes Go.WideShapes Go.ChangeAt Go.RowKit
namespace Rec
def idsTo (x : Words.Wd) (j : Nat) : List Int := ((List.range j).filter fun i => x.getLsbD i).map fun n : Nat => (n : Int)
theorem idsTo_succ (x : Words.Wd) (j : Nat) : idsTo x (j + 1) = idsTo x j ++ (if x.getLsbD j = true then [(j : Int)] else []) := by
  unfold idsTo
  rw [List.range_succ, List.filter_append, List.map_append]
  cases h : x.getLsbD j <;> simp [h]
theorem idsTo_all (x : Words.Wd) : idsTo x 64 = ids x := rfl
theorem idsTo_len (x : Words.Wd) (j : Nat) : (idsTo x j).length ≤ j := by
  unfold idsTo
  rw [List.length_map]
  exact Nat.le_trans (List.length_filter_le _ _) (by simp)
/-- A call hands back an event. -/
def HandsE (w : World) (t : Int) (l : List Int) (e : Ending) (w' : World) : Prop := ∃ v, e = .returned (.agg #[.int .u64 t, v]) ∧ Sl w' v (i64s l) ∧ Nw w w'
theorem info_i64 : (Try.prog.info? 3).map (fun i => (i.zero, i.size, i.bytes)) = some (some (.int .i64 0), 1, 8) := by kernel_rfl
theorem bit_is (x : Words.Wd) (k : Nat) : (bits .and .u64 ((x.toNat : Int) / 2 ^ k) 1 == 1) = x.getLsbD k := by
  rw [Words.getbit]
  cases x.getLsbD k <;> rfl
/-- An event that a call fills: its block g, with the row of its ids behind it; block z holds what is handed back. -/
def EvSt (w : World) (z g : Nat) (t : Int) (v : Value) (l : List Int) (wr : World) : Prop :=
  wr.heap[g]? = some (.cells #[.int .u64 t, v] 38 (0, 0)) ∧ wr.heap[z]? = some (.cells #[.int .u64 0, .slice none 0 0] 38 (0, 0)) ∧ Own wr (g + 1) 3 v (i64s l) ∧ Nw w wr ∧ w.heap.size ≤ g ∧ z < g
theorem EvSt.read {w : World} {z g : Nat} {t : Int} {v : Value} {l : List Int} {wr : World} (h : EvSt w z g t v l wr) :
    wr.cell? ⟨g, 0, none⟩ = some (.int .u64 t) ∧ wr.cell? ⟨g, 1, none⟩ = some v ∧ wr.frozen? ⟨g, 0, none⟩ = false ∧ wr.frozen? ⟨g, 1, none⟩ = false ∧
    wr.cell? ⟨z, 0, none⟩ = some (.int .u64 0) ∧ wr.cell? ⟨z, 1, none⟩ = some (.slice none 0 0) ∧ wr.frozen? ⟨z, 0, none⟩ = false ∧ wr.frozen? ⟨z, 1, none⟩ = false ∧ g < wr.heap.size :=
  ⟨heap_cell h.1 0, heap_cell h.1 1, heap_frozen h.1 0, heap_frozen h.1 1, heap_cell h.2.1 0, heap_cell h.2.1 1, heap_frozen h.2.1 0, heap_frozen h.2.1 1, lt_of_heap h.1⟩
/-- An append to its row has no hold on it. -/
theorem EvSt.mid {w : World} {z g : Nat} {t : Int} {v v1 : Value} {l l1 : List Int} {wr w1 : World} {xs : List Value} (h : EvSt w z g t v l wr) {o : Obj} (hm : Mods (g + 1 ≤ ·) (wr.alloc o) w1) (ho : Own w1 (g + 1) 3 v1 xs) (hx : xs = i64s l1) :
    w1.heap[g]? = some (.cells #[.int .u64 t, v] 38 (0, 0)) ∧ EvSt w z g t v1 l1 (w1.setCell ⟨g, 1, none⟩ v1) := by
  subst hx
  obtain ⟨h1, h2, h3, h4, h5, h6⟩ := h
  have k1 := hm.heap (((Nw.refl wr).alloc o).heap h1) (by omega)
  have k2 := hm.heap (((Nw.refl wr).alloc o).heap h2) (by omega)
  have ms : Mods (· = g) w1 (w1.setCell ⟨g, 1, none⟩ v1) := Mods.setCell (S := (· = g)) (Mods.refl _ w1) (p := ⟨g, 1, none⟩) rfl v1
  refine ⟨k1, heap_set k1 1 v1, ms.heap k2 (by omega), ho.mods ms (fun q hq e => by omega), ?_, h5, h6⟩
  exact (Nw.ofMods (h4.alloc o) hm (fun q hq => by omega)).ofMods ms (fun q hq => by omega)
/-- Its time is written. -/
theorem EvSt.time {w : World} {z g : Nat} {t : Int} {v : Value} {l : List Int} {wr : World} (h : EvSt w z g t v l wr) (t' : Int) : EvSt w z g t' v l (wr.setCell ⟨g, 0, none⟩ (.int .u64 t')) := by
  obtain ⟨h1, h2, h3, h4, h5, h6⟩ := h
  have ms : Mods (· = g) wr (wr.setCell ⟨g, 0, none⟩ (.int .u64 t')) := Mods.setCell (S := (· = g)) (Mods.refl _ wr) (p := ⟨g, 0, none⟩) rfl _
  exact ⟨heap_set h1 0 _, ms.heap h2 (by omega), h3.mods ms (fun q hq e => by omega), h4.ofMods ms (fun q hq => by omega), h5, h6⟩
theorem EvSt.new {w0 : World} {z : Nat} {t : Int} (h2 : w0.heap[z]? = some (.cells #[.int .u64 0, .slice none 0 0] 38 (0, 0))) {g : Nat} (he : g = w0.heap.size) :
    EvSt w0 z g t (.slice none 0 0) [] (w0.alloc (.cells #[.int .u64 t, .slice none 0 0] 38)) := by
  subst he
  exact ⟨heap_new _ _, ((Nw.refl _).alloc _).heap h2, Own.nil _ _ _, (Nw.refl _).alloc _, Nat.le_refl _, lt_of_heap h2⟩
theorem results_cell3 {P : Program} {fn : Func} {p u v : Tmp} {ty : TypeId} (h : fn.results = #[.cell p ty, .tmp u, .tmp v]) (tmps : Array Value) (w : World) (g : Nat) (t : TypeId) (cs : Array Value) (fr : Nat × Nat) (d : TypeDesc)
    (hp : tmps.getD p undef = .pointer (some ⟨g, 0, none⟩)) (hg : w.heap[g]? = some (.cells cs t fr))
    (hu : P.underlying ty = some d) (hd : (match d with | .struct _ | .array _ _ => true | _ => false) = true) (hi : (P.info? ty).map (·.size) = some cs.size) :
    (results fn tmps).run P w = .ok (.tuple #[.agg cs, tmps.getD u undef, tmps.getD v undef]) w := by
  have hp' : tmps[p]?.getD undef = .pointer (some ⟨g, 0, none⟩) := by simpa using hp
  simp [results, h, hp', asAddr, run_loadVar_row w g t ty cs fr d hg hu hd hi]
/-- It is handed back. -/
theorem EvSt.done {w : World} {z g : Nat} {t : Int} {v : Value} {l : List Int} {wr : World} (h : EvSt w z g t v l wr) {wa : World} (ha : Nw wa w) (hz : wa.heap.size ≤ z) {w' : World} (hw : w' = (wr.setCell ⟨z, 0, none⟩ (.int .u64 t)).setCell ⟨z, 1, none⟩ v) :
    w'.heap[z]? = some (.cells #[.int .u64 t, v] 38 (0, 0)) ∧ Sl w' v (i64s l) ∧ Nw wa w' := by
  subst hw
  obtain ⟨h1, h2, h3, h4, h5, h6⟩ := h
  have k1 := heap_set (heap_set h2 0 (.int .u64 t)) 1 v
  have ms : Mods (· = z) wr ((wr.setCell ⟨z, 0, none⟩ (.int .u64 t)).setCell ⟨z, 1, none⟩ v) := Mods.setCell (S := (· = z)) (Mods.setCell (S := (· = z)) (Mods.refl _ wr) (p := ⟨z, 0, none⟩) rfl _) (p := ⟨z, 1, none⟩) rfl v
  exact ⟨k1, (h3.mods ms (fun q hq e => by omega)).sl, (ha.trans h4).ofMods ms (fun q hq => by omega)⟩
set_option maxRecDepth 20000 in
set_option maxHeartbeats 1600000 in
theorem event_c (t : Int) (x : Words.Wd) (w : World) (h0 : 0 ≤ t) (h1 : t < 18446744073709551616) : Calls Try.prog 18 #[.int .u64 t, .int .u64 (x.toNat : Int)] w (HandsE w t (ids x)) := by
  go_enter Try.func18, Try.ntmps18
  go_wp2
  go_loopw [6, 9] (fun _ i wr => ∃ j : Nat, j ≤ 64 ∧ i = .int .i64 j ∧ ∃ v, EvSt (w.alloc (.cells #[.int .u64 0, .slice none 0 0] 38)) w.heap.size (w.heap.size + 1) t v (idsTo x j) wr) (fun _ i _ => 64 - (intOf i).toNat)
  case atStart => exact ⟨0, by omega, rfl, _, EvSt.new (heap_new _ _) (by simp)⟩
  case round =>
    obtain ⟨j, hj, rfl, v, hst⟩ := hrel
    obtain ⟨r0, r1, r2, r3, r4, r5, r6, r7, r8⟩ := hst.read
    obtain ⟨pv, cv, rfl, hcv, hmv, _⟩ := i64s_open hst.2.2.1.sl
    have HST := hid hst
    clear hst
    have hll := idsTo_len x j
    by_cases hlt : j < 64
    · have hdj : decide ((j : Int) < 64) = true := decide_eq_true (by omega)
      have HB := hid (bit_is x j)
      have HS := hid (idsTo_succ x j)
      cases hb : x.getLsbD j with
      | true =>
        rw [hb] at HB HS
        have hbb : (bits .and .u64 ((x.toNat : Int) / 2 ^ j) 1 == 1) = true := HB.out
        go_wp2_with (first
          | ((at_builtin; refine app1b rfl _ _ _ rfl _ _ _ Try.underlying36 info_i64 rfl (by decide) ((by simp; omega)) (HST.out.2.2.1.nw ((Nw.refl _).alloc _)) rfl (Sl.new wr [_] _ _ (by simp [maxLen])) rfl (by simp [Value.oneCell']) ?_ ?_; rotate_left; (simp only [i64s_length, List.length_cons, List.length_nil]; omega); intro v1 w1 hown1 hm1); obtain ⟨p1, c1, rfl, hc1, hmx1, _⟩ := hown1.sl.open (n := (idsTo x j).length + 1) (by simp [i64s]); have q1 := (HST.out.mid (l1 := idsTo x (j + 1)) hm1 hown1 (by rw [HS.out, if_pos rfl]; simp [i64s])); have q2 := heap_cell q1.1 1; have q3 := heap_frozen q1.1 1; simp at q2)
          | fail)
        go_roundw
        case rel => exact ⟨j + 1, by omega, by go_num, _, q1.2⟩
        case measure => simp [intOf]; omega
      | false =>
        rw [hb] at HB HS
        have hbb : (bits .and .u64 ((x.toNat : Int) / 2 ^ j) 1 == 1) = false := HB.out
        go_wp2
        go_roundw
        case rel => exact ⟨j + 1, by omega, by go_num, _, by rw [HS.out]; simpa using HST.out⟩
        case measure => simp [intOf]; omega
    · obtain rfl : j = 64 := by omega
      have hdj : decide ((64 : Int) < 64) = false := rfl
      obtain ⟨d0, d2, d3⟩ := HST.out.done ((Nw.refl w).alloc _) (Nat.le_refl _) rfl
      go_wp2
      ((try simp only [Exit.inBlock, Exit.then]); refine bodyPost_ret (results_cell_row rfl _ _ _ _ _ _ _ rfl d0 Try.underlying38 rfl (by kernel_rfl)) rfl ?_)
      exact ⟨_, rfl, d2, d3⟩
end Rec
end Go.Proofs.Ytfbokhodcgpppaa
