/- strings.Builder as this program has it; the contract of verdict.Text. No condition but lengths, and that the library's table of powers of ten lies as it is laid. -/
import Derived.Test.YtlimhggkimnddaaDoorVerE
set_option linter.unusedSimpArgs false
set_option linter.unusedVariables false
namespace Go.Proofs.YtlimhggkimnddaaDoor
open Go.ChangeShapes Go.WideShapes Go.ChangeAt Go.RowKit
namespace Vd
/-- A builder in a block of the call's own, and what it holds. -/
def Bld (w : World) (B b : Nat) (bs : List UInt8) : Prop := Lib.IsBuilder 46 5 B b (Lib.byteCells bs) w
theorem bat_nw {T e : TypeId} {B b : Nat} {p : Value} {bs : List Value} {w w' : World} (h : Lib.BuilderAt T e B b p bs w) (hn : Nw w w') : Lib.BuilderAt T e B b p bs w' := by
  obtain ⟨h1, v, h2, h3, h4⟩ := h
  exact ⟨h1, v, hn.heap h2, hn.ownsRow h3, h4⟩
theorem Bld.nw {w w' : World} {B b : Nat} {bs : List UInt8} (h : Bld w B b bs) (hn : Nw w w') : Bld w' B b bs := by
  rcases h with h | h
  · exact Or.inl (bat_nw h hn)
  · exact Or.inr (bat_nw h hn)
theorem Bld.new (w : World) : Bld (w.alloc (.cells #[.pointer none, .slice none 0 0] 46 (0, 0))) w.heap.size w.heap.size [] :=
  Or.inl ⟨Nat.le_refl _, .slice none 0 0, heap_new w _, World.ownsRow_nil _ _ _ 1, by simp [Value.ownBlock]⟩
theorem size_bld : (Tryd.prog.info? 46).map (·.size) = some 2 := by kernel_rfl
theorem lies_bld : liesAt Tryd.prog Tryd.prog.depth 46 (2 / Tryd.prog.cellsOf 46) 0 46 1 = true := by kernel_rfl
theorem info_byte : (Tryd.prog.info? 5).map (fun i => (i.zero, i.size, i.bytes)) = some (some (.int .u8 0), 1, 1) := by kernel_rfl
set_option maxRecDepth 100000 in
set_option maxHeartbeats 1000000 in
theorem check_c (B b : Nat) (bs : List Value) (w : World) (h : Lib.IsBuilder 46 5 B b bs w) :
    Calls Tryd.prog 29 #[.pointer (some ⟨b, 0, none⟩)] w fun e w' => e = .returned (.tuple #[]) ∧ (Lib.BuilderAt 46 5 B b (.pointer (some ⟨b, 0, none⟩)) bs w' ∧ Below B w w') := by
  obtain ⟨j, hj, hjs⟩ := Option.map_eq_some_iff.1 size_bld
  rcases h with h | h
  · have h0 := h.cell0
    have hsh := h.shape
    have hfz := h.frozen0
    have HU := hid (h.used (.pointer (some ⟨b, 0, none⟩)))
    have hB := h.1
    clear h
    go_enter Tryd.func29, Tryd.ntmps29
    go_wp2
    rw [Lib.run_to_unsafe w ⟨b, 0, none⟩ Tryd.underlying43 Tryd.underlying65 hj (by rw [hjs]; decide) hsh (Nat.zero_lt_succ 1)]
    simp only [Result.andThen]
    rw [Oper.upon_value]
    go_wp2
    rw [run_callFunc_extern Tryd.func36 (by kernel_rfl) (by kernel_rfl) (by kernel_rfl) (e := Extern.AbiNoEscape.same) (by kernel_rfl)]
    rw [Lib.run_noEscape]
    simp only [Result.andThen]
    rw [Oper.upon_value]
    go_wp2
    rw [Lib.run_from_unsafe w ⟨b, 0, none⟩ Tryd.underlying65 Tryd.underlying43 hj hsh lies_bld]
    simp only [Result.andThen]
    rw [Oper.upon_value]
    go_wp2
    go_end0
    exact ⟨rfl, HU.out, (Below.refl B w).setCell (p := ⟨b, 0, none⟩) hB _⟩
  · have h0 := h.cell0
    have HU := hid h
    clear h
    go_enter Tryd.func29, Tryd.ntmps29
    go_wp2
    rw [Lib.run_neq_ptr_same w _ Tryd.underlying43 hj]
    go_wp2
    go_end0
    exact ⟨rfl, HU.out, Below.refl B _⟩
set_option maxRecDepth 100000 in
set_option maxHeartbeats 2000000 in
theorem write_c (B b : Nat) (bs L : List UInt8) (w : World) (h : Bld w B b bs) (hlen : bs.length + L.length ≤ 140737488355328) (hBw : B ≤ w.heap.size) :
    Calls Tryd.prog 19 #[.pointer (some ⟨b, 0, none⟩), .string ⟨L.toArray⟩] w fun e w' => (∃ x y, e = .returned (.tuple #[x, y])) ∧ Bld w' B b (bs ++ L) ∧ Below B w w' := by
  obtain ⟨i0, hi, hz0, hz1, hz2⟩ := info_parts info_byte
  have hsz : (⟨L.toArray⟩ : ByteArray).size = L.length := by simp [ByteArray.size]
  have hbl := Lib.byteCells_length bs
  have HH := hid h
  unfold Bld at HH
  clear h
  go_enter Tryd.func19, Tryd.ntmps19
  go_wp2_with (go_at_call 29; refine (check_c B b _ _ HH.out).mono ?_)
  rintro e w1 ⟨rfl, h1, hb1⟩
  obtain ⟨hB, v, hbk, hown, hne⟩ := h1
  have c0 : w1.cell? ⟨b, 0, none⟩ = some (.pointer (some ⟨b, 0, none⟩)) := by rw [Lib.cell_of_heap hbk]; rfl
  have c1 : w1.cell? ⟨b, 1, none⟩ = some v := by rw [Lib.cell_of_heap hbk]; rfl
  go_wp2_with (at_builtin; refine Lib.wpList_append_own_string _ rfl _ _ 44 9 rfl B 5 i0 Tryd.underlying44 Tryd.underlying9 hi hz0 hz1 hz2 _ _ _ rfl hown _ rfl ?c3 ?c4 ?c5 ?_)
  case c3 => unfold maxLen; omega
  case c4 => omega
  case c5 => have := hb1.size; omega
  intro v' w2 hown' hgrow _
  have hlt : b < w1.heap.size := lt_of_heap hbk
  have hb2 : w2.heap[b]? = some (.cells #[.pointer (some ⟨b, 0, none⟩), v] 46 (0, 0)) := by
    rw [hgrow.block b hlt (fun e => hne e.symm)]
    exact hbk
  have d0 : w2.cell? ⟨b, 0, none⟩ = some (.pointer (some ⟨b, 0, none⟩)) := by rw [Lib.cell_of_heap hb2]; rfl
  have d1 : w2.cell? ⟨b, 1, none⟩ = some v := by rw [Lib.cell_of_heap hb2]; rfl
  have f1 : w2.frozen? ⟨b, 1, none⟩ = false := Lib.frozen_of_heap hb2 1
  obtain ⟨ao, n', cap, rfl⟩ : ∃ ao n' cap, v' = .slice ao n' cap := by
    rcases hown'.2 with ⟨hv, _⟩ | ⟨g, cap, cur, hv, _⟩
    · exact ⟨_, _, _, hv⟩
    · exact ⟨_, _, _, hv⟩
  go_wp2
  go_ret2
  refine ⟨⟨_, _, rfl⟩, Or.inr ?_, ?_⟩
  · refine Lib.BuilderAt.put (T := 46) (e := 5) hB hb2 (bs' := Lib.byteCells (bs ++ L)) ?_ (by decide)
    rw [Lib.byteCells_append, show Lib.byteCells L = Lib.strCells ⟨L.toArray⟩ from rfl, List.length_append, Lib.strCells_length, hsz, hbl]
    exact hown'
  · exact (hb1.grown hgrow (by have := hb1.size; omega) (fun k hk => (hown.lt k hk).1)).setCell (p := ⟨b, 1, none⟩) hB _
theorem str_c (B b : Nat) (bs : List UInt8) (w : World) (h : Bld w B b bs) (hBw : B ≤ w.heap.size) :
    Calls Tryd.prog 20 #[.pointer (some ⟨b, 0, none⟩)] w fun e w' => e = .returned (.string ⟨bs.toArray⟩) ∧ Below B w w' :=
  Tryd.Builder_String_any B b bs w h hBw
set_option maxHeartbeats 1600000 in
theorem text_c (v : Value) (l : List It) (w : World) (hv : Its w v l) (hr : ∀ x ∈ l, Rg x) (hl : l.length ≤ 2000000) (ht : Tab w) :
    Calls Tryd.prog 9 #[v] w (Gives (.string ⟨(text l).toArray⟩) w) := by
  obtain ⟨p, cap, rfl, hcap, hmx, _, hc⟩ := hv.open rfl
  have HC := hid hc
  have HR := hid hr
  clear hc hr
  go_enter Tryd.func9, Tryd.ntmps9
  go_wp2
  go_loopw [5, 6, 9] (fun _ _ i wr => ∃ k : Nat, k ≤ l.length ∧ i = .int .i64 k ∧ Bld wr w.heap.size w.heap.size (text (l.take k)) ∧ Nw w wr) (fun _ _ i _ => l.length - (intOf i).toNat)
  case atStart => exact ⟨0, Nat.zero_le _, rfl, Bld.new w, (by repeat (first | assumption | exact Nw.refl _ | refine Nw.alloc ?_ _ | refine Nw.drew ?_ | refine Nw.drewN2 ?_ _ | (refine Nw.trans ?_ (by assumption))))⟩
  case round =>
    obtain ⟨k, hk, rfl, hb, hnr⟩ := hrel
    have hsz := hnr.size
    by_cases hlt : k < l.length
    · have hdk : decide (k < l.length) = true := decide_eq_true hlt
      obtain ⟨x, hx⟩ : ∃ x, l[k]? = some x := ⟨l[k], by simp [hlt]⟩
      have HX := hid (text_take l k x hx)
      have HRX := hid (HR.out x (List.mem_of_getElem? hx))
      have htl := text_len (l.take k)
      rw [List.length_take] at htl
      have htb : (text (l.take k)).length ≤ 2000000 * 51 := by omega
      clear htl
      obtain ⟨ki, ii, bb, ti⟩ := x
      obtain ⟨b0, oo, rfl, c0, c1, c2, c3⟩ := (HC.out.nw hnr) k _ hx
      clear hx
      simp only at c0 c1 c2 c3
      have hz := World.block_lt_of_cell? wr _ c0
      simp only at hz
      have HLI := hid (fun w' (h : Nw wr w') => line_c ki ii ti bb w' HRX.out (ht.nw (hnr.trans h)))
      have hll := line_len (x := (ki, ii, bb, ti))
      have HB := hid hb
      clear hb
      generalize text (l.take k) = T at *
      unfold itv at HLI
      cases hL : line (ki, ii, bb, ti) with
      | nil =>
        have HF := hid (full_nil hL)
        rw [hL] at HLI
        clear hL hll
        go_wp2_with (first
          | (go_at_call 18; refine (HLI.out _ (by repeat (first | assumption | exact Nw.refl _ | refine Nw.alloc ?_ _ | refine Nw.drew ?_ | refine Nw.drewN2 ?_ _ | (refine Nw.trans ?_ (by assumption))))).mono ?_; rintro e w2 ⟨rfl, hn2⟩)
          | fail)
        go_roundw
        case rel => exact ⟨k + 1, by omega, by go_num, by rw [HX.out, HF.out, List.append_nil]; exact HB.out.nw (by repeat (first | assumption | exact Nw.refl _ | refine Nw.alloc ?_ _ | refine Nw.drew ?_ | refine Nw.drewN2 ?_ _ | (refine Nw.trans ?_ (by assumption)))), (by repeat (first | assumption | exact Nw.refl _ | refine Nw.alloc ?_ _ | refine Nw.drew ?_ | refine Nw.drewN2 ?_ _ | (refine Nw.trans ?_ (by assumption))))⟩
        case measure => simp [intOf]; omega
      | cons c r =>
        have HF := hid (full_of (Or.inr trivial) hL (by simp))
        rw [hL] at HLI hll
        clear hL
        have hll1 : (c :: r).length ≤ 50 := hll
        clear hll
        obtain ⟨L, hLn⟩ : ∃ L, Hid (L = c :: r) := ⟨_, hid rfl⟩
        have hne : (!L.isEmpty) = true := by rw [hLn.out]; rfl
        rw [← hLn.out] at HLI HF hll1
        clear hLn
        have HW := hid (fun w' (h : Nw wr w') => show Calls Tryd.prog 19 #[.pointer (some ⟨w.heap.size, 0, none⟩), .string ((⟨L.toArray⟩ : ByteArray) ++ ⟨#[10]⟩)] w' (fun e w'' => (∃ x y, e = .returned (.tuple #[x, y])) ∧ Bld w'' w.heap.size w.heap.size (T ++ full (ki, ii, bb, ti)) ∧ Below w.heap.size w' w'') by
          have := write_c w.heap.size w.heap.size T (L ++ [10]) w' (HB.out.nw h) (by rw [List.length_append, List.length_singleton]; omega) (Nat.le_trans hsz h.size)
          rw [show (⟨L.toArray⟩ : ByteArray) ++ ⟨#[10]⟩ = ⟨(L ++ [10]).toArray⟩ from bapp L [10], HF.out]
          exact this)
        go_wp2_with (first
          | (go_at_call 18; refine (HLI.out _ (by repeat (first | assumption | exact Nw.refl _ | refine Nw.alloc ?_ _ | refine Nw.drew ?_ | refine Nw.drewN2 ?_ _ | (refine Nw.trans ?_ (by assumption))))).mono ?_; rintro e w2 ⟨rfl, hn2⟩)
          | (go_at_call 19; refine (HW.out _ (by repeat (first | assumption | exact Nw.refl _ | refine Nw.alloc ?_ _ | refine Nw.drew ?_ | refine Nw.drewN2 ?_ _ | (refine Nw.trans ?_ (by assumption))))).mono ?_; rintro e w3 ⟨⟨x1, x2, rfl⟩, hb3, hbl3⟩)
          | fail)
        have hn3 : Nw w w2 := (by repeat (first | assumption | exact Nw.refl _ | refine Nw.alloc ?_ _ | refine Nw.drew ?_ | refine Nw.drewN2 ?_ _ | (refine Nw.trans ?_ (by assumption))))
        go_roundw
        case rel => exact ⟨k + 1, by omega, by go_num, by rw [HX.out]; exact hb3, Below.trans hn3 hbl3⟩
        case measure => simp [intOf]; omega
    · obtain rfl : k = l.length := by omega
      have hdk : decide (l.length < l.length) = false := decide_eq_false (Nat.lt_irrefl _)
      rw [List.take_length] at hb
      go_wp2_with (go_at_call 20; refine (str_c _ _ _ _ hb (by omega)).mono ?_; rintro e w2 ⟨rfl, hn2⟩)
      go_ret
      exact ⟨rfl, Below.trans hnr hn2⟩
end Vd
end Go.Proofs.YtlimhggkimnddaaDoor
