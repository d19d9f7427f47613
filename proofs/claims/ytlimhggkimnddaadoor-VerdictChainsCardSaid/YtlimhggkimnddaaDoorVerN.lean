/- The contracts of slices.Equal at items and at bools. No condition. -/
import Derived.Test.YtlimhggkimnddaaDoorVerL
import Derived.Laws.StructEq
set_option linter.unusedSimpArgs false
set_option linter.unusedVariables false
namespace Go.Proofs.YtlimhggkimnddaaDoor
open Go.ChangeShapes Go.WideShapes Go.ChangeAt Go.RowKit
namespace Vd
theorem neq_it (a0 a1 a3 b0 b1 b3 : Int) (a2 b2 : Bool) (w : World) : Sem.run Tryd.prog (binOp .neq 30 (.agg #[.int .i64 a0, .int .i64 a1, .bool a2, .int .i64 a3]) (.agg #[.int .i64 b0, .int .i64 b1, .bool b2, .int .i64 b3])) w =
    .ok (.bool (!(a0 == b0 && (a1 == b1 && (a2 == b2 && a3 == b3))))) w := by
  have u3 := Tryd.underlying3
  have a3' := Tryd.isAgg3
  have z3 := Tryd.sizeOf3
  have u4 := Tryd.underlying4
  have a4 := Tryd.isAgg4
  have z4 := Tryd.sizeOf4
  have hS : Tryd.prog.underlying 30 = some (.struct (Tryd.prog.fieldsOf 30)) := by kernel_rfl
  have hp : Tryd.prog.stoodInHeld 30 = false := by kernel_rfl
  rw [run_neq_struct, show (10000 : Nat) = 9999 + 1 from rfl, run_equalIn_agg w 9999 30 _ _ hS hp]
  simp only [Program.fieldsOf, Tryd.underlying30]
  go_simp
  by_cases h1 : a0 = b0 <;> by_cases h2 : a1 = b1 <;> by_cases h3 : a2 = b2 <;> by_cases h4 : a3 = b3 <;> simp [h1, h2, h3, h4]
theorem guard_it (op : BinOp) (x y : Operand) (xs ys : Array Value) (w : World) : Sem.run Tryd.prog (eqGuard op 30 x y (.agg xs) (.agg ys)) w = .ok () w := run_eqGuard_agg w op _ _ _ _ _ (by kernel_rfl)
theorem beq_it (a0 a1 a3 b0 b1 b3 : Int) (a2 b2 : Bool) : (a0 == b0 && (a1 == b1 && (a2 == b2 && a3 == b3))) = decide (((a0, a1, a2, a3) : It) = (b0, b1, b2, b3)) := by
  by_cases h1 : a0 = b0 <;> by_cases h2 : a1 = b1 <;> by_cases h3 : a2 = b2 <;> by_cases h4 : a3 = b3 <;> simp [h1, h2, h3, h4]
theorem take_eq_snoc {α : Type} {a b : List α} {k : Nat} {x y : α} (hx : a[k]? = some x) (hy : b[k]? = some y) (h : a.take k = b.take k) (e : x = y) : a.take (k + 1) = b.take (k + 1) := by
  rw [List.take_add_one, List.take_add_one, hx, hy, h, e]
set_option maxRecDepth 20000 in
set_option maxHeartbeats 2000000 in
theorem eqIts_c (va vb : Value) (a b : List It) (w : World) (ha : Its w va a) (hb : Its w vb b) :
    Calls Tryd.prog 14 #[va, vb] w (Gives (.bool (decide (a = b))) w) := by
  obtain ⟨p, ca, rfl, ha1, ha2, _, hca⟩ := ha.open rfl
  obtain ⟨q, cb, rfl, hb1, hb2, _, hcb⟩ := hb.open rfl
  have HA := hid hca
  have HB := hid hcb
  clear hca hcb ha hb
  have hmx1 : ca ≤ 9223372036854775807 := ha2
  have hmx2 : cb ≤ 9223372036854775807 := hb2
  clear ha2 hb2
  by_cases hlen : a.length = b.length
  · have hl1 : ((a.length : Int) == b.length) = true := by simp [hlen]
    have hl2 : ((a.length : Int) != b.length) = false := by simp [hlen]
    have HLEN := hid hlen
    clear hlen
    go_enter Tryd.func14, Tryd.ntmps14
    go_wp2
    go_loopw [5, 13] (fun _ i wr => ∃ k : Nat, k ≤ a.length ∧ i = .int .i64 k ∧ Hid (a.take k = b.take k) ∧ Nw w wr) (fun _ i _ => a.length - (intOf i).toNat)
    case atStart => exact ⟨0, Nat.zero_le _, rfl, hid rfl, Nw.refl _⟩
    case round =>
      obtain ⟨k, hk, rfl, he, hnr⟩ := hrel
      by_cases hlt : k < a.length
      · have hdk : decide (k < a.length) = true := decide_eq_true hlt
        have hlb : k < b.length := by have := HLEN.out; omega
        have hki : (k : Int) < b.length := by omega
        obtain ⟨x, hx⟩ : ∃ x, a[k]? = some x := ⟨a[k], by simp [hlt]⟩
        obtain ⟨y, hy⟩ : ∃ y, b[k]? = some y := ⟨b[k], by simp [hlb]⟩
        have HS := hid (fun e => take_eq_snoc hx hy he.out e)
        have HN := hid (fun (e : x ≠ y) => show decide (a = b) = false from decide_eq_false (fun q => by subst q; rw [hx] at hy; exact e (Option.some.inj hy)))
        obtain ⟨a0, a1, a2, a3⟩ := x
        obtain ⟨b0, b1, b2, b3⟩ := y
        obtain ⟨ba, oa, rfl, c0, c1, c2, c3⟩ := (HA.out.nw hnr) k _ hx
        obtain ⟨bb, ob, rfl, d0, d1, d2, d3⟩ := (HB.out.nw hnr) k _ hy
        simp only at c0 c1 c2 c3 d0 d1 d2 d3
        clear hx hy
        have z1 := World.block_lt_of_cell? wr _ c0
        have z2 := World.block_lt_of_cell? wr _ d0
        simp only at z1 z2
        have hne := neq_it a0 a1 a3 b0 b1 b3 a2 b2
        have hgd := guard_it
        rw [beq_it] at hne
        cases hq : decide (((a0, a1, a2, a3) : It) = (b0, b1, b2, b3)) with
        | true =>
          rw [hq] at hne
          have HE := hid (HS.out (of_decide_eq_true hq))
          clear hq
          go_wp2
          go_quiet (fail)
          go_wp2
          go_roundw
          case rel => exact ⟨k + 1, by omega, by go_num, HE, hnr.drewN2 _⟩
          case measure => simp [intOf]; omega
        | false =>
          rw [hq] at hne
          have HE := hid (HN.out (of_decide_eq_false hq))
          clear hq
          go_wp2
          go_quiet (fail)
          go_wp2
          go_ret
          exact Gives.b HE.out.symm (hnr.drewN2 _)
      · obtain rfl : k = a.length := by omega
        have hdk : decide (a.length < a.length) = false := decide_eq_false (Nat.lt_irrefl _)
        have HE := hid (show decide (a = b) = true from decide_eq_true (by have := he.out; rwa [List.take_length, HLEN.out, List.take_length] at this))
        go_wp2
        go_ret
        exact Gives.b HE.out.symm hnr
  · have hl1 : ((a.length : Int) == b.length) = false := by simpa using (by omega : ¬ (a.length : Int) = b.length)
    have hl2 : ((a.length : Int) != b.length) = true := by simpa using (by omega : ¬ (a.length : Int) = b.length)
    have HE := hid (show decide (a = b) = false from decide_eq_false (fun q => hlen (by rw [q])))
    clear hlen
    go_enter Tryd.func14, Tryd.ntmps14
    go_wp2
    go_ret
    exact Gives.b HE.out.symm (by repeat (first | assumption | exact Nw.refl _ | refine Nw.alloc ?_ _ | refine Nw.drew ?_ | refine Nw.drewN2 ?_ _ | (refine Nw.trans ?_ (by assumption))))
def bls (l : List Bool) : List Value := l.map .bool
theorem bls_length (l : List Bool) : (bls l).length = l.length := by simp [bls]
theorem bls_cell {w : World} {p : Option Addr} {l : List Bool} (h : Cells w p (bls l)) {i : Nat} {x : Bool} (hx : l[i]? = some x) : ∃ b off, p = some ⟨b, off, none⟩ ∧ w.cell? ⟨b, off + i, none⟩ = some (.bool x) := by
  obtain ⟨hi, e⟩ := List.getElem?_eq_some_iff.1 hx
  obtain ⟨b, off, e1, hc⟩ := h i (by rw [bls_length]; exact hi)
  exact ⟨b, off, e1, by rw [hc]; simp [bls, e]⟩
theorem bls_open {w : World} {v : Value} {l : List Bool} (h : Sl w v (bls l)) : ∃ p cap, v = .slice p l.length cap ∧ l.length ≤ cap ∧ cap ≤ maxLen ∧ (p = none → cap = 0) ∧ Cells w p (bls l) := h.open (bls_length l)
set_option maxRecDepth 20000 in
set_option maxHeartbeats 2000000 in
theorem eqBs_c (va vb : Value) (a b : List Bool) (w : World) (ha : Sl w va (bls a)) (hb : Sl w vb (bls b)) :
    Calls Tryd.prog 17 #[va, vb] w (Gives (.bool (decide (a = b))) w) := by
  obtain ⟨p, ca, rfl, ha1, ha2, _, hca⟩ := bls_open ha
  obtain ⟨q, cb, rfl, hb1, hb2, _, hcb⟩ := bls_open hb
  have HA := hid hca
  have HB := hid hcb
  clear hca hcb ha hb
  have hmx1 : ca ≤ 9223372036854775807 := ha2
  have hmx2 : cb ≤ 9223372036854775807 := hb2
  clear ha2 hb2
  by_cases hlen : a.length = b.length
  · have hl1 : ((a.length : Int) == b.length) = true := by simp [hlen]
    have hl2 : ((a.length : Int) != b.length) = false := by simp [hlen]
    have HLEN := hid hlen
    clear hlen
    go_enter Tryd.func17, Tryd.ntmps17
    go_wp2
    go_loopw [5, 13] (fun _ i wr => ∃ k : Nat, k ≤ a.length ∧ i = .int .i64 k ∧ Hid (a.take k = b.take k) ∧ Nw w wr) (fun _ i _ => a.length - (intOf i).toNat)
    case atStart => exact ⟨0, Nat.zero_le _, rfl, hid rfl, Nw.refl _⟩
    case round =>
      obtain ⟨k, hk, rfl, he, hnr⟩ := hrel
      by_cases hlt : k < a.length
      · have hdk : decide (k < a.length) = true := decide_eq_true hlt
        have hlb : k < b.length := by have := HLEN.out; omega
        have hki : (k : Int) < b.length := by omega
        obtain ⟨x, hx⟩ : ∃ x, a[k]? = some x := ⟨a[k], by simp [hlt]⟩
        obtain ⟨y, hy⟩ : ∃ y, b[k]? = some y := ⟨b[k], by simp [hlb]⟩
        have HS := hid (fun e => take_eq_snoc hx hy he.out e)
        have HN := hid (fun (e : x ≠ y) => show decide (a = b) = false from decide_eq_false (fun q => by subst q; rw [hx] at hy; exact e (Option.some.inj hy)))
        obtain ⟨ba, oa, rfl, c0⟩ := bls_cell (HA.out.nw hnr) hx
        obtain ⟨bb, ob, rfl, d0⟩ := bls_cell (HB.out.nw hnr) hy
        clear hx hy
        have z1 := World.block_lt_of_cell? wr _ c0
        have z2 := World.block_lt_of_cell? wr _ d0
        simp only at z1 z2
        cases x
        all_goals
          cases y
        all_goals
          first
            | (have HE := hid (HS.out rfl)
               go_wp2
               go_quiet (fail)
               go_wp2
               go_roundw
               case rel => exact ⟨k + 1, by omega, by go_num, HE, hnr.drewN2 _⟩
               case measure => simp [intOf]; omega)
            | (have HE := hid (HN.out (by decide))
               go_wp2
               go_quiet (fail)
               go_wp2
               go_ret
               exact Gives.b HE.out.symm (hnr.drewN2 _))
      · obtain rfl : k = a.length := by omega
        have hdk : decide (a.length < a.length) = false := decide_eq_false (Nat.lt_irrefl _)
        have HE := hid (show decide (a = b) = true from decide_eq_true (by have := he.out; rwa [List.take_length, HLEN.out, List.take_length] at this))
        go_wp2
        go_ret
        exact Gives.b HE.out.symm hnr
  · have hl1 : ((a.length : Int) == b.length) = false := by simpa using (by omega : ¬ (a.length : Int) = b.length)
    have hl2 : ((a.length : Int) != b.length) = true := by simpa using (by omega : ¬ (a.length : Int) = b.length)
    have HE := hid (show decide (a = b) = false from decide_eq_false (fun q => hlen (by rw [q])))
    clear hlen
    go_enter Tryd.func17, Tryd.ntmps17
    go_wp2
    go_ret
    exact Gives.b HE.out.symm (by repeat (first | assumption | exact Nw.refl _ | refine Nw.alloc ?_ _ | refine Nw.drew ?_ | refine Nw.drewN2 ?_ _ | (refine Nw.trans ?_ (by assumption))))
end Vd
end Go.Proofs.YtlimhggkimnddaaDoor
