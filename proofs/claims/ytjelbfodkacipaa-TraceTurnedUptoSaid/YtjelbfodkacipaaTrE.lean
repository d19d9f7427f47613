/- The contracts of the library's functions on names and ids, and of equality of events and traces. No condition but a text's length. -/
import Derived.Test.YtjelbfodkacipaaTrC
import Derived.Test.YtjelbfodkacipaaTrB
set_option linter.unusedSimpArgs false
set_option linter.unusedVariables false
namespace Go.Proofs.Ytjelbfodkacipaa
open Go.ChangeShapes Go.WideShapes Go.ChangeAt Go.RowKit
namespace Tr
open Go.Proofs.Ytjelbfodkacipaa.Lx (isIn nameB strs_open strs_cell contains_c)
open Go.Proofs.Ytjelbfodkacipaa.Rec (rises i64s_open i64_cell)
/-! ### Clone -/
theorem info_i64 : (Try.prog.info? 3).map (fun i => (i.zero, i.size, i.bytes)) = some (some (.int .i64 0), 1, 8) := by kernel_rfl
theorem info_str : (Try.prog.info? 9).map (fun i => (i.zero, i.size, i.bytes)) = some (some (.string .empty), 1, 16) := by kernel_rfl
theorem nil_i64 (w : World) (a : Option Addr) (n c : Nat) : (binOp .eql 23 (.slice a n c) (.slice none 0 0)).run Try.prog w = .ok (.bool a.isNone) w := Lib.run_eql_slice_nil w 23 3 a n c 0 0 Try.underlying23
theorem nil_str (w : World) (a : Option Addr) (n c : Nat) : (binOp .eql 22 (.slice a n c) (.slice none 0 0)).run Try.prog w = .ok (.bool a.isNone) w := Lib.run_eql_slice_nil w 22 9 a n c 0 0 Try.underlying22
theorem i64s_one (zs : List Int) : ∀ u ∈ i64s zs, u.oneCell' = true := oneCell_map _ (fun _ => rfl) zs
theorem strs_one (l : List ByteArray) : ∀ u ∈ Lx.strs l, u.oneCell' = true := oneCell_map _ (fun _ => rfl) l
/-- A call hands back a slice of its own. -/
def Hands (e0 : TypeId) (w : World) (vs : List Value) (e : Ending) (w' : World) : Prop := ∃ v, e = .returned v ∧ Own w' w.heap.size e0 v vs ∧ Nw w w'
set_option maxRecDepth 20000 in
theorem clonei_c (v : Value) (vs : List Value) (w : World) (hv : Sl w v vs) (h1 : ∀ u ∈ vs, u.oneCell' = true) (hlen : vs.length ≤ 1000000000) : Calls Try.prog 52 #[v] w (Hands 3 w vs) := by
  have hv2 := hv
  obtain ⟨p, cap, rfl, hcap, hmx, hnil, hc⟩ := hv
  have q := nil_i64
  cases p with
  | none =>
    obtain rfl := hnil rfl
    obtain rfl : vs = [] := by cases vs with | nil => rfl | cons y r => simp at hcap
    go_enter Try.func52, Try.ntmps52
    go_wp2
    go_ret
    exact ⟨_, rfl, Own.nil _ _ _, Nw.refl _⟩
  | some a =>
    go_enter Try.func52, Try.ntmps52
    go_wp2_with (first
      | (at_builtin; refine app1 rfl _ _ _ rfl _ _ _ Try.underlying23 info_i64 rfl (by decide) ((Nw.refl w).alloc _) (Own.new w _ _ [] (Nat.le_refl _) (Nat.zero_le _)) rfl (hv2.nw ((Nw.refl w).alloc _)) rfl h1 ?_ ?_; rotate_left; (simp; omega); intro v2 w2 hown2 hg2 hn2))
    go_ret
    exact ⟨_, rfl, by simpa using hown2, hn2⟩

set_option maxRecDepth 20000 in
theorem clones_c (v : Value) (vs : List Value) (w : World) (hv : Sl w v vs) (h1 : ∀ u ∈ vs, u.oneCell' = true) (hlen : vs.length ≤ 1000000000) : Calls Try.prog 73 #[v] w (Hands 9 w vs) := by
  have hv2 := hv
  obtain ⟨p, cap, rfl, hcap, hmx, hnil, hc⟩ := hv
  have q := nil_str
  cases p with
  | none =>
    obtain rfl := hnil rfl
    obtain rfl : vs = [] := by cases vs with | nil => rfl | cons y r => simp at hcap
    go_enter Try.func73, Try.ntmps73
    go_wp2
    go_ret
    exact ⟨_, rfl, Own.nil _ _ _, Nw.refl _⟩
  | some a =>
    go_enter Try.func73, Try.ntmps73
    go_wp2_with (first
      | (at_builtin; refine app1 rfl _ _ _ rfl _ _ _ Try.underlying22 info_str rfl (by decide) ((Nw.refl w).alloc _) (Own.new w _ _ [] (Nat.le_refl _) (Nat.zero_le _)) rfl (hv2.nw ((Nw.refl w).alloc _)) rfl h1 ?_ ?_; rotate_left; (simp; omega); intro v2 w2 hown2 hg2 hn2))
    go_ret
    exact ⟨_, rfl, by simpa using hown2, hn2⟩

/-! ### Equal -/
theorem eq_of_take (a b : List Int) (n : Nat) (h : a.take n = b.take n) (h1 : n < a.length) (h2 : n < b.length) : a.getD n 0 = b.getD n 0 ↔ a.take (n + 1) = b.take (n + 1) := by
  rw [List.take_add_one, List.take_add_one, h, List.append_cancel_left_eq]
  simp [List.getD_eq_getElem?_getD, h1, h2]
theorem eqs_of_take (a b : List ByteArray) (n : Nat) (h : a.take n = b.take n) (h1 : n < a.length) (h2 : n < b.length) : a[n] = b[n] ↔ a.take (n + 1) = b.take (n + 1) := by
  rw [List.take_add_one, List.take_add_one, h, List.append_cancel_left_eq]
  simp [h1, h2]
theorem eqi_c (u v : Value) (a b : List Int) (w : World) (hu : Sl w u (i64s a)) (hv : Sl w v (i64s b)) : Calls Try.prog 57 #[u, v] w (Gives (.bool (decide (a = b))) w) := by
  obtain ⟨p, cap, rfl, hcap, hmx, _, hc⟩ := i64s_open hu
  obtain ⟨p2, cap2, rfl, hcap2, hmx2, _, hc2⟩ := i64s_open hv
  unfold maxLen at hmx hmx2
  have HC := hid hc
  have HC2 := hid hc2
  clear hc hc2 hu hv
  by_cases hl : a.length = b.length
  · have hd : ((a.length : Int) != b.length) = false := by simp [hl]
    have hmx3 : b.length ≤ cap2 := hcap2
    go_enter Try.func57, Try.ntmps57
    go_wp2
    go_loopw [5, 13] (fun _ i wr => ∃ k : Nat, k ≤ a.length ∧ i = .int .i64 k ∧ Hid (a.take k = b.take k) ∧ Nw w wr) (fun _ i _ => a.length - (intOf i).toNat)
    case atStart => exact ⟨0, Nat.zero_le _, rfl, hid rfl, Nw.refl _⟩
    case round =>
      obtain ⟨k, hk, rfl, ht, hn⟩ := hrel
      obtain ⟨hcR, hfR, hzR⟩ := nwc hn
      by_cases hlt : k < a.length
      · have hk2 : k < b.length := by omega
        obtain ⟨b1, o1, rfl, hcell⟩ := i64_cell (HC.out.nw hn) k hlt
        obtain ⟨b2, o2, rfl, hcell2⟩ := i64_cell (HC2.out.nw hn) k hk2
        have hdk : decide (k < a.length) = true := decide_eq_true hlt
        have HT := hid (eq_of_take a b k ht.out hlt hk2)
        by_cases he : a.getD k 0 = b.getD k 0
        · have hde : (a.getD k 0 != b.getD k 0) = false := by rw [he]; simp
          have HN := hid (HT.out.1 he)
          clear ht HT he
          generalize a.getD k 0 = x at *
          generalize b.getD k 0 = y at *
          go_upto_region 6 with fail
          go_quiet (fail)
          go_wp2
          go_roundw
          case rel => exact ⟨k + 1, by omega, by go_num, HN, (by repeat (first | assumption | exact Nw.refl _ | refine Nw.alloc ?_ _ | refine Nw.drew ?_ | refine Nw.drewN2 ?_ _ | (refine Nw.trans ?_ (by assumption))))⟩
          case measure => simp [intOf]; omega
        · have hde : (a.getD k 0 != b.getD k 0) = true := by simp only [bne_iff_ne]; exact he
          have HF := hid (show decide (a = b) = false from decide_eq_false (fun h => he (by simp only [h])))
          clear ht he HT
          generalize a.getD k 0 = x at *
          generalize b.getD k 0 = y at *
          go_upto_region 6 with fail
          go_quiet (fail)
          go_wp2
          go_ret
          exact Gives.b HF.out.symm (by repeat (first | assumption | exact Nw.refl _ | refine Nw.alloc ?_ _ | refine Nw.drew ?_ | refine Nw.drewN2 ?_ _ | (refine Nw.trans ?_ (by assumption))))
      · have hdk : decide (k < a.length) = false := decide_eq_false hlt
        have HF := hid (show decide (a = b) = true from decide_eq_true (by have := ht.out; rwa [List.take_of_length_le (by omega), List.take_of_length_le (by omega)] at this))
        clear ht
        go_wp2
        go_ret
        exact Gives.b HF.out.symm (by repeat (first | assumption | exact Nw.refl _ | refine Nw.alloc ?_ _ | refine Nw.drew ?_ | refine Nw.drewN2 ?_ _ | (refine Nw.trans ?_ (by assumption))))
  · have hd : ((a.length : Int) != b.length) = true := by simp; omega
    have HF := hid (show decide (a = b) = false from decide_eq_false (fun h => hl (by rw [h])))
    go_enter Try.func57, Try.ntmps57
    go_wp2
    go_ret
    exact Gives.b HF.out.symm (by repeat (first | assumption | exact Nw.refl _ | refine Nw.alloc ?_ _ | refine Nw.drew ?_ | refine Nw.drewN2 ?_ _ | (refine Nw.trans ?_ (by assumption))))
theorem eqs_c (u v : Value) (a b : List ByteArray) (w : World) (hu : Sl w u (Lx.strs a)) (hv : Sl w v (Lx.strs b)) : Calls Try.prog 53 #[u, v] w (Gives (.bool (decide (a = b))) w) := by
  obtain ⟨p, cap, rfl, hcap, hmx, _, hc⟩ := strs_open hu
  obtain ⟨p2, cap2, rfl, hcap2, hmx2, _, hc2⟩ := strs_open hv
  unfold maxLen at hmx hmx2
  have HC := hid hc
  have HC2 := hid hc2
  clear hc hc2 hu hv
  by_cases hl : a.length = b.length
  · have hd : ((a.length : Int) != b.length) = false := by simp [hl]
    have hmx3 : b.length ≤ cap2 := hcap2
    go_enter Try.func53, Try.ntmps53
    go_wp2
    go_loopw [5, 13] (fun _ i wr => ∃ k : Nat, k ≤ a.length ∧ i = .int .i64 k ∧ Hid (a.take k = b.take k) ∧ Nw w wr) (fun _ i _ => a.length - (intOf i).toNat)
    case atStart => exact ⟨0, Nat.zero_le _, rfl, hid rfl, Nw.refl _⟩
    case round =>
      obtain ⟨k, hk, rfl, ht, hn⟩ := hrel
      obtain ⟨hcR, hfR, hzR⟩ := nwc hn
      by_cases hlt : k < a.length
      · have hk2 : k < b.length := by omega
        obtain ⟨b1, o1, rfl, hcell⟩ := strs_cell (HC.out.nw hn) k hlt
        obtain ⟨b2, o2, rfl, hcell2⟩ := strs_cell (HC2.out.nw hn) k hk2
        have hdk : decide (k < a.length) = true := decide_eq_true hlt
        have HT := hid (eqs_of_take a b k ht.out hlt hk2)
        by_cases he : a[k] = b[k]
        · have hde : (a[k].toList == b[k].toList) = true := by rw [he]; exact beq_self_eq_true _
          have hde2 : (a[k].toList != b[k].toList) = false := by rw [bne, hde]; rfl
          have HN := hid (HT.out.1 he)
          clear ht HT he
          generalize a[k] = x at *
          generalize b[k] = y at *
          go_upto_region 6 with fail
          go_quiet (fail)
          go_wp2
          go_roundw
          case rel => exact ⟨k + 1, by omega, by go_num, HN, (by repeat (first | assumption | exact Nw.refl _ | refine Nw.alloc ?_ _ | refine Nw.drew ?_ | refine Nw.drewN2 ?_ _ | (refine Nw.trans ?_ (by assumption))))⟩
          case measure => simp [intOf]; omega
        · have hde : (a[k].toList == b[k].toList) = false := by rw [Lx.beq_str]; exact decide_eq_false he
          have hde2 : (a[k].toList != b[k].toList) = true := by rw [bne, hde]; rfl
          have HF := hid (show decide (a = b) = false from decide_eq_false (fun h => he (by subst h; rfl)))
          clear ht he HT
          generalize a[k] = x at *
          generalize b[k] = y at *
          go_upto_region 6 with fail
          go_quiet (fail)
          go_wp2
          go_ret
          exact Gives.b HF.out.symm (by repeat (first | assumption | exact Nw.refl _ | refine Nw.alloc ?_ _ | refine Nw.drew ?_ | refine Nw.drewN2 ?_ _ | (refine Nw.trans ?_ (by assumption))))
      · have hdk : decide (k < a.length) = false := decide_eq_false hlt
        have HF := hid (show decide (a = b) = true from decide_eq_true (by have := ht.out; rwa [List.take_of_length_le (by omega), List.take_of_length_le (by omega)] at this))
        clear ht
        go_wp2
        go_ret
        exact Gives.b HF.out.symm (by repeat (first | assumption | exact Nw.refl _ | refine Nw.alloc ?_ _ | refine Nw.drew ?_ | refine Nw.drewN2 ?_ _ | (refine Nw.trans ?_ (by assumption))))
  · have hd : ((a.length : Int) != b.length) = true := by simp; omega
    have HF := hid (show decide (a = b) = false from decide_eq_false (fun h => hl (by rw [h])))
    go_enter Try.func53, Try.ntmps53
    go_wp2
    go_ret
    exact Gives.b HF.out.symm (by repeat (first | assumption | exact Nw.refl _ | refine Nw.alloc ?_ _ | refine Nw.drew ?_ | refine Nw.drewN2 ?_ _ | (refine Nw.trans ?_ (by assumption))))
end Tr
end Go.Proofs.Ytjelbfodkacipaa
