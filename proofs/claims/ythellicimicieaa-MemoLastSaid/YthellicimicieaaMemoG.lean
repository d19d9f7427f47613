/- The contracts of Cells and New, both. No condition but lengths. -/
import Derived.Test.YthellicimicieaaMemoF
set_option linter.unusedSimpArgs false
set_option linter.unusedVariables false
namespace Go.Proofs.Ythellicimicieaa
open Go.ChangeShapes Go.WideShapes Go.ChangeAt Go.RowKit
namespace Mm
open Go.Proofs.Ythellicimicieaa.Words (Wd trim Set ws same same_c samewords_c rtrim_c HandsW)
theorem cells_take_le (l : List En) (k : Nat) : cells (l.take k) ≤ cells l := by
  induction l generalizing k with
  | nil => simp
  | cons n r ih =>
    cases k with
    | zero => exact Nat.zero_le _
    | succ k =>
      have := ih k
      unfold cells at *
      simp only [List.take_succ_cons, List.map_cons, List.sum_cons]
      omega
set_option maxRecDepth 20000 in
set_option maxHeartbeats 1600000 in
theorem cells_c (P : Nat → Prop) (B a : Nat) (u : Value) (f : Nat → V3) (m : Me) (w : World) (hm : MI w P B a u f m) :
    Calls Try.prog 30 #[.pointer (some ⟨a, 0, none⟩)] w (Gives (.int .i64 (cells m.l : Int)) w) := by
  have HSH := hid (fun i (hi : i < m.l.length) => And.intro (hm.row.sets i hi).1.open (And.intro (hm.row.sets i hi).2.1.open (hm.row.sets i hi).2.2.open))
  obtain ⟨p, cap, rfl, hcap, hmx, _, hc⟩ := row_open hm.row
  unfold maxLen at hmx
  have HC := hid hc
  have y := hm.blk
  have hlen : m.l.length ≤ 4096 := Nat.le_trans hm.ok.len hm.ok.r1
  have hcl := cells_le m.l hm.ok.en
  have HTK := hid (cells_take m.l)
  have HTL := hid (cells_take_le m.l)
  have HTA := hid (show cells (m.l.take m.l.length) = cells m.l by rw [List.take_length])
  have HEN := hid hm.ok.en
  generalize m.l = l at *
  generalize (m.room : Int) = mr at *
  generalize (m.hand : Int) = mh at *
  clear hc hm
  have e2 := heap_cell y 1
  simp only [List.getElem?_toArray, List.getElem?_cons_succ, List.getElem?_cons_zero] at e2
  have ga := lt_of_heap y
  generalize cells l = ca at *
  have hca : ca ≤ 20000000 := by omega
  clear hcl y
  go_enter Try.func30, Try.ntmps30
  go_upto_region 5 with fail
  go_loopw [3, 5, 13] (fun n _ i wr => ∃ k : Nat, k ≤ l.length ∧ n = .int .i64 (cells (l.take k) : Int) ∧ i = .int .i64 k ∧ Nw w wr) (fun _ _ i _ => l.length - (intOf i).toNat)
  case atStart => exact ⟨0, Nat.zero_le _, rfl, rfl, Nw.refl _⟩
  case round =>
    obtain ⟨k, hk, rfl, rfl, hn⟩ := hrel
    by_cases hlt : k < l.length
    · have hdk : decide (k < l.length) = true := decide_eq_true hlt
      obtain ⟨g, rfl, c0, c1, c2, c3, c4⟩ := HC.out k hlt
      replace c0 := hn.cell c0
      replace c1 := hn.cell c1
      replace c2 := hn.cell c2
      replace c3 := hn.cell c3
      replace c4 := hn.cell c4
      have gg := World.block_lt_of_cell? wr _ c0
      simp only at gg
      obtain ⟨⟨q1, d1, e1, _⟩, ⟨q2, d2, e2', _⟩, q3, d3, e3', _⟩ := HSH.out k hlt
      have hst := HTK.out k hlt
      have hb0 := HTL.out k
      have hb1 := HTL.out (k + 1)
      have hen := HEN.out k hlt
      generalize f k = z at *
      obtain ⟨z1, z2, z3⟩ := z
      dsimp only at c0 c1 c2 e1 e2' e3'
      subst e1
      subst e2'
      subst e3'
      generalize at_ l k = n at *
      have l1 := hen.ls
      have l2 := hen.lv
      have l3 := hen.lx
      clear hen
      obtain ⟨ns, nv, nx, ne, nk⟩ := n
      dsimp only at c0 c1 c2 c3 c4 hst l1 l2 l3
      have HST := hid hst
      clear hst
      generalize cells (l.take k) = ck at *
      obtain ⟨ck1, hck1⟩ : ∃ x, x = cells (l.take (k + 1)) := ⟨_, rfl⟩
      rw [← hck1] at hb1 HST
      have HK1 := hid hck1
      clear hck1
      generalize ns.length = n1 at *
      generalize nv.length = n2 at *
      generalize nx.length = n3 at *
      go_upto_region 7 with fail
      obtain ⟨x0, x1, x2, x3, x4, hz, hnA⟩ := box5 wr (.slice q1 n1 d1) (.slice q2 n2 d2) (.slice q3 n3 d3) (.bool ne) (.bool nk) 82
      generalize wr.alloc (.cells #[.slice q1 n1 d1, .slice q2 n2 d2, .slice q3 n3 d3, .bool ne, .bool nk] 82) = w0 at *
      have hn0 := hn.trans hnA
      clear c0 c1 c2 c3 c4 hnA hn e2 HC HSH
      generalize wr.heap.size = g8 at *
      go_wp2
      go_roundw
      case rel => exact ⟨k + 1, by omega, by have := HST.out; rw [← HK1.out]; congr 1; omega, by go_num, hn0⟩
      case measure => (simp [intOf] <;> omega)
    · obtain rfl : k = l.length := by omega
      have hdk : decide (l.length < l.length) = false := decide_eq_false (by omega)
      rw [HTA.out]
      go_wp2
      go_ret
      exact ⟨rfl, hn⟩

set_option maxRecDepth 20000 in
set_option maxHeartbeats 1600000 in
theorem rcells_c (P : Nat → Prop) (B a : Nat) (u : Value) (f : Nat → V3) (m : Me) (w : World) (hm : RI w P B a u f m) :
    Calls Try.prog 48 #[.pointer (some ⟨a, 0, none⟩)] w (Gives (.int .i64 (cells m.l : Int)) w) := by
  have HSH := hid (fun i (hi : i < m.l.length) => And.intro (hm.row.sets i hi).1.open (And.intro (hm.row.sets i hi).2.1.open (hm.row.sets i hi).2.2.open))
  obtain ⟨p, cap, rfl, hcap, hmx, _, hc⟩ := row_open hm.row
  unfold maxLen at hmx
  have HC := hid hc
  have y := hm.blk
  have hlen : m.l.length ≤ 4096 := Nat.le_trans hm.ok.len hm.ok.r1
  have hcl := cells_le m.l hm.ok.en
  have HTK := hid (cells_take m.l)
  have HTL := hid (cells_take_le m.l)
  have HTA := hid (show cells (m.l.take m.l.length) = cells m.l by rw [List.take_length])
  have HEN := hid hm.ok.en
  generalize m.l = l at *
  generalize (m.room : Int) = mr at *
  generalize (m.hand : Int) = mh at *
  clear hc hm
  have e2 := heap_cell y 2
  simp only [List.getElem?_toArray, List.getElem?_cons_succ, List.getElem?_cons_zero] at e2
  have ga := lt_of_heap y
  generalize cells l = ca at *
  have hca : ca ≤ 20000000 := by omega
  clear hcl y
  go_enter Try.func48, Try.ntmps48
  go_upto_region 3 with fail
  go_loopw [3, 5, 11] (fun n _ i wr => ∃ k : Nat, k ≤ l.length ∧ n = .int .i64 (cells (l.take k) : Int) ∧ i = .int .i64 k ∧ Nw w wr) (fun _ _ i _ => l.length - (intOf i).toNat)
  case atStart => exact ⟨0, Nat.zero_le _, rfl, rfl, Nw.refl _⟩
  case round =>
    obtain ⟨k, hk, rfl, rfl, hn⟩ := hrel
    by_cases hlt : k < l.length
    · have hdk : decide (k < l.length) = true := decide_eq_true hlt
      obtain ⟨g, rfl, c0, c1, c2, c3, c4⟩ := HC.out k hlt
      replace c0 := hn.cell c0
      replace c1 := hn.cell c1
      replace c2 := hn.cell c2
      replace c3 := hn.cell c3
      replace c4 := hn.cell c4
      have gg := World.block_lt_of_cell? wr _ c0
      simp only at gg
      obtain ⟨⟨q1, d1, e1, _⟩, ⟨q2, d2, e2', _⟩, q3, d3, e3', _⟩ := HSH.out k hlt
      have hst := HTK.out k hlt
      have hb0 := HTL.out k
      have hb1 := HTL.out (k + 1)
      have hen := HEN.out k hlt
      generalize f k = z at *
      obtain ⟨z1, z2, z3⟩ := z
      dsimp only at c0 c1 c2 e1 e2' e3'
      subst e1
      subst e2'
      subst e3'
      generalize at_ l k = n at *
      have l1 := hen.ls
      have l2 := hen.lv
      have l3 := hen.lx
      clear hen
      obtain ⟨ns, nv, nx, ne, nk⟩ := n
      dsimp only at c0 c1 c2 c3 c4 hst l1 l2 l3
      have HST := hid hst
      clear hst
      generalize cells (l.take k) = ck at *
      obtain ⟨ck1, hck1⟩ : ∃ x, x = cells (l.take (k + 1)) := ⟨_, rfl⟩
      rw [← hck1] at hb1 HST
      have HK1 := hid hck1
      clear hck1
      generalize ns.length = n1 at *
      generalize nv.length = n2 at *
      generalize nx.length = n3 at *
      go_upto_region 5 with fail
      obtain ⟨x0, x1, x2, x3, x4, hz, hnA⟩ := box5 wr (.slice q1 n1 d1) (.slice q2 n2 d2) (.slice q3 n3 d3) (.bool ne) (.bool nk) 87
      generalize wr.alloc (.cells #[.slice q1 n1 d1, .slice q2 n2 d2, .slice q3 n3 d3, .bool ne, .bool nk] 87) = w0 at *
      have hn0 := hn.trans hnA
      clear c0 c1 c2 c3 c4 hnA hn e2 HC HSH
      generalize wr.heap.size = g8 at *
      go_wp2
      go_roundw
      case rel => exact ⟨k + 1, by omega, by have := HST.out; rw [← HK1.out]; congr 1; omega, by go_num, hn0⟩
      case measure => (simp [intOf] <;> omega)
    · obtain rfl : k = l.length := by omega
      have hdk : decide (l.length < l.length) = false := decide_eq_false (by omega)
      rw [HTA.out]
      go_wp2
      go_ret
      exact ⟨rfl, hn⟩

/-! ### New -/
def rm (room : Int) : Nat := (min (max room 1) 4096).toNat
theorem rm_bd (room : Int) : 1 ≤ rm room ∧ rm room ≤ 4096 ∧ min (max room 1) 4096 = (rm room : Int) := by unfold rm; omega
def noV : Nat → V3 := fun _ => (.slice none 0 0, .slice none 0 0, .slice none 0 0)
def NewO (w : World) (P : Nat → Prop) (room : Int) (e : Ending) (w' : World) : Prop :=
  ∃ a, e = .returned (.pointer (some ⟨a, 0, none⟩)) ∧ w.heap.size ≤ a ∧ a < w'.heap.size ∧ Nw w w' ∧ MI w' (fun k => P k ∨ k = a) a a (.slice none 0 0) noV ⟨rm room, [], 0⟩
def RNewO (w : World) (P : Nat → Prop) (room : Int) (e : Ending) (w' : World) : Prop :=
  ∃ a, e = .returned (.pointer (some ⟨a, 0, none⟩)) ∧ w.heap.size ≤ a ∧ a < w'.heap.size ∧ Nw w w' ∧ RI w' (fun k => P k ∨ k = a) a a (.slice none 0 0) noV ⟨rm room, [], 0⟩
theorem row_none (w : World) (P : Nat → Prop) (B : Nat) (t : TypeId) : Row w P B t (.slice none 0 0) noV [] :=
  Row.of (World.ownsRow_nil w B t 5) (fun k hk => by cases hk) (fun i hi => by cases hi)
theorem new_o (w : World) (P : Nat → Prop) (room r : Int) (h : r = (rm room : Int)) : NewO w P room (.returned (.pointer (some ⟨w.heap.size, 0, none⟩))) (w.alloc (.cells #[.int .i64 r, .slice none 0 0, .int .i64 0] 76)) := by
  subst h
  obtain ⟨h0, h1, _⟩ := rm_bd room
  exact ⟨_, rfl, Nat.le_refl _, lt_alloc _ _, (Nw.refl w).alloc _, heap_new w _, Nat.le_refl _, Or.inr rfl, row_none _ _ _ _, new_mem_ok h0 h1⟩
theorem rnew_o (w : World) (P : Nat → Prop) (room r : Int) (h : r = (rm room : Int)) : RNewO w P room (.returned (.pointer (some ⟨w.heap.size, 0, none⟩))) (w.alloc (.cells #[.int .i64 r, .int .i64 0, .slice none 0 0] 80)) := by
  subst h
  obtain ⟨h0, h1, _⟩ := rm_bd room
  exact ⟨_, rfl, Nat.le_refl _, lt_alloc _ _, (Nw.refl w).alloc _, heap_new w _, Nat.le_refl _, Or.inr rfl, row_none _ _ _ _, new_mem_ok h0 h1⟩
set_option maxRecDepth 20000 in
theorem new_c (P : Nat → Prop) (room : Int) (w : World) : Calls Try.prog 21 #[.int .i64 room] w (NewO w P room) := by
  obtain ⟨h0, h1, h2⟩ := rm_bd room
  go_enter Try.func21, Try.ntmps21
  go_wp2
  all_goals go_ret
  all_goals exact new_o w P room _ (by omega)
set_option maxRecDepth 20000 in
theorem rnew_c (P : Nat → Prop) (room : Int) (w : World) : Calls Try.prog 23 #[.int .i64 room] w (RNewO w P room) := by
  obtain ⟨h0, h1, h2⟩ := rm_bd room
  go_enter Try.func23, Try.ntmps23
  go_wp2
  all_goals go_ret
  all_goals exact rnew_o w P room _ (by omega)
end Mm
end Go.Proofs.Ythellicimicieaa
