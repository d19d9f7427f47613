/- Items in memory. No condition but lengths. -/
import Derived.Test.YtlimhggkimnddaaDoorVerB
import Derived.Test.YtlimhggkimnddaaDoorVerC
import Derived.Test.YtlimhggkimnddaaDoorSeq
import Derived.Test.YtlimhggkimnddaaDoorShelf
set_option linter.unusedSimpArgs false
set_option linter.unusedVariables false
namespace Go.Proofs.YtlimhggkimnddaaDoor
open Go.ChangeShapes Go.WideShapes Go.ChangeAt Go.RowKit
namespace Vd
def itc (x : It) : List Value := [.int .i64 x.1, .int .i64 x.2.1, .bool x.2.2.1, .int .i64 x.2.2.2]
def itv (x : It) : Value := .agg #[.int .i64 x.1, .int .i64 x.2.1, .bool x.2.2.1, .int .i64 x.2.2.2]
def itl (l : List It) : List Value := l.flatMap itc
theorem itl_snoc (l : List It) (x : It) : itl (l ++ [x]) = itl l ++ itc x := by simp [itl]
theorem itl_app (l r : List It) : itl (l ++ r) = itl l ++ itl r := by simp [itl]
theorem itl_cons (x : It) (r : List It) : itl (x :: r) = .int .i64 x.1 :: .int .i64 x.2.1 :: .bool x.2.2.1 :: .int .i64 x.2.2.2 :: itl r := rfl
theorem itl_len (l : List It) : (itl l).length = l.length * 4 := by
  induction l with
  | nil => rfl
  | cons t r ih => rw [itl_cons]; simp only [List.length_cons, ih]; omega
theorem itl_at : ∀ (l : List It) (i : Nat) (x : It), l[i]? = some x → (itl l)[i * 4]? = some (.int .i64 x.1) ∧ (itl l)[i * 4 + 1]? = some (.int .i64 x.2.1) ∧ (itl l)[i * 4 + 2]? = some (.bool x.2.2.1) ∧ (itl l)[i * 4 + 3]? = some (.int .i64 x.2.2.2)
  | [], i, x, h => by cases h
  | y :: r, 0, x, h => by
    cases h
    rw [itl_cons]
    exact ⟨rfl, rfl, rfl, rfl⟩
  | y :: r, i + 1, x, h => by
    have := itl_at r i x h
    rw [itl_cons, show (i + 1) * 4 = i * 4 + 1 + 1 + 1 + 1 by omega]
    exact this
def IC (w : World) (p : Option Addr) (l : List It) : Prop :=
  ∀ i x, l[i]? = some x → ∃ b oo, p = some ⟨b, oo, none⟩ ∧ w.cell? ⟨b, oo + i * 4, none⟩ = some (.int .i64 x.1) ∧ w.cell? ⟨b, oo + i * 4 + 1, none⟩ = some (.int .i64 x.2.1) ∧ w.cell? ⟨b, oo + i * 4 + 2, none⟩ = some (.bool x.2.2.1) ∧ w.cell? ⟨b, oo + i * 4 + 3, none⟩ = some (.int .i64 x.2.2.2)
theorem IC.nw {w w' : World} {p : Option Addr} {l : List It} (h : IC w p l) (hn : Nw w w') : IC w' p l := fun i x hx => by
  obtain ⟨b, oo, e, h1, h2, h3, h4⟩ := h i x hx
  exact ⟨b, oo, e, hn.cell h1, hn.cell h2, hn.cell h3, hn.cell h4⟩
def Its (w : World) (v : Value) (l : List It) : Prop := ∃ p cap, v = .slice p l.length cap ∧ l.length ≤ cap ∧ cap ≤ maxLen ∧ (p = none → cap = 0) ∧ IC w p l
theorem Its.nw {w w' : World} {v : Value} {l : List It} (h : Its w v l) (hn : Nw w w') : Its w' v l := by
  obtain ⟨p, cap, e, h1, h2, h3, h4⟩ := h
  exact ⟨p, cap, e, h1, h2, h3, h4.nw hn⟩
theorem Its.nil (w : World) : Its w (.slice none 0 0) [] := ⟨none, 0, rfl, Nat.le_refl _, Nat.zero_le _, fun _ => rfl, fun i x h => by cases h⟩
theorem Its.open {w : World} {v : Value} {l : List It} {n : Nat} (h : Its w v l) (hn : l.length = n) : ∃ p cap, v = .slice p n cap ∧ n ≤ cap ∧ cap ≤ maxLen ∧ (p = none → cap = 0) ∧ IC w p l := by
  subst hn
  exact h
theorem info_item : (Tryd.prog.info? 30).map (fun i => (i.zero, i.size, i.bytes)) = some (some (.agg #[.int .i64 0, .int .i64 0, .bool false, .int .i64 0]), 4, 32) := by kernel_rfl
/-- A row of items of the call's own. -/
def IOwn (w : World) (B : Nat) (v : Value) (l : List It) : Prop := w.ownsRow B 30 4 v l.length (itl l)
theorem IOwn.nil (w : World) (B : Nat) : IOwn w B (.slice none 0 0) [] := World.ownsRow_nil w B _ 4
theorem IOwn.nw {w w' : World} {B : Nat} {v : Value} {l : List It} (h : IOwn w B v l) (hn : Nw w w') : IOwn w' B v l := hn.ownsRow h
theorem IOwn.its {w : World} {B : Nat} {v : Value} {l : List It} (h : IOwn w B v l) : Its w v l := by
  rcases h.2 with ⟨rfl, hn⟩ | ⟨g, cap, cur, rfl, hb, hg, hn, hm, hs, ht⟩
  · obtain rfl : l = [] := List.length_eq_zero_iff.1 hn
    exact Its.nil w
  · refine ⟨some ⟨g, 0, none⟩, cap, rfl, hn, hm, (fun h => by cases h), fun i x hi => ?_⟩
    obtain ⟨c1, c2, c3, c4⟩ := itl_at l i x hi
    have a1 := World.ownsRow.cells (g := g) h rfl (i * 4) _ c1
    have a2 := World.ownsRow.cells (g := g) h rfl (i * 4 + 1) _ c2
    have a3 := World.ownsRow.cells (g := g) h rfl (i * 4 + 2) _ c3
    have a4 := World.ownsRow.cells (g := g) h rfl (i * 4 + 3) _ c4
    rw [addr_add] at a1 a2 a3 a4
    exact ⟨g, 0, rfl, a1, by rw [Nat.add_assoc]; exact a2, by rw [Nat.add_assoc]; exact a3, by rw [Nat.add_assoc]; exact a4⟩
theorem IOwn.lt {w : World} {B : Nat} {v : Value} {l : List It} (h : IOwn w B v l) : ∀ k, v.ownBlock = some k → B ≤ k ∧ k < w.heap.size := fun k hk => World.ownsRow.lt h k hk
/-- 's = append(s, x)', elements of several cells, s owned from B on, x a row of one element. -/
theorem appk {P : Program} {w : World} {ops : Array Oper} {rest : List Oper} {o : Oper} {a : Act} {Q : Exit → Act → World → Prop} (hgd : o.guard = none) (s x : Operand) (t : TypeId) (ho : o.op = .call { callee := .builtin .append, args := #[s, x], argTypes := #[t, t] })
    (e : TypeId) (z : Value) (size bytes : Nat) (ht : P.underlying t = some (.slice e)) (hinfo : (P.info? e).map (fun i => (i.zero, i.size, i.bytes)) = some (some z, size, bytes)) (hz : z.cells.size = size) (hs0 : 0 < size) (hby : bytes ≤ 128)
    {B : Nat} (hB : B ≤ w.heap.size) {v : Value} {n : Nat} {xs : List Value} (hown : w.ownsRow B e size v n xs) (hs : a.eval s = v) {ad : Addr} {c : Nat} {news : List Value} (hx : a.eval x = .slice (some ad) 1 c) (hl : news.length = size)
    (hu : Cells w (some ad) news) (h1 : ∀ u ∈ news, u.oneCell' = true)
    (h : ∀ v' w', w'.ownsRow B e size v' (n + 1) (xs ++ news) → Mods (B ≤ ·) w w' → wpList P ops Q rest (a.put o.dst v') w')
    (h63 : n + 1 ≤ 1099511627776) : wpList P ops Q (o :: rest) a w := by
  obtain ⟨i, hi, hz0, hz1, hz2⟩ := info_parts hinfo
  refine wpList_append_own (w := w) hgd s x t ho B e i z size bytes ht hi hz0 hz1 hz2 hz hs0 v n xs hs hown ad 1 c news hx (by omega) (fun j y hj => ?_) h1 (by unfold maxLen; omega) ?_ hB (fun v' w' h2 h3 _ => ?_)
  · obtain ⟨hjl, rfl⟩ := List.getElem?_eq_some_iff.1 hj
    obtain ⟨b, off, e1, hcell⟩ := hu j hjl
    cases e1
    rw [addr_add]; exact hcell
  · have := Nat.mul_le_mul h63 hby; omega
  · exact h v' w' h2 ⟨h3.os, h3.tape, h3.output, h3.size, fun k hk hs => h3.block k hk (fun e => hs ((World.ownsRow.lt hown k e.symm).1))⟩
theorem cells_newAt (w : World) (vs : List Value) (e : TypeId) (fr : Nat × Nat) (g : Nat) (hg : g = w.heap.size) : Cells (w.alloc (.cells vs.toArray e fr)) (some ⟨g, 0, none⟩) vs := fun i hi => by
  subst hg
  exact ⟨w.heap.size, 0, rfl, by rw [cell_new w vs.toArray e fr i (by simpa using hi)]; simp⟩
/-- 's = append(s, x)' for a row of items of the call's own. -/
theorem appI {w : World} {ops : Array Oper} {rest : List Oper} {o : Oper} {a : Act} {Q : Exit → Act → World → Prop} {fr : Nat × Nat} (hgd : o.guard = none) (s x : Operand) (t : TypeId) (ho : o.op = .call { callee := .builtin .append, args := #[s, x], argTypes := #[t, t] })
    (ht : Tryd.prog.underlying t = some (.slice 30)) {B g : Nat} {v : Value} {l : List It} (y : It) {c0 c1 c2 c3 : Value} (hc : [c0, c1, c2, c3] = itc y) (hown : IOwn w B v l) (hB : B ≤ w.heap.size) (hs : a.eval s = v) (hx : a.eval x = .slice (some ⟨g, 0, none⟩) 1 1) (hg : g = w.heap.size)
    (h : ∀ v' w', IOwn w' B v' (l ++ [y]) → Mods (B ≤ ·) w w' → wpList Tryd.prog ops Q rest (a.put o.dst v') w') (h63 : l.length + 1 ≤ 1099511627776) :
    wpList Tryd.prog ops Q (o :: rest) a (w.alloc (.cells #[c0, c1, c2, c3] 30 fr)) := by
  have hnA := (Nw.refl w).alloc (.cells #[c0, c1, c2, c3] 30 fr)
  refine appk hgd s x t ho _ _ _ _ ht info_item rfl (by decide) (by decide) (Nat.le_trans hB hnA.size) (hnA.ownsRow hown) hs hx (show [c0, c1, c2, c3].length = 4 from rfl) (cells_newAt w [c0, c1, c2, c3] _ _ _ hg) ?_ ?_ h63
  · rw [hc]; simp [itc, Value.oneCell']
  · intro v' w' k1 k2
    refine h v' w' ?_ ⟨k2.os, k2.tape, k2.output, Nat.le_trans hnA.size k2.size, fun k hk hs => (k2.block k (Nat.lt_of_lt_of_le hk hnA.size) hs).trans (hnA.block k hk)⟩
    unfold IOwn
    rw [itl_snoc, List.length_append, List.length_singleton, ← hc]
    exact k1
end Vd
end Go.Proofs.YtlimhggkimnddaaDoor
