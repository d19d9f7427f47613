/- Tokens, the plain side: which tokens a text has, or where it is wrong; rows of tokens that a call owns, and the append to them. No program in sight but the tokens' type. -/
import Derived.Test.YtfbokhodcgpppaaDoorLexD
namespace Go.Proofs.YtfbokhodcgpppaaDoor
open Go.ChangeShapes Go.WideShapes Go.ChangeAt Go.RowKit
/-- 's = append(s, x)', elements of several cells, s owned from B on, x a row of one element. -/
theorem appk {P : Program} {w : World} {ops : Array Oper} {rest : List Oper} {o : Oper} {a : Act} {Q : Exit → Act → World → Prop} (hgd : o.guard = none) (s x : Operand) (t : TypeId) (ho : o.op = .call { callee := .builtin .append, args := #[s, x], argTypes := #[t, t] })
    (e : TypeId) (z : Value) (size bytes : Nat) (ht : P.underlying t = some (.slice e)) (hinfo : (P.info? e).map (fun i => (i.zero, i.size, i.bytes)) = some (some z, size, bytes)) (hz : z.cells.size = size) (hs0 : 0 < size) (hby : bytes ≤ 128)
    {B : Nat} (hB : B ≤ w.heap.size) {v : Value} {n : Nat} {xs : List Value} (hown : w.ownsRow B e size v n xs) (hs : a.eval s = v) {ad : Addr} {c : Nat} {news : List Value} (hx : a.eval x = .slice (some ad) 1 c) (hl : news.length = size)
    (hu : Cells w (some ad) news) (h1 : ∀ u ∈ news, u.oneCell' = true)
    (h : ∀ v' w', w'.ownsRow B e size v' (n + 1) (xs ++ news) → Mods (B ≤ ·) w w' → wpList P ops Q rest (a.put o.dst v') w')
    (h63 : n + 1 ≤ 1099511627776) : wpList P ops Q (o :: rest) a w := by
  obtain ⟨i, hi, hz0, hz1, hz2⟩ := info_parts hinfo
  refine wpList_append_own (w := w) hgd s x t ho B e i z size bytes ht hi hz0 hz1 hz2 hz hs0 v n xs hs hown ad 1 c news hx (by omega) (fun j y hj => ?_) h1 (by unfold maxLen; omega) ?_ hB (fun v' w' h2 h3 _ => ?_)
  · obtain ⟨hjl, rfl⟩ := List.getElem?_eq_some_iff.1 hj
    obtain ⟨b, off, e1, hcell⟩ := hu j hjl
    cases e1
    rw [addr_add]; exact hcell
  · have := Nat.mul_le_mul h63 hby; omega
  · exact h v' w' h2 ⟨h3.os, h3.tape, h3.output, h3.size, fun k hk hs => h3.block k hk (fun e => hs ((World.ownsRow.lt hown k e.symm).1))⟩
namespace Lx
structure Tk where
  kind : Int
  text : List UInt8
  num : Int
  at_ : Nat
def tkv (t : Tk) : List Value := [.int .i64 t.kind, .string ⟨t.text.toArray⟩, .int .i64 t.num, .int .i64 (t.at_ : Int)]
def tkl (l : List Tk) : List Value := l.flatMap tkv
theorem tkl_snoc (l : List Tk) (t : Tk) : tkl (l ++ [t]) = tkl l ++ tkv t := by simp [tkl]
theorem tkl_len (l : List Tk) : (tkl l).length = l.length * 4 := by
  induction l with
  | nil => rfl
  | cons t r ih => rw [tkl, List.flatMap_cons, List.length_append, ← tkl, ih, List.length_cons]; simp [tkv]; omega
def signs : List UInt8 := [40, 41, 91, 93, 123, 125, 44, 42, 46, 63, 43, 59, 33, 38, 124]
def numOf (l : List UInt8) : Int := l.foldl (fun v c => 10 * v + ((c.toNat : Int) - 48)) 0
def cut (bs : List UInt8) (a b : Nat) : List UInt8 := (bs.drop a).take (b - a)
/-- The token at a place, and how long it is. -/
def tokAt (bs : List UInt8) (k : Nat) (x : UInt8) : Option (Tk × Nat) :=
  if sm x = true then (if 16 < fin mo bs k - k then none else some (⟨1, cut bs k (fin mo bs k), 0, k⟩, fin mo bs k - k))
  else if dg x = true then (if 4 < fin dg bs k - k ∨ (x = 48 ∧ 1 < fin dg bs k - k) then none else some (⟨2, [], numOf (cut bs k (fin dg bs k)), k⟩, fin dg bs k - k))
  else if x ∈ signs then some (⟨3, [x], 0, k⟩, 1)
  else if x = 45 ∧ bs[k + 1]? = some 62 then some (⟨3, [45, 62], 0, k⟩, 2)
  else none
abbrev Res := List Tk × Nat × Int
def lexGo (bs : List UInt8) : Nat → Nat → List Tk → Res
  | 0, _, acc => (acc, 0, 0)
  | f + 1, k, acc =>
    match bs[k]? with
    | none => (acc ++ [⟨0, [], 0, bs.length⟩], 0, 0)
    | some x => if x = 32 ∨ x = 10 then lexGo bs f (k + 1) acc else match tokAt bs k x with
      | none => ([], k, 2)
      | some (t, n) => lexGo bs f (k + n) (acc ++ [t])
def lexP (bs : List UInt8) : Res := if 2000 < bs.length then ([], 0, 4) else lexGo bs (bs.length + 1) 0 []
theorem fin_lt (P : UInt8 → Bool) (bs : List UInt8) (k : Nat) (x : UInt8) (h : bs[k]? = some x) (hp : P x = true) : k < fin P bs k := by
  obtain ⟨hk, _⟩ := List.getElem?_eq_some_iff.1 h
  rw [fin_step P bs k x h hp]
  have := (fin_le P bs (k + 1) (by omega)).1
  omega
theorem sm_mo {x : UInt8} (h : sm x = true) : mo x = true := by unfold mo; rw [h]; rfl
/-- A token is at least one byte long, and ends in the text. -/
theorem tok_size {bs : List UInt8} {k n : Nat} {x : UInt8} {t : Tk} (hx : bs[k]? = some x) (h : tokAt bs k x = some (t, n)) : 0 < n ∧ k + n ≤ bs.length := by
  obtain ⟨hk, _⟩ := List.getElem?_eq_some_iff.1 hx
  unfold tokAt at h
  split at h
  · rename_i h1
    split at h
    · cases h
    · simp only [Option.some.injEq, Prod.mk.injEq] at h
      have h2 := fin_lt mo bs k x hx (sm_mo h1)
      have h3 := (fin_le mo bs k (by omega)).2
      omega
  · split at h
    · rename_i h1
      split at h
      · cases h
      · simp only [Option.some.injEq, Prod.mk.injEq] at h
        have h2 := fin_lt dg bs k x hx h1
        have h3 := (fin_le dg bs k (by omega)).2
        omega
    · split at h
      · simp only [Option.some.injEq, Prod.mk.injEq] at h
        omega
      · split at h
        · rename_i h1
          simp only [Option.some.injEq, Prod.mk.injEq] at h
          obtain ⟨h2, _⟩ := List.getElem?_eq_some_iff.1 h1.2
          omega
        · cases h
/-- The loop's step. -/
theorem go_end (bs : List UInt8) (f k : Nat) (acc : List Tk) (hk : bs.length ≤ k) : lexGo bs (f + 1) k acc = (acc ++ [⟨0, [], 0, bs.length⟩], 0, 0) := by
  unfold lexGo; rw [List.getElem?_eq_none hk]
theorem go_blank (bs : List UInt8) (f k : Nat) (acc : List Tk) (x : UInt8) (hx : bs[k]? = some x) (h : x = 32 ∨ x = 10) : lexGo bs (f + 1) k acc = lexGo bs f (k + 1) acc := by
  rw [lexGo, hx]; simp only; rw [if_pos h]
theorem go_none (bs : List UInt8) (f k : Nat) (acc : List Tk) (x : UInt8) (hx : bs[k]? = some x) (h : ¬ (x = 32 ∨ x = 10)) (ht : tokAt bs k x = none) : lexGo bs (f + 1) k acc = ([], k, 2) := by
  rw [lexGo, hx]; simp only; rw [if_neg h, ht]
theorem go_tok (bs : List UInt8) (f k n : Nat) (acc : List Tk) (x : UInt8) (t : Tk) (hx : bs[k]? = some x) (h : ¬ (x = 32 ∨ x = 10)) (ht : tokAt bs k x = some (t, n)) : lexGo bs (f + 1) k acc = lexGo bs f (k + n) (acc ++ [t]) := by
  rw [lexGo, hx]; simp only; rw [if_neg h, ht]
theorem info_tok : (Tryd.prog.info? 29).map (fun i => (i.zero, i.size, i.bytes)) = some (some (.agg #[.int .i64 0, .string .empty, .int .i64 0, .int .i64 0]), 4, 40) := by kernel_rfl
end Lx
end Go.Proofs.YtfbokhodcgpppaaDoor
