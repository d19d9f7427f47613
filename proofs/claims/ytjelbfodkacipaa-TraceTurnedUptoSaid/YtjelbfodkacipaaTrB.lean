/- Rows of events that a call builds, each event's ids in a block of their own: the append to them. No program in sight but the types. -/
import Derived.Test.YtjelbfodkacipaaTrA
import Derived.Maps.AppendAt
set_option linter.unusedSimpArgs false
set_option linter.unusedVariables false
namespace Go.Proofs.Ytjelbfodkacipaa
open Go.ChangeShapes Go.WideShapes Go.ChangeAt Go.RowKit
/-- 's = append(s, x)', elements of several cells, s owned from B on, x a row of one element; where the new row lies. -/
theorem appat {P : Program} {w : World} {ops : Array Oper} {rest : List Oper} {o : Oper} {a : Act} {Q : Exit → Act → World → Prop} (hgd : o.guard = none) (s x : Operand) (t : TypeId) (ho : o.op = .call { callee := .builtin .append, args := #[s, x], argTypes := #[t, t] })
    (e : TypeId) (z : Value) (size bytes : Nat) (ht : P.underlying t = some (.slice e)) (hinfo : (P.info? e).map (fun i => (i.zero, i.size, i.bytes)) = some (some z, size, bytes)) (hz : z.cells.size = size) (hs0 : 0 < size) (hby : bytes ≤ 128)
    {B : Nat} (hB : B ≤ w.heap.size) {v : Value} {n : Nat} {xs : List Value} (hown : w.ownsRow B e size v n xs) (hs : a.eval s = v) {ad : Addr} {c : Nat} {news : List Value} (hx : a.eval x = .slice (some ad) 1 c) (hl : news.length = size)
    (hu : Cells w (some ad) news) (h1 : ∀ u ∈ news, u.oneCell' = true)
    (h : ∀ v' w', w'.ownsRow B e size v' (n + 1) (xs ++ news) → w.grownBy w' v.ownBlock → (v'.ownBlock = v.ownBlock ∨ v'.ownBlock = some w.heap.size) → wpList P ops Q rest (a.put o.dst v') w')
    (h63 : n + 1 ≤ 1099511627776) : wpList P ops Q (o :: rest) a w := by
  obtain ⟨i, hi, hz0, hz1, hz2⟩ := info_parts hinfo
  refine wpList_append_own_at (w := w) hgd s x t ho B e i z size bytes ht hi hz0 hz1 hz2 hz hs0 v n xs hs hown ad 1 c news hx (by omega) (fun j y hj => ?_) h1 (by unfold maxLen; omega) ?_ hB (fun v' w' h2 h3 _ h5 => h v' w' h2 h3 h5)
  · obtain ⟨hjl, rfl⟩ := List.getElem?_eq_some_iff.1 hj
    obtain ⟨b, off, e1, hcell⟩ := hu j hjl
    cases e1
    rw [addr_add]; exact hcell
  · have := Nat.mul_le_mul h63 hby; omega
namespace Tr
theorem cells_newAt (w : World) (vs : List Value) (e : TypeId) (fr : Nat × Nat) (g : Nat) (hg : g = w.heap.size) : Cells (w.alloc (.cells vs.toArray e fr)) (some ⟨g, 0, none⟩) vs := by
  subst hg
  exact fun i hi => ⟨w.heap.size, 0, rfl, by rw [cell_new w vs.toArray e fr i (by simpa using hi)]; simp⟩
theorem info_event : (Try.prog.info? 39).map (fun i => (i.zero, i.size, i.bytes)) = some (some (.agg #[.int .u64 0, .slice none 0 0]), 2, 32) := by kernel_rfl
def evc (es : Es) (vs : List Value) : List Value := (es.zip vs).flatMap fun x => [.int .u64 x.1.1, x.2]
theorem evc_nil : evc [] [] = [] := rfl
theorem evc_snoc (es : Es) (vs : List Value) (e : Int × List Int) (v : Value) (h : vs.length = es.length) : evc (es ++ [e]) (vs ++ [v]) = evc es vs ++ [.int .u64 e.1, v] := by
  unfold evc
  rw [List.zip_append h.symm]
  simp
theorem evc_len (es : Es) : ∀ vs : List Value, vs.length = es.length → (evc es vs).length = es.length * 2 := by
  induction es with
  | nil => intro vs _; simp [evc]
  | cons e r ih =>
    intro vs h
    cases vs with
    | nil => simp at h
    | cons v q =>
      have := ih q (by simpa using h)
      unfold evc at this ⊢
      simp only [List.zip_cons_cons, List.flatMap_cons, List.length_append, List.length_cons, List.length_nil, this]
      omega
theorem evc_at (es : Es) : ∀ (vs : List Value) (i : Nat), vs.length = es.length → i < es.length → (evc es vs)[i * 2]? = some (.int .u64 (tm es i)) ∧ (evc es vs)[i * 2 + 1]? = some (vs.getD i undef) := by
  induction es with
  | nil => intro vs i _ h; cases h
  | cons e r ih =>
    intro vs i h hi
    cases vs with
    | nil => simp at h
    | cons v q =>
      cases i with
      | zero => simp [evc, tm]
      | succ i =>
        have := ih q i (by simpa using h) (by simpa using hi)
        have e1 : evc (e :: r) (v :: q) = .int .u64 e.1 :: v :: evc r q := by simp [evc]
        rw [e1, show (i + 1) * 2 = i * 2 + 2 by omega, show i * 2 + 2 + 1 = (i * 2 + 1) + 2 by omega]
        simpa [tm] using this
theorem tm_snoc_lt (es : Es) (e : Int × List Int) (i : Nat) (h : i < es.length) : tm (es ++ [e]) i = tm es i := by
  simp [tm, List.getD_eq_getElem?_getD, List.getElem?_append_left h]
theorem ids_snoc_lt (es : Es) (e : Int × List Int) (i : Nat) (h : i < es.length) : ids (es ++ [e]) i = ids es i := by
  simp [ids, List.getD_eq_getElem?_getD, List.getElem?_append_left h]
theorem tm_snoc (es : Es) (e : Int × List Int) : tm (es ++ [e]) es.length = e.1 := by simp [tm, List.getD_eq_getElem?_getD]
theorem ids_snoc (es : Es) (e : Int × List Int) : ids (es ++ [e]) es.length = e.2 := by simp [ids, List.getD_eq_getElem?_getD]
/-- A row of events of the call's own: its block begins at B or later; its ids lie elsewhere. -/
def EvOwn (w : World) (B : Nat) (v : Value) (es : Es) : Prop :=
  ∃ vs : List Value, vs.length = es.length ∧ w.ownsRow B 39 2 v es.length (evc es vs) ∧
    ∀ i, i < es.length → Sl w (vs.getD i undef) (i64s (ids es i)) ∧ (ids es i ≠ [] → ∀ k, (vs.getD i undef).ownBlock = some k → v.ownBlock ≠ some k)
theorem EvOwn.nil (w : World) (B : Nat) : EvOwn w B (.slice none 0 0) [] := ⟨[], rfl, World.ownsRow_nil w B _ 2, fun i h => by cases h⟩
theorem EvOwn.nw {w w' : World} {B : Nat} {v : Value} {es : Es} (h : EvOwn w B v es) (hn : Nw w w') : EvOwn w' B v es := by
  obtain ⟨vs, h1, h2, h3⟩ := h
  exact ⟨vs, h1, hn.ownsRow h2, fun i hi => ⟨(h3 i hi).1.nw hn, (h3 i hi).2⟩⟩
theorem EvOwn.evs {w : World} {B : Nat} {v : Value} {es : Es} (h : EvOwn w B v es) : Evs w v es := by
  obtain ⟨vs, h1, h2, h3⟩ := h
  rcases h2.2 with ⟨rfl, hn⟩ | ⟨g, cap, cur, rfl, hb, hg, hn, hm, hs, ht⟩
  · obtain rfl : es = [] := List.length_eq_zero_iff.1 hn
    exact Evs.nil w
  · refine ⟨some ⟨g, 0, none⟩, cap, rfl, hn, hm, (fun h => by cases h), fun i hi => ?_⟩
    obtain ⟨c1, c2⟩ := evc_at es vs i h1 hi
    have a1 := h2.cells (g := g) rfl (i * 2) _ c1
    have a2 := h2.cells (g := g) rfl (i * 2 + 1) _ c2
    rw [addr_add] at a1 a2
    exact ⟨g, 0, _, rfl, a1, by rw [Nat.add_assoc]; exact a2, (h3 i hi).1⟩
theorem Sl.mono_grown {w w' : World} {v : Value} {xs : List Value} {row : Option Nat} (h : Sl w v xs) (hg : w.grownBy w' row) (hne : xs ≠ [] → ∀ k, v.ownBlock = some k → row ≠ some k) : Sl w' v xs :=
  h.keep fun h0 k hk => hg.block k (h.lt h0 k hk) (fun e => hne h0 k hk e.symm)
theorem i64s_ne {l : List Int} (h : i64s l ≠ []) : l ≠ [] := fun e => h (by rw [e]; rfl)
/-- One event more. -/
theorem EvOwn.add {w w' : World} {B : Nat} {v v' vi : Value} {es : Es} {vs : List Value} {t : Int} {l : List Int} (h1 : vs.length = es.length)
    (h3 : ∀ i, i < es.length → Sl w (vs.getD i undef) (i64s (ids es i)) ∧ (ids es i ≠ [] → ∀ k, (vs.getD i undef).ownBlock = some k → v.ownBlock ≠ some k))
    (hi : Sl w vi (i64s l)) (hne : l ≠ [] → ∀ k, vi.ownBlock = some k → v.ownBlock ≠ some k) (ho : w'.ownsRow B 39 2 v' (es.length + 1) (evc es vs ++ [.int .u64 t, vi])) (hg : w.grownBy w' v.ownBlock)
    (hat : v'.ownBlock = v.ownBlock ∨ v'.ownBlock = some w.heap.size) : EvOwn w' B v' (es ++ [(t, l)]) := by
  have new : ∀ {u : Value} {m : List Int}, Sl w u (i64s m) → (m ≠ [] → ∀ k, u.ownBlock = some k → v.ownBlock ≠ some k) → Sl w' u (i64s m) ∧ (m ≠ [] → ∀ k, u.ownBlock = some k → v'.ownBlock ≠ some k) := by
    intro u m hu hk
    refine ⟨Sl.mono_grown hu hg fun h0 => hk (i64s_ne h0), fun h0 k hk2 => ?_⟩
    rcases hat with e | e
    · rw [e]; exact hk h0 k hk2
    · rw [e]
      intro e2
      have := hu.lt (by intro e3; apply h0; cases m with | nil => rfl | cons x r => simp [i64s] at e3) k hk2
      simp only [Option.some.injEq] at e2
      omega
  refine ⟨vs ++ [vi], by simp [h1], by rw [evc_snoc _ _ _ _ h1, List.length_append]; exact ho, fun i hi2 => ?_⟩
  rw [List.length_append, List.length_singleton] at hi2
  by_cases hlt : i < es.length
  · rw [ids_snoc_lt _ _ _ hlt, show (vs ++ [vi]).getD i undef = vs.getD i undef by simp [List.getD_eq_getElem?_getD, List.getElem?_append_left (show i < vs.length by omega)]]
    exact new (h3 i hlt).1 (h3 i hlt).2
  · obtain rfl : i = es.length := by omega
    rw [ids_snoc, show (vs ++ [vi]).getD es.length undef = vi by simp [List.getD_eq_getElem?_getD, ← h1]]
    exact new hi hne
theorem own_apart {w w1 : World} {B : Nat} {e : TypeId} {v u : Value} {xs ys : List Value} {n : Nat} (h : w.ownsRow B 39 2 v n xs) (hu : Own w1 w.heap.size e u ys) : ∀ k, u.ownBlock = some k → v.ownBlock ≠ some k := by
  intro k hk e2
  have h1 := hu.lt k hk
  have h2 := (World.ownsRow.lt h k e2).2
  omega
end Tr
end Go.Proofs.Ytjelbfodkacipaa
