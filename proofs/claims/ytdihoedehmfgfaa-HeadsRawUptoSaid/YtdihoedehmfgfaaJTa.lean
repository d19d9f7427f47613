/- Joined texts.
Traces: which may be, and what is told of them (plain); how they read in memory; traces that come in. No program in sight but the types.
Rows of events that a call builds, each event's ids in a block of their own: the append to them. No program in sight but the types.
The contracts of Ids and Names of traces, both of each. No condition but a text's length.
The contracts of May, both. No condition but a text's length.
The contracts of the library's functions on names and ids, and of equality of events and traces. No condition but a text's length.
The contracts of Index and Contains, of equality of events and of traces. No condition but a text's length.
-/
import Derived.Test.YtdihoedehmfgfaaJLx
import Derived.Test.YtdihoedehmfgfaaRec
import Derived.SliceStrings
import Derived.Lib.SmallJoins
import Derived.Maps.AppendAt
import Derived.Test.YtdihoedehmfgfaaRecA
set_option linter.unusedSimpArgs false
set_option linter.unusedVariables false
namespace Go.Proofs.Ytdihoedehmfgfaa
open Go.ChangeShapes Go.WideShapes Go.ChangeAt Go.RowKit
namespace Tr
open Go.Proofs.Ytdihoedehmfgfaa.Lx (isIn nameB)
open Go.Proofs.Ytdihoedehmfgfaa.Rec (rises)
abbrev Es := List (Int × List Int)
structure T where
  names : List ByteArray
  evs : Es
def none_ : T := ⟨[], []⟩
def nmB (s : ByteArray) : Bool := nameB s.data.toList
def nOk (l : List ByteArray) (i : Nat) : Bool := nmB (l.getD i ⟨#[]⟩) && !isIn (l.getD i ⟨#[]⟩) (l.take i)
def namesTo (l : List ByteArray) (k : Nat) : Bool := (List.range k).all (nOk l)
def namesP (l : List ByteArray) : Bool := decide (l.length ≤ 64) && namesTo l l.length
def tm (es : Es) (i : Nat) : Int := (es.getD i (0, [])).1
def ids (es : Es) (i : Nat) : List Int := (es.getD i (0, [])).2
def eOk (n : Int) (es : Es) (i : Nat) : Bool := rises (ids es i) n && (decide (i = 0) || !decide (tm es i < tm es (i - 1)))
def mayTo (n : Int) (es : Es) (k : Nat) : Bool := (List.range k).all (eOk n es)
def evsP (n : Int) (es : Es) : Bool := mayTo n es es.length
def mayP (t : T) : Bool := namesP t.names && evsP t.names.length t.evs
theorem to_succ (p : Nat → Bool) (k : Nat) : (List.range (k + 1)).all p = ((List.range k).all p && p k) := by
  rw [List.range_succ, List.all_append]; simp
theorem to_no (p : Nat → Bool) (n i : Nat) (h : i < n) (hn : p i = false) : (List.range n).all p = false := by
  cases hb : (List.range n).all p with
  | false => rfl
  | true => rw [List.all_eq_true] at hb; have := hb i (by simpa using h); rw [hn] at this; cases this
theorem names_no {l : List ByteArray} {i : Nat} (h : i < l.length) (hn : nOk l i = false) : namesP l = false := by
  unfold namesP namesTo; rw [to_no _ _ _ h hn, Bool.and_false]
theorem names_yes {l : List ByteArray} (h : l.length ≤ 64) (hu : namesTo l l.length = true) : namesP l = true := by
  unfold namesP; rw [hu, decide_eq_true h]; rfl
theorem evs_no {n : Int} {es : Es} {i : Nat} (h : i < es.length) (hn : eOk n es i = false) : evsP n es = false := to_no _ _ _ h hn
theorem ids_no {n : Int} {es : Es} {i : Nat} (h : rises (ids es i) n = false) : eOk n es i = false := by unfold eOk; rw [h]; rfl
theorem tm_no {n : Int} {es : Es} {i : Nat} (h : rises (ids es i) n = true) (h0 : 0 < i) (h1 : tm es i < tm es (i - 1)) : eOk n es i = false := by
  unfold eOk; rw [h, decide_eq_false (by omega), decide_eq_true h1]; rfl
theorem e_yes {n : Int} {es : Es} {i : Nat} (h : rises (ids es i) n = true) (h0 : i = 0 ∨ ¬ tm es i < tm es (i - 1)) : eOk n es i = true := by
  unfold eOk; rw [h]
  rcases h0 with h0 | h0
  · rw [decide_eq_true h0]; rfl
  · rw [decide_eq_false h0]; simp
/-! ### How they read -/
def EC (w : World) (p : Option Addr) (es : Es) : Prop :=
  ∀ i, i < es.length → ∃ b off vi, p = some ⟨b, off, none⟩ ∧ w.cell? ⟨b, off + i * 2, none⟩ = some (.int .u64 (tm es i)) ∧ w.cell? ⟨b, off + i * 2 + 1, none⟩ = some vi ∧ Sl w vi (i64s (ids es i))
theorem EC.nw {w w' : World} {p : Option Addr} {es : Es} (h : EC w p es) (hn : Nw w w') : EC w' p es := fun i hi => by
  obtain ⟨b, off, vi, e, h1, h2, h3⟩ := h i hi
  exact ⟨b, off, vi, e, hn.cell h1, hn.cell h2, h3.nw hn⟩
theorem tm_take (es : Es) (k i : Nat) (h : i < k) : tm (es.take k) i = tm es i := by
  simp [tm, List.getD_eq_getElem?_getD, h]
theorem ids_take (es : Es) (k i : Nat) (h : i < k) : ids (es.take k) i = ids es i := by
  simp [ids, List.getD_eq_getElem?_getD, h]
theorem EC.take {w : World} {p : Option Addr} {es : Es} (h : EC w p es) (k : Nat) : EC w p (es.take k) := fun i hi => by
  rw [List.length_take] at hi
  rw [tm_take _ _ _ (by omega), ids_take _ _ _ (by omega)]
  exact h i (by omega)
def Evs (w : World) (v : Value) (es : Es) : Prop := ∃ p cap, v = .slice p es.length cap ∧ es.length ≤ cap ∧ cap ≤ maxLen ∧ (p = none → cap = 0) ∧ EC w p es
theorem Evs.nw {w w' : World} {v : Value} {es : Es} (h : Evs w v es) (hn : Nw w w') : Evs w' v es := by
  obtain ⟨p, cap, e, h1, h2, h3, h4⟩ := h
  exact ⟨p, cap, e, h1, h2, h3, h4.nw hn⟩
theorem Evs.nil (w : World) : Evs w (.slice none 0 0) [] := ⟨none, 0, rfl, Nat.le_refl _, Nat.zero_le _, fun _ => rfl, fun i h => by cases h⟩
theorem Evs.cut {w : World} {p : Option Addr} {cap : Nat} {es : Es} (k m : Nat) (hk : m = (es.take k).length) (hcap : es.length ≤ cap) (hm : cap ≤ maxLen) (h0 : p = none → cap = 0) (h : EC w p es) : Evs w (.slice p m cap) (es.take k) := by
  subst hk
  exact ⟨p, cap, rfl, by rw [List.length_take]; omega, hm, h0, h.take k⟩
/-- A trace. -/
def TrR (w : World) (v : Value) (t : T) : Prop := ∃ vn ve, v = .agg #[vn, ve] ∧ Sl w vn (Lx.strs t.names) ∧ Evs w ve t.evs
theorem TrR.nw {w w' : World} {v : Value} {t : T} (h : TrR w v t) (hn : Nw w w') : TrR w' v t := by
  obtain ⟨vn, ve, e, h1, h2⟩ := h
  exact ⟨vn, ve, e, h1.nw hn, h2.nw hn⟩
theorem TrR.none_ (w : World) : TrR w (.agg #[.slice none 0 0, .slice none 0 0]) none_ := ⟨_, _, rfl, Sl.nil w, Evs.nil w⟩
/-- A call hands back a trace, and only makes new blocks. -/
def HandsT (w : World) (t : T) (e : Ending) (w' : World) : Prop := ∃ v, e = .returned v ∧ TrR w' v t ∧ Nw w w'
/-! ### Traces that come in -/
section
variable {H : Type} {enc : TypeId × Value → H} {P : Program}
theorem bulk_mem (l : List (DataW H)) : ∀ x ∈ l, Rows.uptoBulk x ≤ Rows.uptoBulkAll l := by
  induction l with
  | nil => intro x h; cases h
  | cons y r ih =>
    intro x h
    rw [Rows.uptoBulkAll]
    rcases List.mem_cons.1 h with rfl | h
    · omega
    · have := ih x h; omega
/-- A slice of strings. -/
theorem open_strs_at {t e : TypeId} {W : World} {n : Nat} {v : Value} {y : DataW H × List MemPlace} (ht : P.underlying t = some (.slice e)) (he : P.underlying e = some .string) (hc : P.cellsOf e = 1)
    (hf : DataW.trod enc P W 0 (fun _ => true) true n t [v] = some y) :
    ∃ l : List ByteArray, Sl W v (Lx.strs l) ∧ l.length ≤ Rows.uptoBulk y.1 ∧ (∀ s ∈ l, s.size ≤ Rows.uptoBulk y.1) := by
  obtain ⟨d, p⟩ := y
  rcases open_strings ht he hc hf with ⟨hcs, hx⟩ | ⟨a, len', cap', ss, hcs, _, hl, hm, hz, hx, hcell, hsz⟩
  · simp at hcs
    subst hcs
    exact ⟨[], Sl.nil W, Nat.zero_le _, fun s h => by cases h⟩
  · simp at hcs
    subst hcs
    simp only [Prod.mk.injEq] at hx
    obtain ⟨rfl, _⟩ := hx
    simp only [if_true] at hz
    have hlen : (ss.take len').length = len' := by simp; omega
    refine ⟨ss.take len', ⟨some a, cap', by simp [Lx.strs]; omega, by simp [Lx.strs]; omega, hm, (fun h => by cases h), Cells.of_add fun i hi => ?_⟩, ?_, ?_⟩
    · simp [Lx.strs] at hi
      rw [hcell i (by omega)]
      simp [Lx.strs, List.getD_eq_getElem?_getD, List.getElem?_eq_getElem (show i < ss.length by omega)]
    · have h1 := bulk_len (Go.ChangeShapes.strs (H := H) (ss.take len'))
      rw [show (Go.ChangeShapes.strs (H := H) (ss.take len')).length = (ss.take len').length by simp [Go.ChangeShapes.strs]] at h1
      simp only [Rows.uptoBulk]
      omega
    · intro s hs
      have h1 := bulk_mem (Go.ChangeShapes.strs (H := H) (ss.take len')) (.lit (.string s.data.toList)) (List.mem_map.2 ⟨s, hs, rfl⟩)
      have h2 : s.size = s.data.toList.length := (show s.data.size = s.data.toList.length from Array.length_toList.symm)
      simp only [Rows.uptoBulk] at h1 ⊢
      omega
end
end Tr
end Go.Proofs.Ytdihoedehmfgfaa
namespace Go.Proofs.Ytdihoedehmfgfaa
open Go.ChangeShapes Go.WideShapes Go.ChangeAt Go.RowKit
/-- 's = append(s, x)', elements of several cells, s owned from B on, x a row of one element; where the new row lies. -/
theorem appat {P : Program} {w : World} {ops : Array Oper} {rest : List Oper} {o : Oper} {a : Act} {Q : Exit → Act → World → Prop} (hgd : o.guard = none) (s x : Operand) (t : TypeId) (ho : o.op = .call { callee := .builtin .append, args := #[s, x], argTypes := #[t, t] })
    (e : TypeId) (z : Value) (size bytes : Nat) (ht : P.underlying t = some (.slice e)) (hinfo : (P.info? e).map (fun i => (i.zero, i.size, i.bytes)) = some (some z, size, bytes)) (hz : z.cells.size = size) (hs0 : 0 < size) (hby : bytes ≤ 128)
    {B : Nat} (hB : B ≤ w.heap.size) {v : Value} {n : Nat} {xs : List Value} (hown : w.ownsRow B e size v n xs) (hs : a.eval s = v) {ad : Addr} {c : Nat} {news : List Value} (hx : a.eval x = .slice (some ad) 1 c) (hl : news.length = size)
    (hu : Cells w (some ad) news) (h1 : ∀ u ∈ news, u.oneCell' = true)
    (h : ∀ v' w', w'.ownsRow B e size v' (n + 1) (xs ++ news) → w.grownBy w' v.ownBlock → (v'.ownBlock = v.ownBlock ∨ v'.ownBlock = some w.heap.size) → wpList P ops Q rest (a.put o.dst v') w')
    (h63 : n + 1 ≤ 1099511627776) : wpList P ops Q (o :: rest) a w := by
  obtain ⟨i, hi, hz0, hz1, hz2⟩ := info_parts hinfo
  refine wpList_append_own_at (w := w) hgd s x t ho B e i z size bytes ht hi hz0 hz1 hz2 hz hs0 v n xs hs hown ad 1 c news hx (by omega) (fun j y hj => ?_) h1 (by unfold maxLen; omega) ?_ hB (fun v' w' h2 h3 _ h5 => h v' w' h2 h3 h5)
  · obtain ⟨hjl, rfl⟩ := List.getElem?_eq_some_iff.1 hj
    obtain ⟨b, off, e1, hcell⟩ := hu j hjl
    cases e1
    rw [addr_add]; exact hcell
  · have := Nat.mul_le_mul h63 hby; omega
namespace Tr
theorem cells_newAt (w : World) (vs : List Value) (e : TypeId) (fr : Nat × Nat) (g : Nat) (hg : g = w.heap.size) : Cells (w.alloc (.cells vs.toArray e fr)) (some ⟨g, 0, none⟩) vs := by
  subst hg
  exact fun i hi => ⟨w.heap.size, 0, rfl, by rw [cell_new w vs.toArray e fr i (by simpa using hi)]; simp⟩
theorem info_event : (Try.prog.info? 38).map (fun i => (i.zero, i.size, i.bytes)) = some (some (.agg #[.int .u64 0, .slice none 0 0]), 2, 32) := by kernel_rfl
def evc (es : Es) (vs : List Value) : List Value := (es.zip vs).flatMap fun x => [.int .u64 x.1.1, x.2]
theorem evc_nil : evc [] [] = [] := rfl
theorem evc_snoc (es : Es) (vs : List Value) (e : Int × List Int) (v : Value) (h : vs.length = es.length) : evc (es ++ [e]) (vs ++ [v]) = evc es vs ++ [.int .u64 e.1, v] := by
  unfold evc
  rw [List.zip_append h.symm]
  simp
theorem evc_len (es : Es) : ∀ vs : List Value, vs.length = es.length → (evc es vs).length = es.length * 2 := by
  induction es with
  | nil => intro vs _; simp [evc]
  | cons e r ih =>
    intro vs h
    cases vs with
    | nil => simp at h
    | cons v q =>
      have := ih q (by simpa using h)
      unfold evc at this ⊢
      simp only [List.zip_cons_cons, List.flatMap_cons, List.length_append, List.length_cons, List.length_nil, this]
      omega
theorem evc_at (es : Es) : ∀ (vs : List Value) (i : Nat), vs.length = es.length → i < es.length → (evc es vs)[i * 2]? = some (.int .u64 (tm es i)) ∧ (evc es vs)[i * 2 + 1]? = some (vs.getD i undef) := by
  induction es with
  | nil => intro vs i _ h; cases h
  | cons e r ih =>
    intro vs i h hi
    cases vs with
    | nil => simp at h
    | cons v q =>
      cases i with
      | zero => simp [evc, tm]
      | succ i =>
        have := ih q i (by simpa using h) (by simpa using hi)
        have e1 : evc (e :: r) (v :: q) = .int .u64 e.1 :: v :: evc r q := by simp [evc]
        rw [e1, show (i + 1) * 2 = i * 2 + 2 by omega, show i * 2 + 2 + 1 = (i * 2 + 1) + 2 by omega]
        simpa [tm] using this
theorem tm_snoc_lt (es : Es) (e : Int × List Int) (i : Nat) (h : i < es.length) : tm (es ++ [e]) i = tm es i := by
  simp [tm, List.getD_eq_getElem?_getD, List.getElem?_append_left h]
theorem ids_snoc_lt (es : Es) (e : Int × List Int) (i : Nat) (h : i < es.length) : ids (es ++ [e]) i = ids es i := by
  simp [ids, List.getD_eq_getElem?_getD, List.getElem?_append_left h]
theorem tm_snoc (es : Es) (e : Int × List Int) : tm (es ++ [e]) es.length = e.1 := by simp [tm, List.getD_eq_getElem?_getD]
theorem ids_snoc (es : Es) (e : Int × List Int) : ids (es ++ [e]) es.length = e.2 := by simp [ids, List.getD_eq_getElem?_getD]
/-- A row of events of the call's own: its block begins at B or later; its ids lie elsewhere. -/
def EvOwn (w : World) (B : Nat) (v : Value) (es : Es) : Prop :=
  ∃ vs : List Value, vs.length = es.length ∧ w.ownsRow B 38 2 v es.length (evc es vs) ∧
    ∀ i, i < es.length → Sl w (vs.getD i undef) (i64s (ids es i)) ∧ (ids es i ≠ [] → ∀ k, (vs.getD i undef).ownBlock = some k → v.ownBlock ≠ some k)
theorem EvOwn.nil (w : World) (B : Nat) : EvOwn w B (.slice none 0 0) [] := ⟨[], rfl, World.ownsRow_nil w B _ 2, fun i h => by cases h⟩
theorem EvOwn.nw {w w' : World} {B : Nat} {v : Value} {es : Es} (h : EvOwn w B v es) (hn : Nw w w') : EvOwn w' B v es := by
  obtain ⟨vs, h1, h2, h3⟩ := h
  exact ⟨vs, h1, hn.ownsRow h2, fun i hi => ⟨(h3 i hi).1.nw hn, (h3 i hi).2⟩⟩
theorem EvOwn.evs {w : World} {B : Nat} {v : Value} {es : Es} (h : EvOwn w B v es) : Evs w v es := by
  obtain ⟨vs, h1, h2, h3⟩ := h
  rcases h2.2 with ⟨rfl, hn⟩ | ⟨g, cap, cur, rfl, hb, hg, hn, hm, hs, ht⟩
  · obtain rfl : es = [] := List.length_eq_zero_iff.1 hn
    exact Evs.nil w
  · refine ⟨some ⟨g, 0, none⟩, cap, rfl, hn, hm, (fun h => by cases h), fun i hi => ?_⟩
    obtain ⟨c1, c2⟩ := evc_at es vs i h1 hi
    have a1 := h2.cells (g := g) rfl (i * 2) _ c1
    have a2 := h2.cells (g := g) rfl (i * 2 + 1) _ c2
    rw [addr_add] at a1 a2
    exact ⟨g, 0, _, rfl, a1, by rw [Nat.add_assoc]; exact a2, (h3 i hi).1⟩
theorem Sl.mono_grown {w w' : World} {v : Value} {xs : List Value} {row : Option Nat} (h : Sl w v xs) (hg : w.grownBy w' row) (hne : xs ≠ [] → ∀ k, v.ownBlock = some k → row ≠ some k) : Sl w' v xs :=
  h.keep fun h0 k hk => hg.block k (h.lt h0 k hk) (fun e => hne h0 k hk e.symm)
theorem i64s_ne {l : List Int} (h : i64s l ≠ []) : l ≠ [] := fun e => h (by rw [e]; rfl)
/-- One event more. -/
theorem EvOwn.add {w w' : World} {B : Nat} {v v' vi : Value} {es : Es} {vs : List Value} {t : Int} {l : List Int} (h1 : vs.length = es.length)
    (h3 : ∀ i, i < es.length → Sl w (vs.getD i undef) (i64s (ids es i)) ∧ (ids es i ≠ [] → ∀ k, (vs.getD i undef).ownBlock = some k → v.ownBlock ≠ some k))
    (hi : Sl w vi (i64s l)) (hne : l ≠ [] → ∀ k, vi.ownBlock = some k → v.ownBlock ≠ some k) (ho : w'.ownsRow B 38 2 v' (es.length + 1) (evc es vs ++ [.int .u64 t, vi])) (hg : w.grownBy w' v.ownBlock)
    (hat : v'.ownBlock = v.ownBlock ∨ v'.ownBlock = some w.heap.size) : EvOwn w' B v' (es ++ [(t, l)]) := by
  have new : ∀ {u : Value} {m : List Int}, Sl w u (i64s m) → (m ≠ [] → ∀ k, u.ownBlock = some k → v.ownBlock ≠ some k) → Sl w' u (i64s m) ∧ (m ≠ [] → ∀ k, u.ownBlock = some k → v'.ownBlock ≠ some k) := by
    intro u m hu hk
    refine ⟨Sl.mono_grown hu hg fun h0 => hk (i64s_ne h0), fun h0 k hk2 => ?_⟩
    rcases hat with e | e
    · rw [e]; exact hk h0 k hk2
    · rw [e]
      intro e2
      have := hu.lt (by intro e3; apply h0; cases m with | nil => rfl | cons x r => simp [i64s] at e3) k hk2
      simp only [Option.some.injEq] at e2
      omega
  refine ⟨vs ++ [vi], by simp [h1], by rw [evc_snoc _ _ _ _ h1, List.length_append]; exact ho, fun i hi2 => ?_⟩
  rw [List.length_append, List.length_singleton] at hi2
  by_cases hlt : i < es.length
  · rw [ids_snoc_lt _ _ _ hlt, show (vs ++ [vi]).getD i undef = vs.getD i undef by simp [List.getD_eq_getElem?_getD, List.getElem?_append_left (show i < vs.length by omega)]]
    exact new (h3 i hlt).1 (h3 i hlt).2
  · obtain rfl : i = es.length := by omega
    rw [ids_snoc, show (vs ++ [vi]).getD es.length undef = vi by simp [List.getD_eq_getElem?_getD, ← h1]]
    exact new hi hne
theorem own_apart {w w1 : World} {B : Nat} {e : TypeId} {v u : Value} {xs ys : List Value} {n : Nat} (h : w.ownsRow B 38 2 v n xs) (hu : Own w1 w.heap.size e u ys) : ∀ k, u.ownBlock = some k → v.ownBlock ≠ some k := by
  intro k hk e2
  have h1 := hu.lt k hk
  have h2 := (World.ownsRow.lt h k e2).2
  omega
end Tr
end Go.Proofs.Ytdihoedehmfgfaa
namespace Go.Proofs.Ytdihoedehmfgfaa
open Go.ChangeShapes Go.WideShapes Go.ChangeAt Go.RowKit
namespace Rec
set_option maxRecDepth 20000 in
set_option maxHeartbeats 1600000 in
theorem tids_c (v : Value) (l : List Int) (p : Int) (w : World) (hv : Sl w v (i64s l)) : Calls Try.prog 80 #[v, .int .i64 p] w (Gives (.bool (rises l p)) w) := by
  obtain ⟨q, cap, rfl, hcap, hmx, _, hc⟩ := i64s_open hv
  unfold maxLen at hmx
  have HC := hid hc
  clear hc hv
  go_enter Try.func80, Try.ntmps80
  go_wp2
  go_loopw [5, 6, 9] (fun _ _ i wr => ∃ k : Nat, k ≤ l.length ∧ i = .int .i64 k ∧ upto l p k = true ∧ Nw w wr) (fun _ _ i _ => l.length - (intOf i).toNat)
  case atStart => exact ⟨0, Nat.zero_le _, rfl, rfl, Nw.refl _⟩
  case round =>
    obtain ⟨k, hk, rfl, hu, hn⟩ := hrel
    have HU0 := hid hu
    clear hu
    by_cases hlt : k < l.length
    · have hdk : decide (k < l.length) = true := decide_eq_true hlt
      obtain ⟨b1, o1, rfl, hcell⟩ := i64_cell (HC.out.nw hn) k hlt
      have HNO := hid (fun h => rises_no l p k hlt (ok_no h))
      have HYES := hid (fun h0 h1 h2 => (upto_succ l p k).trans (by rw [HU0.out, ok_yes h0 h1 h2]))
      by_cases h0 : l.getD k 0 < 0
      · have HF := hid (HNO.out (Or.inl h0))
        have hd0 : decide (l.getD k 0 < 0) = true := decide_eq_true h0
        clear HNO HYES
        generalize l.getD k 0 = x at *
        go_wp2
        go_ret
        exact Gives.b HF.out.symm (by repeat (first | assumption | exact Nw.refl _ | refine Nw.alloc ?_ _ | refine Nw.drew ?_ | refine Nw.drewN2 ?_ _ | (refine Nw.trans ?_ (by assumption))))
      · have hd0 : decide (l.getD k 0 < 0) = false := decide_eq_false h0
        by_cases h1 : p ≤ l.getD k 0
        · have HF := hid (HNO.out (Or.inr (Or.inl h1)))
          have hd1 : decide (p ≤ l.getD k 0) = true := decide_eq_true h1
          clear HNO HYES
          generalize l.getD k 0 = x at *
          go_wp2
          go_ret
          exact Gives.b HF.out.symm (by repeat (first | assumption | exact Nw.refl _ | refine Nw.alloc ?_ _ | refine Nw.drew ?_ | refine Nw.drewN2 ?_ _ | (refine Nw.trans ?_ (by assumption))))
        · have hd1 : decide (p ≤ l.getD k 0) = false := decide_eq_false h1
          by_cases h2 : 0 < k
          · have hd2 : decide ((0 : Int) < k) = true := decide_eq_true (by omega)
            obtain ⟨b2, o2, e2, hcell2⟩ := i64_cell (HC.out.nw hn) (k - 1) (by omega)
            cases e2
            have ek : ((k : Int) - 1).toNat = k - 1 := by omega
            by_cases h3 : l.getD k 0 ≤ l.getD (k - 1) 0
            · have HF := hid (HNO.out (Or.inr (Or.inr ⟨h2, h3⟩)))
              have hd3 : decide (l.getD k 0 ≤ l.getD (k - 1) 0) = true := decide_eq_true h3
              clear HNO HYES
              generalize l.getD k 0 = x at *
              generalize l.getD (k - 1) 0 = y at *
              go_wp2
              go_ret
              exact Gives.b HF.out.symm (by repeat (first | assumption | exact Nw.refl _ | refine Nw.alloc ?_ _ | refine Nw.drew ?_ | refine Nw.drewN2 ?_ _ | (refine Nw.trans ?_ (by assumption))))
            · have HU := hid (HYES.out (by omega) (by omega) (Or.inr (by omega)))
              have hd3 : decide (l.getD k 0 ≤ l.getD (k - 1) 0) = false := decide_eq_false h3
              clear HNO HYES
              generalize l.getD k 0 = x at *
              generalize l.getD (k - 1) 0 = y at *
              go_wp2
              go_roundw
              case rel => exact ⟨k + 1, by omega, by go_num, HU.out, hn⟩
              case measure => simp [intOf]; omega
          · have hd2 : decide ((0 : Int) < k) = false := decide_eq_false (by omega)
            have HU := hid (HYES.out (by omega) (by omega) (Or.inl (by omega)))
            clear HNO HYES
            generalize l.getD k 0 = x at *
            go_wp2
            go_roundw
            case rel => exact ⟨k + 1, by omega, by go_num, HU.out, hn⟩
            case measure => simp [intOf]; omega
    · obtain rfl : k = l.length := by omega
      have hdk : decide (l.length < l.length) = false := decide_eq_false (by omega)
      have HF := hid (show rises l p = true from HU0.out)
      go_wp2
      go_ret
      exact Gives.b HF.out.symm hn

end Rec
namespace Tr
open Go.Proofs.Ytdihoedehmfgfaa.Lx (isIn nameB strs_open strs_cell contains_c)
theorem strs_take (l : List ByteArray) (k : Nat) : Lx.strs (l.take k) = (Lx.strs l).take k := by simp [Lx.strs]
theorem strs_cut {w : World} {p : Option Addr} {cap : Nat} {l : List ByteArray} (k : Nat) (hk : k ≤ l.length) (hcap : l.length ≤ cap) (hm : cap ≤ maxLen) (h0 : p = none → cap = 0) (h : Cells w p (Lx.strs l)) : Sl w (.slice p k cap) (Lx.strs (l.take k)) := by
  have hl : (Lx.strs (l.take k)).length = k := by rw [Lx.strs_length, List.length_take]; omega
  refine ⟨p, cap, by rw [hl], by rw [hl]; omega, hm, h0, ?_⟩
  rw [strs_take]; exact h.take k
theorem nm_c (s : ByteArray) (hs : s.size ≤ 1000000000) (w : World) : Calls Try.prog 55 #[.string s] w (Gives (.bool (nmB s)) w) := by
  have := Lx.name_c s.data.toList w (by rw [Array.length_toList]; exact hs)
  exact this
theorem rnm_c (s : ByteArray) (hs : s.size ≤ 1000000000) (w : World) : Calls Try.prog 73 #[.string s] w (Gives (.bool (nmB s)) w) := by
  have := Lx.rname_c s.data.toList w (by rw [Array.length_toList]; exact hs)
  exact this
set_option maxHeartbeats 1600000 in
theorem names_c (v : Value) (l : List ByteArray) (w : World) (hv : Sl w v (Lx.strs l)) (hs : ∀ s ∈ l, s.size ≤ 1000000000) : Calls Try.prog 79 #[v] w (Gives (.bool (namesP l)) w) := by
  obtain ⟨p, cap, rfl, hcap, hmx, hp0, hc⟩ := strs_open hv
  have HC := hid hc
  have hmx' := hmx
  unfold maxLen at hmx
  clear hc hv
  by_cases hbig : 64 < l.length
  · have hd : decide ((64 : Int) < l.length) = true := decide_eq_true (by omega)
    have HF := hid (show namesP l = false by unfold namesP; rw [decide_eq_false (by omega)]; rfl)
    go_enter Try.func79, Try.ntmps79
    go_wp2
    go_ret
    exact Gives.b HF.out.symm (by repeat (first | assumption | exact Nw.refl _ | refine Nw.alloc ?_ _ | refine Nw.drew ?_ | refine Nw.drewN2 ?_ _ | (refine Nw.trans ?_ (by assumption))))
  · have hd : decide ((64 : Int) < l.length) = false := decide_eq_false (by omega)
    go_enter Try.func79, Try.ntmps79
    go_wp2
    go_loopw [3, 4, 10] (fun _ _ i wr => ∃ k : Nat, k ≤ l.length ∧ i = .int .i64 k ∧ Hid (namesTo l k = true) ∧ Nw w wr) (fun _ _ i _ => l.length - (intOf i).toNat)
    case atStart => exact ⟨0, Nat.zero_le _, rfl, hid rfl, Nw.refl _⟩
    case round =>
      obtain ⟨k, hk, rfl, hu, hn⟩ := hrel
      by_cases hlt : k < l.length
      · have hdk : decide (k < l.length) = true := decide_eq_true hlt
        obtain ⟨b1, o1, rfl, hcell⟩ := strs_cell (HC.out.nw hn) k hlt
        have HSL := hid (fun w' (h : Nw wr w') => strs_cut k (by omega) hcap hmx' (fun h => by cases h) (HC.out.nw (hn.trans h)))
        have HNM := hid (fun w => nm_c l[k] (hs _ (List.getElem_mem hlt)) w)
        have eg : l.getD k ⟨#[]⟩ = l[k] := by simp [List.getD_eq_getElem?_getD, hlt]
        have HNO := hid (show nOk l k = false → namesP l = false from fun h => names_no hlt h)
        have HYE := hid (show nOk l k = true → namesTo l (k + 1) = true from fun h => by rw [namesTo, to_succ, h, Bool.and_true]; exact hu.out)
        have eo : nOk l k = (nmB l[k] && !isIn l[k] (l.take k)) := by unfold nOk; rw [eg]
        rw [eo] at HNO HYE
        clear eg eo hu
        generalize l.take k = q at *
        generalize l[k] = s at *
        by_cases h1 : nmB s = true
        · by_cases h2 : isIn s q = true
          · have HF := hid (HNO.out (by rw [h1, h2]; rfl))
            clear HNO HYE
            go_wp2_with (first
              | (go_at_call 55; refine (HNM.out _).mono ?_; rintro e w1 ⟨rfl, hn1⟩)
              | (go_at_call 56; refine (contains_c _ q _ _ (HSL.out _ (by repeat (first | assumption | exact Nw.refl _ | refine Nw.alloc ?_ _ | refine Nw.drew ?_ | refine Nw.drewN2 ?_ _ | (refine Nw.trans ?_ (by assumption)))))).mono ?_; rintro e w2 ⟨rfl, hn2⟩))
            go_ret
            exact Gives.b HF.out.symm (by repeat (first | assumption | exact Nw.refl _ | refine Nw.alloc ?_ _ | refine Nw.drew ?_ | refine Nw.drewN2 ?_ _ | (refine Nw.trans ?_ (by assumption))))
          · rw [Bool.not_eq_true] at h2
            have HF := hid (HYE.out (by rw [h1, h2]; rfl))
            clear HNO HYE
            go_wp2_with (first
              | (go_at_call 55; refine (HNM.out _).mono ?_; rintro e w1 ⟨rfl, hn1⟩)
              | (go_at_call 56; refine (contains_c _ q _ _ (HSL.out _ (by repeat (first | assumption | exact Nw.refl _ | refine Nw.alloc ?_ _ | refine Nw.drew ?_ | refine Nw.drewN2 ?_ _ | (refine Nw.trans ?_ (by assumption)))))).mono ?_; rintro e w2 ⟨rfl, hn2⟩))
            go_roundw
            case rel => exact ⟨k + 1, by omega, by go_num, HF, (by repeat (first | assumption | exact Nw.refl _ | refine Nw.alloc ?_ _ | refine Nw.drew ?_ | refine Nw.drewN2 ?_ _ | (refine Nw.trans ?_ (by assumption))))⟩
            case measure => simp [intOf]; omega
        · rw [Bool.not_eq_true] at h1
          have HF := hid (HNO.out (by rw [h1]; rfl))
          clear HNO HYE
          go_wp2_with (first
            | (go_at_call 55; refine (HNM.out _).mono ?_; rintro e w1 ⟨rfl, hn1⟩)
            | (go_at_call 56; refine (contains_c _ q _ _ (HSL.out _ (by repeat (first | assumption | exact Nw.refl _ | refine Nw.alloc ?_ _ | refine Nw.drew ?_ | refine Nw.drewN2 ?_ _ | (refine Nw.trans ?_ (by assumption)))))).mono ?_; rintro e w2 ⟨rfl, hn2⟩))
          go_ret
          exact Gives.b HF.out.symm (by repeat (first | assumption | exact Nw.refl _ | refine Nw.alloc ?_ _ | refine Nw.drew ?_ | refine Nw.drewN2 ?_ _ | (refine Nw.trans ?_ (by assumption))))
      · obtain rfl : k = l.length := by omega
        have hdk : decide (l.length < l.length) = false := decide_eq_false (by omega)
        have HF := hid (names_yes (by omega) hu.out)
        go_wp2
        go_ret
        exact Gives.b HF.out.symm hn

set_option maxHeartbeats 1600000 in
theorem rnames_c (v : Value) (l : List ByteArray) (w : World) (hv : Sl w v (Lx.strs l)) (hs : ∀ s ∈ l, s.size ≤ 1000000000) : Calls Try.prog 76 #[v] w (Gives (.bool (namesP l)) w) := by
  obtain ⟨p, cap, rfl, hcap, hmx, hp0, hc⟩ := strs_open hv
  have HC := hid hc
  have hmx' := hmx
  unfold maxLen at hmx
  clear hc hv
  by_cases hbig : 64 < l.length
  · have hd : decide ((64 : Int) < l.length) = true := decide_eq_true (by omega)
    have HF := hid (show namesP l = false by unfold namesP; rw [decide_eq_false (by omega)]; rfl)
    go_enter Try.func76, Try.ntmps76
    go_wp2
    go_ret
    exact Gives.b HF.out.symm (by repeat (first | assumption | exact Nw.refl _ | refine Nw.alloc ?_ _ | refine Nw.drew ?_ | refine Nw.drewN2 ?_ _ | (refine Nw.trans ?_ (by assumption))))
  · have hd : decide ((64 : Int) < l.length) = false := decide_eq_false (by omega)
    go_enter Try.func76, Try.ntmps76
    go_wp2
    go_loopw [3, 4, 10] (fun _ _ i wr => ∃ k : Nat, k ≤ l.length ∧ i = .int .i64 k ∧ Hid (namesTo l k = true) ∧ Nw w wr) (fun _ _ i _ => l.length - (intOf i).toNat)
    case atStart => exact ⟨0, Nat.zero_le _, rfl, hid rfl, Nw.refl _⟩
    case round =>
      obtain ⟨k, hk, rfl, hu, hn⟩ := hrel
      by_cases hlt : k < l.length
      · have hdk : decide (k < l.length) = true := decide_eq_true hlt
        obtain ⟨b1, o1, rfl, hcell⟩ := strs_cell (HC.out.nw hn) k hlt
        have HSL := hid (fun w' (h : Nw wr w') => strs_cut k (by omega) hcap hmx' (fun h => by cases h) (HC.out.nw (hn.trans h)))
        have HNM := hid (fun w => rnm_c l[k] (hs _ (List.getElem_mem hlt)) w)
        have eg : l.getD k ⟨#[]⟩ = l[k] := by simp [List.getD_eq_getElem?_getD, hlt]
        have HNO := hid (show nOk l k = false → namesP l = false from fun h => names_no hlt h)
        have HYE := hid (show nOk l k = true → namesTo l (k + 1) = true from fun h => by rw [namesTo, to_succ, h, Bool.and_true]; exact hu.out)
        have eo : nOk l k = (nmB l[k] && !isIn l[k] (l.take k)) := by unfold nOk; rw [eg]
        rw [eo] at HNO HYE
        clear eg eo hu
        generalize l.take k = q at *
        generalize l[k] = s at *
        by_cases h1 : nmB s = true
        · by_cases h2 : isIn s q = true
          · have HF := hid (HNO.out (by rw [h1, h2]; rfl))
            clear HNO HYE
            go_wp2_with (first
              | (go_at_call 73; refine (HNM.out _).mono ?_; rintro e w1 ⟨rfl, hn1⟩)
              | (go_at_call 56; refine (contains_c _ q _ _ (HSL.out _ (by repeat (first | assumption | exact Nw.refl _ | refine Nw.alloc ?_ _ | refine Nw.drew ?_ | refine Nw.drewN2 ?_ _ | (refine Nw.trans ?_ (by assumption)))))).mono ?_; rintro e w2 ⟨rfl, hn2⟩))
            go_ret
            exact Gives.b HF.out.symm (by repeat (first | assumption | exact Nw.refl _ | refine Nw.alloc ?_ _ | refine Nw.drew ?_ | refine Nw.drewN2 ?_ _ | (refine Nw.trans ?_ (by assumption))))
          · rw [Bool.not_eq_true] at h2
            have HF := hid (HYE.out (by rw [h1, h2]; rfl))
            clear HNO HYE
            go_wp2_with (first
              | (go_at_call 73; refine (HNM.out _).mono ?_; rintro e w1 ⟨rfl, hn1⟩)
              | (go_at_call 56; refine (contains_c _ q _ _ (HSL.out _ (by repeat (first | assumption | exact Nw.refl _ | refine Nw.alloc ?_ _ | refine Nw.drew ?_ | refine Nw.drewN2 ?_ _ | (refine Nw.trans ?_ (by assumption)))))).mono ?_; rintro e w2 ⟨rfl, hn2⟩))
            go_roundw
            case rel => exact ⟨k + 1, by omega, by go_num, HF, (by repeat (first | assumption | exact Nw.refl _ | refine Nw.alloc ?_ _ | refine Nw.drew ?_ | refine Nw.drewN2 ?_ _ | (refine Nw.trans ?_ (by assumption))))⟩
            case measure => simp [intOf]; omega
        · rw [Bool.not_eq_true] at h1
          have HF := hid (HNO.out (by rw [h1]; rfl))
          clear HNO HYE
          go_wp2_with (first
            | (go_at_call 73; refine (HNM.out _).mono ?_; rintro e w1 ⟨rfl, hn1⟩)
            | (go_at_call 56; refine (contains_c _ q _ _ (HSL.out _ (by repeat (first | assumption | exact Nw.refl _ | refine Nw.alloc ?_ _ | refine Nw.drew ?_ | refine Nw.drewN2 ?_ _ | (refine Nw.trans ?_ (by assumption)))))).mono ?_; rintro e w2 ⟨rfl, hn2⟩))
          go_ret
          exact Gives.b HF.out.symm (by repeat (first | assumption | exact Nw.refl _ | refine Nw.alloc ?_ _ | refine Nw.drew ?_ | refine Nw.drewN2 ?_ _ | (refine Nw.trans ?_ (by assumption))))
      · obtain rfl : k = l.length := by omega
        have hdk : decide (l.length < l.length) = false := decide_eq_false (by omega)
        have HF := hid (names_yes (by omega) hu.out)
        go_wp2
        go_ret
        exact Gives.b HF.out.symm hn

end Tr
end Go.Proofs.Ytdihoedehmfgfaa
namespace Go.Proofs.Ytdihoedehmfgfaa
open Go.ChangeShapes Go.WideShapes Go.ChangeAt Go.RowKit
namespace Tr
open Go.Proofs.Ytdihoedehmfgfaa.Lx (isIn nameB strs_open strs_cell contains_c)
open Go.Proofs.Ytdihoedehmfgfaa.Rec (rises)
/-- A new block of two cells. -/
theorem box2 (w : World) (a b : Value) (e : TypeId) : (w.alloc (.cells #[a, b] e)).cell? ⟨w.heap.size, 0, none⟩ = some a ∧ (w.alloc (.cells #[a, b] e)).cell? ⟨w.heap.size, 1, none⟩ = some b :=
  ⟨cell_new w #[a, b] e (0, 0) 0 (by simp), cell_new w #[a, b] e (0, 0) 1 (by simp)⟩
set_option maxRecDepth 20000 in
set_option maxHeartbeats 1600000 in
theorem may_c (vn ve : Value) (t : T) (w : World) (hvn : Sl w vn (Lx.strs t.names)) (hve : Evs w ve t.evs) (hs : ∀ s ∈ t.names, s.size ≤ 1000000000) : Calls Try.prog 48 #[.agg #[vn, ve]] w (Gives (.bool (mayP t)) w) := by
  obtain ⟨names, es⟩ := t
  dsimp only at hvn hve hs
  obtain ⟨pn, capn, rfl, hcapn, hmxn, _, hcn⟩ := strs_open hvn
  obtain ⟨p, cap, rfl, hcap, hmx, _, hec⟩ := hve
  unfold maxLen at hmx hmxn
  have HE := hid hec
  have HN := hid (fun w' (h : Nw w w') => names_c _ names w' (hvn.nw h) hs)
  clear hec hcn hvn hs
  by_cases hN : namesP names = true
  · go_enter Try.func48, Try.ntmps48
    go_wp2_with (first
      | (go_at_call 79; refine (HN.out _ (by repeat (first | assumption | exact Nw.refl _ | refine Nw.alloc ?_ _ | refine Nw.drew ?_ | refine Nw.drewN2 ?_ _ | (refine Nw.trans ?_ (by assumption))))).mono ?_; rintro e w1 ⟨rfl, hn1⟩; obtain ⟨hc1, hf1, hz1⟩ := nwc hn1)
      | fail)
    have x0 := hn1.cell (box2 w (.slice pn names.length capn) (.slice p es.length cap) 34).1
    have x1 := hn1.cell (box2 w (.slice pn names.length capn) (.slice p es.length cap) 34).2
    have hn : Nw w w1 := (by repeat (first | assumption | exact Nw.refl _ | refine Nw.alloc ?_ _ | refine Nw.drew ?_ | refine Nw.drewN2 ?_ _ | (refine Nw.trans ?_ (by assumption))))
    clear hc1 hf1 hz1 hn1
    go_loopw [3, 4, 12] (fun _ _ i wr => ∃ k : Nat, k ≤ es.length ∧ i = .int .i64 k ∧ Hid (mayTo names.length es k = true) ∧ Nw w1 wr) (fun _ _ i _ => es.length - (intOf i).toNat)
    case atStart => exact ⟨0, Nat.zero_le _, rfl, hid rfl, Nw.refl _⟩
    case round =>
      obtain ⟨k, hk, rfl, hu, hnr⟩ := hrel
      rename_i K3 a3
      have A3 := hid a3
      clear a3
      have hnw := hn.trans hnr
      have y0 := hnr.cell x0
      have y1 := hnr.cell x1
      have hz := World.block_lt_of_cell? wr _ y0
      simp only at hz
      by_cases hlt : k < es.length
      · have hdk : decide (k < es.length) = true := decide_eq_true hlt
        obtain ⟨b1, o1, vi, rfl, c0, c1, hsl⟩ := (HE.out.nw hnw) k hlt
        obtain ⟨q, c, rfl, hcq, hmq, _, _⟩ := Rec.i64s_open hsl
        unfold maxLen at hmq
        have HNO := hid (show eOk names.length es k = false → mayP ⟨names, es⟩ = false from fun h => by unfold mayP; rw [evs_no hlt h, Bool.and_false])
        have HYE := hid (show eOk names.length es k = true → mayTo names.length es (k + 1) = true from fun h => by rw [mayTo, to_succ]; rw [h, Bool.and_true]; exact hu.out)
        have HSL := hid (fun w' (h : Nw wr w') => Rec.tids_c _ (ids es k) names.length w' (hsl.nw h))
        clear hu hsl
        by_cases h1 : rises (ids es k) names.length = true
        · by_cases h2 : 0 < k
          · have hd2 : decide ((0 : Int) < k) = true := decide_eq_true (by omega)
            have hd2n : decide (0 < k) = true := decide_eq_true h2
            obtain ⟨b2, o2, vj, e2, d0, _, _⟩ := (HE.out.nw hnw) (k - 1) (by omega)
            cases e2
            have ek : ((k : Int) - 1).toNat = k - 1 := by omega
            by_cases h3 : tm es k < tm es (k - 1)
            · have hd3 : decide (tm es k < tm es (k - 1)) = true := decide_eq_true h3
              have HF := hid (HNO.out (tm_no h1 h2 h3))
              clear h3
              clear HNO HYE
              generalize hl : ids es k = l at *
              generalize tm es k = tk at *
              generalize tm es (k - 1) = tj at *
              clear hl
              go_upto_region 6 with fail
              rename_i Q' K2 a2 K1 a1
              have A1 := hid a1
              have A2 := hid a2
              clear a1 a2
              have hnz := (Nw.refl wr).alloc (.cells #[.int .u64 tk, .slice q l.length c] 38)
              obtain ⟨z0, z1⟩ := box2 wr (.int .u64 tk) (.slice q l.length c) 38
              have x0 := hnz.cell y0
              have x1 := hnz.cell y1
              have e0 := hnz.cell d0
              clear y0 y1 c0 c1 d0
              generalize wr.alloc (.cells #[.int .u64 tk, .slice q l.length c] 38) = wz at *
              have g0 := World.block_lt_of_cell? wz _ x0
              have g1 := World.block_lt_of_cell? wz _ z0
              have g2 := World.block_lt_of_cell? wz _ e0
              simp only at g0 g1 g2
              refine wp_region_stairs (by kernel_rfl) (by kernel_rfl) (by kernel_rfl) ?_
              iterate 23
                refine Stairs.is ?_ ?_ ?_
                rotate_left 1
                · intro x wR hR hd K hK
                  simp only [Act.put, List.setIfInBounds_toArray, List.set_cons_zero, List.set_cons_succ, Nat.reduceAdd, List.length_nil, List.length_cons, List.nil_append, List.cons_append, Say.ok] at hK ⊢
                  clear hd
                  change Hid _ at hK
                  obtain ⟨hcR, hfR, hzR⟩ := nwc hR
                  first | (refine wanted_yes ?_ ?_; rfl) | (refine wanted_no ?_ ?_; rfl)
                  go_wp2_with (first | (go_at_call 80; refine (HSL.out _ (hnz.trans (by repeat (first | assumption | exact Nw.refl _ | refine Nw.alloc ?_ _ | refine Nw.drew ?_ | refine Nw.drewN2 ?_ _ | (refine Nw.trans ?_ (by assumption)))))).mono ?_; rintro e w5 ⟨rfl, hn5⟩; obtain ⟨hc5, hf5, hz5⟩ := nwc hn5))
                  all_goals (refine hK.out _ _ ?_ ?_ <;> first | (solve | (repeat (first | assumption | exact Nw.refl _ | refine Nw.alloc ?_ _ | refine Nw.drew ?_ | refine Nw.drewN2 ?_ _ | (refine Nw.trans ?_ (by assumption))))) | exact rfl)
                try simp only [Act.put, List.setIfInBounds_toArray, List.set_cons_zero, List.set_cons_succ, Nat.reduceAdd, List.length_nil, List.length_cons, List.nil_append, List.cons_append]
              refine Stairs.nil ?_
              intro x wR hR hx
              clear hx
              obtain ⟨hcR, hfR, hzR⟩ := nwc hR
              have a1 := A1.out
              have a2 := A2.out
              go_wp2
              go_ret
              exact Gives.b HF.out.symm (hnw.trans (hnz.trans hR))
            · have hd3 : decide (tm es k < tm es (k - 1)) = false := decide_eq_false h3
              have HF := hid (HYE.out (e_yes h1 (Or.inr h3)))
              clear h3
              clear HNO HYE
              generalize hl : ids es k = l at *
              generalize tm es k = tk at *
              generalize tm es (k - 1) = tj at *
              clear hl
              go_upto_region 6 with fail
              rename_i Q' K2 a2 K1 a1
              have A1 := hid a1
              have A2 := hid a2
              clear a1 a2
              have hnz := (Nw.refl wr).alloc (.cells #[.int .u64 tk, .slice q l.length c] 38)
              obtain ⟨z0, z1⟩ := box2 wr (.int .u64 tk) (.slice q l.length c) 38
              have x0 := hnz.cell y0
              have x1 := hnz.cell y1
              have e0 := hnz.cell d0
              clear y0 y1 c0 c1 d0
              generalize wr.alloc (.cells #[.int .u64 tk, .slice q l.length c] 38) = wz at *
              have g0 := World.block_lt_of_cell? wz _ x0
              have g1 := World.block_lt_of_cell? wz _ z0
              have g2 := World.block_lt_of_cell? wz _ e0
              simp only at g0 g1 g2
              refine wp_region_stairs (by kernel_rfl) (by kernel_rfl) (by kernel_rfl) ?_
              iterate 23
                refine Stairs.is ?_ ?_ ?_
                rotate_left 1
                · intro x wR hR hd K hK
                  simp only [Act.put, List.setIfInBounds_toArray, List.set_cons_zero, List.set_cons_succ, Nat.reduceAdd, List.length_nil, List.length_cons, List.nil_append, List.cons_append, Say.ok] at hK ⊢
                  clear hd
                  change Hid _ at hK
                  obtain ⟨hcR, hfR, hzR⟩ := nwc hR
                  first | (refine wanted_yes ?_ ?_; rfl) | (refine wanted_no ?_ ?_; rfl)
                  go_wp2_with (first | (go_at_call 80; refine (HSL.out _ (hnz.trans (by repeat (first | assumption | exact Nw.refl _ | refine Nw.alloc ?_ _ | refine Nw.drew ?_ | refine Nw.drewN2 ?_ _ | (refine Nw.trans ?_ (by assumption)))))).mono ?_; rintro e w5 ⟨rfl, hn5⟩; obtain ⟨hc5, hf5, hz5⟩ := nwc hn5))
                  all_goals (refine hK.out _ _ ?_ ?_ <;> first | (solve | (repeat (first | assumption | exact Nw.refl _ | refine Nw.alloc ?_ _ | refine Nw.drew ?_ | refine Nw.drewN2 ?_ _ | (refine Nw.trans ?_ (by assumption))))) | exact rfl)
                try simp only [Act.put, List.setIfInBounds_toArray, List.set_cons_zero, List.set_cons_succ, Nat.reduceAdd, List.length_nil, List.length_cons, List.nil_append, List.cons_append]
              refine Stairs.nil ?_
              intro x wR hR hx
              clear hx
              obtain ⟨hcR, hfR, hzR⟩ := nwc hR
              have a1 := A1.out
              have a2 := A2.out
              go_wp2
              go_roundw
              case rel => exact ⟨k + 1, by omega, by go_num, HF, hnr.trans (hnz.trans hR)⟩
              case measure => simp [intOf]; omega
          · have hd2 : decide ((0 : Int) < k) = false := decide_eq_false (by omega)
            have hd2n : decide (0 < k) = false := decide_eq_false h2
            have d0 := c0
            have HF := hid (HYE.out (e_yes h1 (Or.inl (by omega))))
            clear h2
            clear HNO HYE
            generalize hl : ids es k = l at *
            generalize tm es k = tk at *
            generalize tm es (k - 1) = tj at *
            clear hl
            go_upto_region 6 with fail
            rename_i Q' K2 a2 K1 a1
            have A1 := hid a1
            have A2 := hid a2
            clear a1 a2
            have hnz := (Nw.refl wr).alloc (.cells #[.int .u64 tk, .slice q l.length c] 38)
            obtain ⟨z0, z1⟩ := box2 wr (.int .u64 tk) (.slice q l.length c) 38
            have x0 := hnz.cell y0
            have x1 := hnz.cell y1
            have e0 := hnz.cell d0
            clear y0 y1 c0 c1 d0
            generalize wr.alloc (.cells #[.int .u64 tk, .slice q l.length c] 38) = wz at *
            have g0 := World.block_lt_of_cell? wz _ x0
            have g1 := World.block_lt_of_cell? wz _ z0
            have g2 := World.block_lt_of_cell? wz _ e0
            simp only at g0 g1 g2
            refine wp_region_stairs (by kernel_rfl) (by kernel_rfl) (by kernel_rfl) ?_
            iterate 23
              refine Stairs.is ?_ ?_ ?_
              rotate_left 1
              · intro x wR hR hd K hK
                simp only [Act.put, List.setIfInBounds_toArray, List.set_cons_zero, List.set_cons_succ, Nat.reduceAdd, List.length_nil, List.length_cons, List.nil_append, List.cons_append, Say.ok] at hK ⊢
                clear hd
                change Hid _ at hK
                obtain ⟨hcR, hfR, hzR⟩ := nwc hR
                first | (refine wanted_yes ?_ ?_; rfl) | (refine wanted_no ?_ ?_; rfl)
                go_wp2_with (first | (go_at_call 80; refine (HSL.out _ (hnz.trans (by repeat (first | assumption | exact Nw.refl _ | refine Nw.alloc ?_ _ | refine Nw.drew ?_ | refine Nw.drewN2 ?_ _ | (refine Nw.trans ?_ (by assumption)))))).mono ?_; rintro e w5 ⟨rfl, hn5⟩; obtain ⟨hc5, hf5, hz5⟩ := nwc hn5))
                all_goals (refine hK.out _ _ ?_ ?_ <;> first | (solve | (repeat (first | assumption | exact Nw.refl _ | refine Nw.alloc ?_ _ | refine Nw.drew ?_ | refine Nw.drewN2 ?_ _ | (refine Nw.trans ?_ (by assumption))))) | exact rfl)
              try simp only [Act.put, List.setIfInBounds_toArray, List.set_cons_zero, List.set_cons_succ, Nat.reduceAdd, List.length_nil, List.length_cons, List.nil_append, List.cons_append]
            refine Stairs.nil ?_
            intro x wR hR hx
            clear hx
            obtain ⟨hcR, hfR, hzR⟩ := nwc hR
            have a1 := A1.out
            have a2 := A2.out
            go_wp2
            go_roundw
            case rel => exact ⟨k + 1, by omega, by go_num, HF, hnr.trans (hnz.trans hR)⟩
            case measure => simp [intOf]; omega
        · rw [Bool.not_eq_true] at h1
          have d0 := c0
          have HF := hid (HNO.out (ids_no h1))
          clear HNO HYE
          generalize hl : ids es k = l at *
          generalize tm es k = tk at *
          generalize tm es (k - 1) = tj at *
          clear hl
          go_upto_region 6 with fail
          rename_i Q' K2 a2 K1 a1
          have A1 := hid a1
          have A2 := hid a2
          clear a1 a2
          have hnz := (Nw.refl wr).alloc (.cells #[.int .u64 tk, .slice q l.length c] 38)
          obtain ⟨z0, z1⟩ := box2 wr (.int .u64 tk) (.slice q l.length c) 38
          have x0 := hnz.cell y0
          have x1 := hnz.cell y1
          have e0 := hnz.cell d0
          clear y0 y1 c0 c1 d0
          generalize wr.alloc (.cells #[.int .u64 tk, .slice q l.length c] 38) = wz at *
          have g0 := World.block_lt_of_cell? wz _ x0
          have g1 := World.block_lt_of_cell? wz _ z0
          have g2 := World.block_lt_of_cell? wz _ e0
          simp only at g0 g1 g2
          refine wp_region_stairs (by kernel_rfl) (by kernel_rfl) (by kernel_rfl) ?_
          iterate 23
            refine Stairs.is ?_ ?_ ?_
            rotate_left 1
            · intro x wR hR hd K hK
              simp only [Act.put, List.setIfInBounds_toArray, List.set_cons_zero, List.set_cons_succ, Nat.reduceAdd, List.length_nil, List.length_cons, List.nil_append, List.cons_append, Say.ok] at hK ⊢
              clear hd
              change Hid _ at hK
              obtain ⟨hcR, hfR, hzR⟩ := nwc hR
              first | (refine wanted_yes ?_ ?_; rfl) | (refine wanted_no ?_ ?_; rfl)
              go_wp2_with (first | (go_at_call 80; refine (HSL.out _ (hnz.trans (by repeat (first | assumption | exact Nw.refl _ | refine Nw.alloc ?_ _ | refine Nw.drew ?_ | refine Nw.drewN2 ?_ _ | (refine Nw.trans ?_ (by assumption)))))).mono ?_; rintro e w5 ⟨rfl, hn5⟩; obtain ⟨hc5, hf5, hz5⟩ := nwc hn5))
              all_goals (refine hK.out _ _ ?_ ?_ <;> first | (solve | (repeat (first | assumption | exact Nw.refl _ | refine Nw.alloc ?_ _ | refine Nw.drew ?_ | refine Nw.drewN2 ?_ _ | (refine Nw.trans ?_ (by assumption))))) | exact rfl)
            try simp only [Act.put, List.setIfInBounds_toArray, List.set_cons_zero, List.set_cons_succ, Nat.reduceAdd, List.length_nil, List.length_cons, List.nil_append, List.cons_append]
          refine Stairs.nil ?_
          intro x wR hR hx
          clear hx
          obtain ⟨hcR, hfR, hzR⟩ := nwc hR
          have a1 := A1.out
          have a2 := A2.out
          go_wp2
          go_ret
          exact Gives.b HF.out.symm (hnw.trans (hnz.trans hR))
      · obtain rfl : k = es.length := by omega
        have hdk : decide (es.length < es.length) = false := decide_eq_false (by omega)
        have HF := hid (show mayP ⟨names, es⟩ = true by unfold mayP; rw [hN]; exact hu.out)
        have a3 := A3.out
        go_wp2
        go_ret
        exact Gives.b HF.out.symm hnw
  · rw [Bool.not_eq_true] at hN
    have HF := hid (show mayP ⟨names, es⟩ = false by unfold mayP; rw [hN]; rfl)
    go_enter Try.func48, Try.ntmps48
    go_wp2_with (first
      | (go_at_call 79; refine (HN.out _ (by repeat (first | assumption | exact Nw.refl _ | refine Nw.alloc ?_ _ | refine Nw.drew ?_ | refine Nw.drewN2 ?_ _ | (refine Nw.trans ?_ (by assumption))))).mono ?_; rintro e w1 ⟨rfl, hn1⟩)
      | fail)
    go_ret
    exact Gives.b HF.out.symm (by repeat (first | assumption | exact Nw.refl _ | refine Nw.alloc ?_ _ | refine Nw.drew ?_ | refine Nw.drewN2 ?_ _ | (refine Nw.trans ?_ (by assumption))))

set_option maxRecDepth 20000 in
set_option maxHeartbeats 1600000 in
theorem rmay_c (vn ve : Value) (t : T) (w : World) (hvn : Sl w vn (Lx.strs t.names)) (hve : Evs w ve t.evs) (hs : ∀ s ∈ t.names, s.size ≤ 1000000000) : Calls Try.prog 43 #[.agg #[vn, ve]] w (Gives (.bool (mayP t)) w) := by
  obtain ⟨names, es⟩ := t
  dsimp only at hvn hve hs
  obtain ⟨pn, capn, rfl, hcapn, hmxn, _, hcn⟩ := strs_open hvn
  obtain ⟨p, cap, rfl, hcap, hmx, _, hec⟩ := hve
  unfold maxLen at hmx hmxn
  have HE := hid hec
  have HN := hid (fun w' (h : Nw w w') => rnames_c _ names w' (hvn.nw h) hs)
  clear hec hcn hvn hs
  by_cases hN : namesP names = true
  · go_enter Try.func43, Try.ntmps43
    go_wp2_with (first
      | (go_at_call 76; refine (HN.out _ (by repeat (first | assumption | exact Nw.refl _ | refine Nw.alloc ?_ _ | refine Nw.drew ?_ | refine Nw.drewN2 ?_ _ | (refine Nw.trans ?_ (by assumption))))).mono ?_; rintro e w1 ⟨rfl, hn1⟩; obtain ⟨hc1, hf1, hz1⟩ := nwc hn1)
      | fail)
    have x0 := hn1.cell (box2 w (.slice pn names.length capn) (.slice p es.length cap) 34).1
    have x1 := hn1.cell (box2 w (.slice pn names.length capn) (.slice p es.length cap) 34).2
    have hn : Nw w w1 := (by repeat (first | assumption | exact Nw.refl _ | refine Nw.alloc ?_ _ | refine Nw.drew ?_ | refine Nw.drewN2 ?_ _ | (refine Nw.trans ?_ (by assumption))))
    clear hc1 hf1 hz1 hn1
    go_loopw [3, 4, 12] (fun _ _ i wr => ∃ k : Nat, k ≤ es.length ∧ i = .int .i64 k ∧ Hid (mayTo names.length es k = true) ∧ Nw w1 wr) (fun _ _ i _ => es.length - (intOf i).toNat)
    case atStart => exact ⟨0, Nat.zero_le _, rfl, hid rfl, Nw.refl _⟩
    case round =>
      obtain ⟨k, hk, rfl, hu, hnr⟩ := hrel
      rename_i K3 a3
      have A3 := hid a3
      clear a3
      have hnw := hn.trans hnr
      have y0 := hnr.cell x0
      have y1 := hnr.cell x1
      have hz := World.block_lt_of_cell? wr _ y0
      simp only at hz
      by_cases hlt : k < es.length
      · have hdk : decide (k < es.length) = true := decide_eq_true hlt
        obtain ⟨b1, o1, vi, rfl, c0, c1, hsl⟩ := (HE.out.nw hnw) k hlt
        obtain ⟨q, c, rfl, hcq, hmq, _, _⟩ := Rec.i64s_open hsl
        unfold maxLen at hmq
        have HNO := hid (show eOk names.length es k = false → mayP ⟨names, es⟩ = false from fun h => by unfold mayP; rw [evs_no hlt h, Bool.and_false])
        have HYE := hid (show eOk names.length es k = true → mayTo names.length es (k + 1) = true from fun h => by rw [mayTo, to_succ]; rw [h, Bool.and_true]; exact hu.out)
        have HSL := hid (fun w' (h : Nw wr w') => Rec.rids_c _ (ids es k) names.length w' (hsl.nw h))
        clear hu hsl
        by_cases h1 : rises (ids es k) names.length = true
        · by_cases h2 : 0 < k
          · have hd2 : decide ((0 : Int) < k) = true := decide_eq_true (by omega)
            have hd2n : decide (0 < k) = true := decide_eq_true h2
            obtain ⟨b2, o2, vj, e2, d0, _, _⟩ := (HE.out.nw hnw) (k - 1) (by omega)
            cases e2
            have ek : ((k : Int) - 1).toNat = k - 1 := by omega
            by_cases h3 : tm es k < tm es (k - 1)
            · have hd3 : decide (tm es k < tm es (k - 1)) = true := decide_eq_true h3
              have HF := hid (HNO.out (tm_no h1 h2 h3))
              clear h3
              clear HNO HYE
              generalize hl : ids es k = l at *
              generalize tm es k = tk at *
              generalize tm es (k - 1) = tj at *
              clear hl
              go_upto_region 6 with fail
              rename_i Q' K2 a2 K1 a1
              have A1 := hid a1
              have A2 := hid a2
              clear a1 a2
              have hnz := (Nw.refl wr).alloc (.cells #[.int .u64 tk, .slice q l.length c] 38)
              obtain ⟨z0, z1⟩ := box2 wr (.int .u64 tk) (.slice q l.length c) 38
              have x0 := hnz.cell y0
              have x1 := hnz.cell y1
              have e0 := hnz.cell d0
              clear y0 y1 c0 c1 d0
              generalize wr.alloc (.cells #[.int .u64 tk, .slice q l.length c] 38) = wz at *
              have g0 := World.block_lt_of_cell? wz _ x0
              have g1 := World.block_lt_of_cell? wz _ z0
              have g2 := World.block_lt_of_cell? wz _ e0
              simp only at g0 g1 g2
              refine wp_region_stairs (by kernel_rfl) (by kernel_rfl) (by kernel_rfl) ?_
              iterate 23
                refine Stairs.is ?_ ?_ ?_
                rotate_left 1
                · intro x wR hR hd K hK
                  simp only [Act.put, List.setIfInBounds_toArray, List.set_cons_zero, List.set_cons_succ, Nat.reduceAdd, List.length_nil, List.length_cons, List.nil_append, List.cons_append, Say.ok] at hK ⊢
                  clear hd
                  change Hid _ at hK
                  obtain ⟨hcR, hfR, hzR⟩ := nwc hR
                  first | (refine wanted_yes ?_ ?_; rfl) | (refine wanted_no ?_ ?_; rfl)
                  go_wp2_with (first | (go_at_call 77; refine (HSL.out _ (hnz.trans (by repeat (first | assumption | exact Nw.refl _ | refine Nw.alloc ?_ _ | refine Nw.drew ?_ | refine Nw.drewN2 ?_ _ | (refine Nw.trans ?_ (by assumption)))))).mono ?_; rintro e w5 ⟨rfl, hn5⟩; obtain ⟨hc5, hf5, hz5⟩ := nwc hn5))
                  all_goals (refine hK.out _ _ ?_ ?_ <;> first | (solve | (repeat (first | assumption | exact Nw.refl _ | refine Nw.alloc ?_ _ | refine Nw.drew ?_ | refine Nw.drewN2 ?_ _ | (refine Nw.trans ?_ (by assumption))))) | exact rfl)
                try simp only [Act.put, List.setIfInBounds_toArray, List.set_cons_zero, List.set_cons_succ, Nat.reduceAdd, List.length_nil, List.length_cons, List.nil_append, List.cons_append]
              refine Stairs.nil ?_
              intro x wR hR hx
              clear hx
              obtain ⟨hcR, hfR, hzR⟩ := nwc hR
              have a1 := A1.out
              have a2 := A2.out
              go_wp2
              go_ret
              exact Gives.b HF.out.symm (hnw.trans (hnz.trans hR))
            · have hd3 : decide (tm es k < tm es (k - 1)) = false := decide_eq_false h3
              have HF := hid (HYE.out (e_yes h1 (Or.inr h3)))
              clear h3
              clear HNO HYE
              generalize hl : ids es k = l at *
              generalize tm es k = tk at *
              generalize tm es (k - 1) = tj at *
              clear hl
              go_upto_region 6 with fail
              rename_i Q' K2 a2 K1 a1
              have A1 := hid a1
              have A2 := hid a2
              clear a1 a2
              have hnz := (Nw.refl wr).alloc (.cells #[.int .u64 tk, .slice q l.length c] 38)
              obtain ⟨z0, z1⟩ := box2 wr (.int .u64 tk) (.slice q l.length c) 38
              have x0 := hnz.cell y0
              have x1 := hnz.cell y1
              have e0 := hnz.cell d0
              clear y0 y1 c0 c1 d0
              generalize wr.alloc (.cells #[.int .u64 tk, .slice q l.length c] 38) = wz at *
              have g0 := World.block_lt_of_cell? wz _ x0
              have g1 := World.block_lt_of_cell? wz _ z0
              have g2 := World.block_lt_of_cell? wz _ e0
              simp only at g0 g1 g2
              refine wp_region_stairs (by kernel_rfl) (by kernel_rfl) (by kernel_rfl) ?_
              iterate 23
                refine Stairs.is ?_ ?_ ?_
                rotate_left 1
                · intro x wR hR hd K hK
                  simp only [Act.put, List.setIfInBounds_toArray, List.set_cons_zero, List.set_cons_succ, Nat.reduceAdd, List.length_nil, List.length_cons, List.nil_append, List.cons_append, Say.ok] at hK ⊢
                  clear hd
                  change Hid _ at hK
                  obtain ⟨hcR, hfR, hzR⟩ := nwc hR
                  first | (refine wanted_yes ?_ ?_; rfl) | (refine wanted_no ?_ ?_; rfl)
                  go_wp2_with (first | (go_at_call 77; refine (HSL.out _ (hnz.trans (by repeat (first | assumption | exact Nw.refl _ | refine Nw.alloc ?_ _ | refine Nw.drew ?_ | refine Nw.drewN2 ?_ _ | (refine Nw.trans ?_ (by assumption)))))).mono ?_; rintro e w5 ⟨rfl, hn5⟩; obtain ⟨hc5, hf5, hz5⟩ := nwc hn5))
                  all_goals (refine hK.out _ _ ?_ ?_ <;> first | (solve | (repeat (first | assumption | exact Nw.refl _ | refine Nw.alloc ?_ _ | refine Nw.drew ?_ | refine Nw.drewN2 ?_ _ | (refine Nw.trans ?_ (by assumption))))) | exact rfl)
                try simp only [Act.put, List.setIfInBounds_toArray, List.set_cons_zero, List.set_cons_succ, Nat.reduceAdd, List.length_nil, List.length_cons, List.nil_append, List.cons_append]
              refine Stairs.nil ?_
              intro x wR hR hx
              clear hx
              obtain ⟨hcR, hfR, hzR⟩ := nwc hR
              have a1 := A1.out
              have a2 := A2.out
              go_wp2
              go_roundw
              case rel => exact ⟨k + 1, by omega, by go_num, HF, hnr.trans (hnz.trans hR)⟩
              case measure => simp [intOf]; omega
          · have hd2 : decide ((0 : Int) < k) = false := decide_eq_false (by omega)
            have hd2n : decide (0 < k) = false := decide_eq_false h2
            have d0 := c0
            have HF := hid (HYE.out (e_yes h1 (Or.inl (by omega))))
            clear h2
            clear HNO HYE
            generalize hl : ids es k = l at *
            generalize tm es k = tk at *
            generalize tm es (k - 1) = tj at *
            clear hl
            go_upto_region 6 with fail
            rename_i Q' K2 a2 K1 a1
            have A1 := hid a1
            have A2 := hid a2
            clear a1 a2
            have hnz := (Nw.refl wr).alloc (.cells #[.int .u64 tk, .slice q l.length c] 38)
            obtain ⟨z0, z1⟩ := box2 wr (.int .u64 tk) (.slice q l.length c) 38
            have x0 := hnz.cell y0
            have x1 := hnz.cell y1
            have e0 := hnz.cell d0
            clear y0 y1 c0 c1 d0
            generalize wr.alloc (.cells #[.int .u64 tk, .slice q l.length c] 38) = wz at *
            have g0 := World.block_lt_of_cell? wz _ x0
            have g1 := World.block_lt_of_cell? wz _ z0
            have g2 := World.block_lt_of_cell? wz _ e0
            simp only at g0 g1 g2
            refine wp_region_stairs (by kernel_rfl) (by kernel_rfl) (by kernel_rfl) ?_
            iterate 23
              refine Stairs.is ?_ ?_ ?_
              rotate_left 1
              · intro x wR hR hd K hK
                simp only [Act.put, List.setIfInBounds_toArray, List.set_cons_zero, List.set_cons_succ, Nat.reduceAdd, List.length_nil, List.length_cons, List.nil_append, List.cons_append, Say.ok] at hK ⊢
                clear hd
                change Hid _ at hK
                obtain ⟨hcR, hfR, hzR⟩ := nwc hR
                first | (refine wanted_yes ?_ ?_; rfl) | (refine wanted_no ?_ ?_; rfl)
                go_wp2_with (first | (go_at_call 77; refine (HSL.out _ (hnz.trans (by repeat (first | assumption | exact Nw.refl _ | refine Nw.alloc ?_ _ | refine Nw.drew ?_ | refine Nw.drewN2 ?_ _ | (refine Nw.trans ?_ (by assumption)))))).mono ?_; rintro e w5 ⟨rfl, hn5⟩; obtain ⟨hc5, hf5, hz5⟩ := nwc hn5))
                all_goals (refine hK.out _ _ ?_ ?_ <;> first | (solve | (repeat (first | assumption | exact Nw.refl _ | refine Nw.alloc ?_ _ | refine Nw.drew ?_ | refine Nw.drewN2 ?_ _ | (refine Nw.trans ?_ (by assumption))))) | exact rfl)
              try simp only [Act.put, List.setIfInBounds_toArray, List.set_cons_zero, List.set_cons_succ, Nat.reduceAdd, List.length_nil, List.length_cons, List.nil_append, List.cons_append]
            refine Stairs.nil ?_
            intro x wR hR hx
            clear hx
            obtain ⟨hcR, hfR, hzR⟩ := nwc hR
            have a1 := A1.out
            have a2 := A2.out
            go_wp2
            go_roundw
            case rel => exact ⟨k + 1, by omega, by go_num, HF, hnr.trans (hnz.trans hR)⟩
            case measure => simp [intOf]; omega
        · rw [Bool.not_eq_true] at h1
          have d0 := c0
          have HF := hid (HNO.out (ids_no h1))
          clear HNO HYE
          generalize hl : ids es k = l at *
          generalize tm es k = tk at *
          generalize tm es (k - 1) = tj at *
          clear hl
          go_upto_region 6 with fail
          rename_i Q' K2 a2 K1 a1
          have A1 := hid a1
          have A2 := hid a2
          clear a1 a2
          have hnz := (Nw.refl wr).alloc (.cells #[.int .u64 tk, .slice q l.length c] 38)
          obtain ⟨z0, z1⟩ := box2 wr (.int .u64 tk) (.slice q l.length c) 38
          have x0 := hnz.cell y0
          have x1 := hnz.cell y1
          have e0 := hnz.cell d0
          clear y0 y1 c0 c1 d0
          generalize wr.alloc (.cells #[.int .u64 tk, .slice q l.length c] 38) = wz at *
          have g0 := World.block_lt_of_cell? wz _ x0
          have g1 := World.block_lt_of_cell? wz _ z0
          have g2 := World.block_lt_of_cell? wz _ e0
          simp only at g0 g1 g2
          refine wp_region_stairs (by kernel_rfl) (by kernel_rfl) (by kernel_rfl) ?_
          iterate 23
            refine Stairs.is ?_ ?_ ?_
            rotate_left 1
            · intro x wR hR hd K hK
              simp only [Act.put, List.setIfInBounds_toArray, List.set_cons_zero, List.set_cons_succ, Nat.reduceAdd, List.length_nil, List.length_cons, List.nil_append, List.cons_append, Say.ok] at hK ⊢
              clear hd
              change Hid _ at hK
              obtain ⟨hcR, hfR, hzR⟩ := nwc hR
              first | (refine wanted_yes ?_ ?_; rfl) | (refine wanted_no ?_ ?_; rfl)
              go_wp2_with (first | (go_at_call 77; refine (HSL.out _ (hnz.trans (by repeat (first | assumption | exact Nw.refl _ | refine Nw.alloc ?_ _ | refine Nw.drew ?_ | refine Nw.drewN2 ?_ _ | (refine Nw.trans ?_ (by assumption)))))).mono ?_; rintro e w5 ⟨rfl, hn5⟩; obtain ⟨hc5, hf5, hz5⟩ := nwc hn5))
              all_goals (refine hK.out _ _ ?_ ?_ <;> first | (solve | (repeat (first | assumption | exact Nw.refl _ | refine Nw.alloc ?_ _ | refine Nw.drew ?_ | refine Nw.drewN2 ?_ _ | (refine Nw.trans ?_ (by assumption))))) | exact rfl)
            try simp only [Act.put, List.setIfInBounds_toArray, List.set_cons_zero, List.set_cons_succ, Nat.reduceAdd, List.length_nil, List.length_cons, List.nil_append, List.cons_append]
          refine Stairs.nil ?_
          intro x wR hR hx
          clear hx
          obtain ⟨hcR, hfR, hzR⟩ := nwc hR
          have a1 := A1.out
          have a2 := A2.out
          go_wp2
          go_ret
          exact Gives.b HF.out.symm (hnw.trans (hnz.trans hR))
      · obtain rfl : k = es.length := by omega
        have hdk : decide (es.length < es.length) = false := decide_eq_false (by omega)
        have HF := hid (show mayP ⟨names, es⟩ = true by unfold mayP; rw [hN]; exact hu.out)
        have a3 := A3.out
        go_wp2
        go_ret
        exact Gives.b HF.out.symm hnw
  · rw [Bool.not_eq_true] at hN
    have HF := hid (show mayP ⟨names, es⟩ = false by unfold mayP; rw [hN]; rfl)
    go_enter Try.func43, Try.ntmps43
    go_wp2_with (first
      | (go_at_call 76; refine (HN.out _ (by repeat (first | assumption | exact Nw.refl _ | refine Nw.alloc ?_ _ | refine Nw.drew ?_ | refine Nw.drewN2 ?_ _ | (refine Nw.trans ?_ (by assumption))))).mono ?_; rintro e w1 ⟨rfl, hn1⟩)
      | fail)
    go_ret
    exact Gives.b HF.out.symm (by repeat (first | assumption | exact Nw.refl _ | refine Nw.alloc ?_ _ | refine Nw.drew ?_ | refine Nw.drewN2 ?_ _ | (refine Nw.trans ?_ (by assumption))))


end Tr
end Go.Proofs.Ytdihoedehmfgfaa
namespace Go.Proofs.Ytdihoedehmfgfaa
open Go.ChangeShapes Go.WideShapes Go.ChangeAt Go.RowKit
namespace Tr
open Go.Proofs.Ytdihoedehmfgfaa.Lx (isIn nameB strs_open strs_cell contains_c)
open Go.Proofs.Ytdihoedehmfgfaa.Rec (rises i64s_open i64_cell)
/-! ### Clone -/
theorem info_i64 : (Try.prog.info? 3).map (fun i => (i.zero, i.size, i.bytes)) = some (some (.int .i64 0), 1, 8) := by kernel_rfl
theorem info_str : (Try.prog.info? 9).map (fun i => (i.zero, i.size, i.bytes)) = some (some (.string .empty), 1, 16) := by kernel_rfl
theorem nil_i64 (w : World) (a : Option Addr) (n c : Nat) : (binOp .eql 23 (.slice a n c) (.slice none 0 0)).run Try.prog w = .ok (.bool a.isNone) w := Lib.run_eql_slice_nil w 23 3 a n c 0 0 Try.underlying23
theorem nil_str (w : World) (a : Option Addr) (n c : Nat) : (binOp .eql 31 (.slice a n c) (.slice none 0 0)).run Try.prog w = .ok (.bool a.isNone) w := Lib.run_eql_slice_nil w 31 9 a n c 0 0 Try.underlying31
theorem i64s_one (zs : List Int) : ∀ u ∈ i64s zs, u.oneCell' = true := oneCell_map _ (fun _ => rfl) zs
theorem strs_one (l : List ByteArray) : ∀ u ∈ Lx.strs l, u.oneCell' = true := oneCell_map _ (fun _ => rfl) l
/-- A call hands back a slice of its own. -/
def Hands (e0 : TypeId) (w : World) (vs : List Value) (e : Ending) (w' : World) : Prop := ∃ v, e = .returned v ∧ Own w' w.heap.size e0 v vs ∧ Nw w w'
set_option maxRecDepth 20000 in
theorem clonei_c (v : Value) (vs : List Value) (w : World) (hv : Sl w v vs) (h1 : ∀ u ∈ vs, u.oneCell' = true) (hlen : vs.length ≤ 1000000000) : Calls Try.prog 52 #[v] w (Hands 3 w vs) := by
  have hv2 := hv
  obtain ⟨p, cap, rfl, hcap, hmx, hnil, hc⟩ := hv
  have q := nil_i64
  cases p with
  | none =>
    obtain rfl := hnil rfl
    obtain rfl : vs = [] := by cases vs with | nil => rfl | cons y r => simp at hcap
    go_enter Try.func52, Try.ntmps52
    go_wp2
    go_ret
    exact ⟨_, rfl, Own.nil _ _ _, Nw.refl _⟩
  | some a =>
    go_enter Try.func52, Try.ntmps52
    go_wp2_with (first
      | (at_builtin; refine app1 rfl _ _ _ rfl _ _ _ Try.underlying23 info_i64 rfl (by decide) ((Nw.refl w).alloc _) (Own.new w _ _ [] (Nat.le_refl _) (Nat.zero_le _)) rfl (hv2.nw ((Nw.refl w).alloc _)) rfl h1 ?_ ?_; rotate_left; (simp; omega); intro v2 w2 hown2 hg2 hn2))
    go_ret
    exact ⟨_, rfl, by simpa using hown2, hn2⟩

set_option maxRecDepth 20000 in
theorem clones_c (v : Value) (vs : List Value) (w : World) (hv : Sl w v vs) (h1 : ∀ u ∈ vs, u.oneCell' = true) (hlen : vs.length ≤ 1000000000) : Calls Try.prog 72 #[v] w (Hands 9 w vs) := by
  have hv2 := hv
  obtain ⟨p, cap, rfl, hcap, hmx, hnil, hc⟩ := hv
  have q := nil_str
  cases p with
  | none =>
    obtain rfl := hnil rfl
    obtain rfl : vs = [] := by cases vs with | nil => rfl | cons y r => simp at hcap
    go_enter Try.func72, Try.ntmps72
    go_wp2
    go_ret
    exact ⟨_, rfl, Own.nil _ _ _, Nw.refl _⟩
  | some a =>
    go_enter Try.func72, Try.ntmps72
    go_wp2_with (first
      | (at_builtin; refine app1 rfl _ _ _ rfl _ _ _ Try.underlying31 info_str rfl (by decide) ((Nw.refl w).alloc _) (Own.new w _ _ [] (Nat.le_refl _) (Nat.zero_le _)) rfl (hv2.nw ((Nw.refl w).alloc _)) rfl h1 ?_ ?_; rotate_left; (simp; omega); intro v2 w2 hown2 hg2 hn2))
    go_ret
    exact ⟨_, rfl, by simpa using hown2, hn2⟩

/-! ### Equal -/
theorem eq_of_take (a b : List Int) (n : Nat) (h : a.take n = b.take n) (h1 : n < a.length) (h2 : n < b.length) : a.getD n 0 = b.getD n 0 ↔ a.take (n + 1) = b.take (n + 1) := by
  rw [List.take_add_one, List.take_add_one, h, List.append_cancel_left_eq]
  simp [List.getD_eq_getElem?_getD, h1, h2]
theorem eqs_of_take (a b : List ByteArray) (n : Nat) (h : a.take n = b.take n) (h1 : n < a.length) (h2 : n < b.length) : a[n] = b[n] ↔ a.take (n + 1) = b.take (n + 1) := by
  rw [List.take_add_one, List.take_add_one, h, List.append_cancel_left_eq]
  simp [h1, h2]
theorem eqi_c (u v : Value) (a b : List Int) (w : World) (hu : Sl w u (i64s a)) (hv : Sl w v (i64s b)) : Calls Try.prog 61 #[u, v] w (Gives (.bool (decide (a = b))) w) := by
  obtain ⟨p, cap, rfl, hcap, hmx, _, hc⟩ := i64s_open hu
  obtain ⟨p2, cap2, rfl, hcap2, hmx2, _, hc2⟩ := i64s_open hv
  unfold maxLen at hmx hmx2
  have HC := hid hc
  have HC2 := hid hc2
  clear hc hc2 hu hv
  by_cases hl : a.length = b.length
  · have hd : ((a.length : Int) != b.length) = false := by simp [hl]
    have hmx3 : b.length ≤ cap2 := hcap2
    go_enter Try.func61, Try.ntmps61
    go_wp2
    go_loopw [5, 13] (fun _ i wr => ∃ k : Nat, k ≤ a.length ∧ i = .int .i64 k ∧ Hid (a.take k = b.take k) ∧ Nw w wr) (fun _ i _ => a.length - (intOf i).toNat)
    case atStart => exact ⟨0, Nat.zero_le _, rfl, hid rfl, Nw.refl _⟩
    case round =>
      obtain ⟨k, hk, rfl, ht, hn⟩ := hrel
      obtain ⟨hcR, hfR, hzR⟩ := nwc hn
      by_cases hlt : k < a.length
      · have hk2 : k < b.length := by omega
        obtain ⟨b1, o1, rfl, hcell⟩ := i64_cell (HC.out.nw hn) k hlt
        obtain ⟨b2, o2, rfl, hcell2⟩ := i64_cell (HC2.out.nw hn) k hk2
        have hdk : decide (k < a.length) = true := decide_eq_true hlt
        have HT := hid (eq_of_take a b k ht.out hlt hk2)
        by_cases he : a.getD k 0 = b.getD k 0
        · have hde : (a.getD k 0 != b.getD k 0) = false := by rw [he]; simp
          have HN := hid (HT.out.1 he)
          clear ht HT he
          generalize a.getD k 0 = x at *
          generalize b.getD k 0 = y at *
          go_upto_region 6 with fail
          go_quiet (fail)
          go_wp2
          go_roundw
          case rel => exact ⟨k + 1, by omega, by go_num, HN, (by repeat (first | assumption | exact Nw.refl _ | refine Nw.alloc ?_ _ | refine Nw.drew ?_ | refine Nw.drewN2 ?_ _ | (refine Nw.trans ?_ (by assumption))))⟩
          case measure => simp [intOf]; omega
        · have hde : (a.getD k 0 != b.getD k 0) = true := by simp only [bne_iff_ne]; exact he
          have HF := hid (show decide (a = b) = false from decide_eq_false (fun h => he (by simp only [h])))
          clear ht he HT
          generalize a.getD k 0 = x at *
          generalize b.getD k 0 = y at *
          go_upto_region 6 with fail
          go_quiet (fail)
          go_wp2
          go_ret
          exact Gives.b HF.out.symm (by repeat (first | assumption | exact Nw.refl _ | refine Nw.alloc ?_ _ | refine Nw.drew ?_ | refine Nw.drewN2 ?_ _ | (refine Nw.trans ?_ (by assumption))))
      · have hdk : decide (k < a.length) = false := decide_eq_false hlt
        have HF := hid (show decide (a = b) = true from decide_eq_true (by have := ht.out; rwa [List.take_of_length_le (by omega), List.take_of_length_le (by omega)] at this))
        clear ht
        go_wp2
        go_ret
        exact Gives.b HF.out.symm (by repeat (first | assumption | exact Nw.refl _ | refine Nw.alloc ?_ _ | refine Nw.drew ?_ | refine Nw.drewN2 ?_ _ | (refine Nw.trans ?_ (by assumption))))
  · have hd : ((a.length : Int) != b.length) = true := by simp; omega
    have HF := hid (show decide (a = b) = false from decide_eq_false (fun h => hl (by rw [h])))
    go_enter Try.func61, Try.ntmps61
    go_wp2
    go_ret
    exact Gives.b HF.out.symm (by repeat (first | assumption | exact Nw.refl _ | refine Nw.alloc ?_ _ | refine Nw.drew ?_ | refine Nw.drewN2 ?_ _ | (refine Nw.trans ?_ (by assumption))))
theorem eqs_c (u v : Value) (a b : List ByteArray) (w : World) (hu : Sl w u (Lx.strs a)) (hv : Sl w v (Lx.strs b)) : Calls Try.prog 35 #[u, v] w (Gives (.bool (decide (a = b))) w) := by
  obtain ⟨p, cap, rfl, hcap, hmx, _, hc⟩ := strs_open hu
  obtain ⟨p2, cap2, rfl, hcap2, hmx2, _, hc2⟩ := strs_open hv
  unfold maxLen at hmx hmx2
  have HC := hid hc
  have HC2 := hid hc2
  clear hc hc2 hu hv
  by_cases hl : a.length = b.length
  · have hd : ((a.length : Int) != b.length) = false := by simp [hl]
    have hmx3 : b.length ≤ cap2 := hcap2
    go_enter Try.func35, Try.ntmps35
    go_wp2
    go_loopw [5, 13] (fun _ i wr => ∃ k : Nat, k ≤ a.length ∧ i = .int .i64 k ∧ Hid (a.take k = b.take k) ∧ Nw w wr) (fun _ i _ => a.length - (intOf i).toNat)
    case atStart => exact ⟨0, Nat.zero_le _, rfl, hid rfl, Nw.refl _⟩
    case round =>
      obtain ⟨k, hk, rfl, ht, hn⟩ := hrel
      obtain ⟨hcR, hfR, hzR⟩ := nwc hn
      by_cases hlt : k < a.length
      · have hk2 : k < b.length := by omega
        obtain ⟨b1, o1, rfl, hcell⟩ := strs_cell (HC.out.nw hn) k hlt
        obtain ⟨b2, o2, rfl, hcell2⟩ := strs_cell (HC2.out.nw hn) k hk2
        have hdk : decide (k < a.length) = true := decide_eq_true hlt
        have HT := hid (eqs_of_take a b k ht.out hlt hk2)
        by_cases he : a[k] = b[k]
        · have hde : (a[k].toList == b[k].toList) = true := by rw [he]; exact beq_self_eq_true _
          have hde2 : (a[k].toList != b[k].toList) = false := by rw [bne, hde]; rfl
          have HN := hid (HT.out.1 he)
          clear ht HT he
          generalize a[k] = x at *
          generalize b[k] = y at *
          go_upto_region 6 with fail
          go_quiet (fail)
          go_wp2
          go_roundw
          case rel => exact ⟨k + 1, by omega, by go_num, HN, (by repeat (first | assumption | exact Nw.refl _ | refine Nw.alloc ?_ _ | refine Nw.drew ?_ | refine Nw.drewN2 ?_ _ | (refine Nw.trans ?_ (by assumption))))⟩
          case measure => simp [intOf]; omega
        · have hde : (a[k].toList == b[k].toList) = false := by rw [Lx.beq_str]; exact decide_eq_false he
          have hde2 : (a[k].toList != b[k].toList) = true := by rw [bne, hde]; rfl
          have HF := hid (show decide (a = b) = false from decide_eq_false (fun h => he (by subst h; rfl)))
          clear ht he HT
          generalize a[k] = x at *
          generalize b[k] = y at *
          go_upto_region 6 with fail
          go_quiet (fail)
          go_wp2
          go_ret
          exact Gives.b HF.out.symm (by repeat (first | assumption | exact Nw.refl _ | refine Nw.alloc ?_ _ | refine Nw.drew ?_ | refine Nw.drewN2 ?_ _ | (refine Nw.trans ?_ (by assumption))))
      · have hdk : decide (k < a.length) = false := decide_eq_false hlt
        have HF := hid (show decide (a = b) = true from decide_eq_true (by have := ht.out; rwa [List.take_of_length_le (by omega), List.take_of_length_le (by omega)] at this))
        clear ht
        go_wp2
        go_ret
        exact Gives.b HF.out.symm (by repeat (first | assumption | exact Nw.refl _ | refine Nw.alloc ?_ _ | refine Nw.drew ?_ | refine Nw.drewN2 ?_ _ | (refine Nw.trans ?_ (by assumption))))
  · have hd : ((a.length : Int) != b.length) = true := by simp; omega
    have HF := hid (show decide (a = b) = false from decide_eq_false (fun h => hl (by rw [h])))
    go_enter Try.func35, Try.ntmps35
    go_wp2
    go_ret
    exact Gives.b HF.out.symm (by repeat (first | assumption | exact Nw.refl _ | refine Nw.alloc ?_ _ | refine Nw.drew ?_ | refine Nw.drewN2 ?_ _ | (refine Nw.trans ?_ (by assumption))))
end Tr
end Go.Proofs.Ytdihoedehmfgfaa
namespace Go.Proofs.Ytdihoedehmfgfaa
open Go.ChangeShapes Go.WideShapes Go.ChangeAt Go.RowKit
namespace Tr
open Go.Proofs.Ytdihoedehmfgfaa.Lx (isIn nameB strs_open strs_cell contains_c)
open Go.Proofs.Ytdihoedehmfgfaa.Rec (rises i64s_open i64_cell)
/-! ### Index -/
def idx : List ByteArray → ByteArray → Int → Int
  | [], _, _ => -1
  | y :: r, s, k => if y = s then k else idx r s (k + 1)
def idxP (l : List ByteArray) (s : ByteArray) : Int := idx l s 0
theorem idx_at (l : List ByteArray) (s : ByteArray) : ∀ (k : Nat) (n : Int), s ∉ l.take k → l[k]? = some s → idx l s n = n + k := by
  induction l with
  | nil => intro k n _ h; simp at h
  | cons y r ih =>
    intro k n h1 h2
    cases k with
    | zero =>
      obtain rfl : y = s := by simpa using h2
      simp [idx]
    | succ k =>
      rw [List.take_succ_cons, List.mem_cons, not_or] at h1
      rw [idx, if_neg (fun e => h1.1 e.symm), ih k (n + 1) h1.2 (by simpa using h2)]
      omega
theorem idx_no (l : List ByteArray) (s : ByteArray) : ∀ n : Int, s ∉ l → idx l s n = -1 := by
  induction l with
  | nil => intro n _; rfl
  | cons y r ih =>
    intro n h
    rw [List.mem_cons, not_or] at h
    rw [idx, if_neg (fun e => h.1 e.symm), ih _ h.2]
theorem idx_ge (l : List ByteArray) (s : ByteArray) : ∀ n : Int, 0 ≤ n → -1 ≤ idx l s n ∧ idx l s n < n + l.length ∨ idx l s n = -1 := by
  induction l with
  | nil => intro n _; exact Or.inr rfl
  | cons y r ih =>
    intro n h
    unfold idx
    split
    · left; simp; omega
    · rcases ih (n + 1) (by omega) with h1 | h1
      · left; simp; omega
      · exact Or.inr h1
theorem idxP_bd (l : List ByteArray) (s : ByteArray) : -1 ≤ idxP l s ∧ idxP l s ≤ l.length := by
  unfold idxP
  rcases idx_ge l s 0 (Int.le_refl _) with h | h
  · omega
  · rw [h]; omega
theorem index_c (v : Value) (l : List ByteArray) (s : ByteArray) (w : World) (hv : Sl w v (Lx.strs l)) : Calls Try.prog 86 #[v, .string s] w (Gives (.int .i64 (idxP l s)) w) := by
  obtain ⟨p, cap, rfl, hcap, hmx, _, hc⟩ := strs_open hv
  unfold maxLen at hmx
  have HC := hid hc
  clear hc hv
  go_enter Try.func86, Try.ntmps86
  go_wp2
  go_loopw [5, 8] (fun _ i wr => ∃ k : Nat, k ≤ l.length ∧ i = .int .i64 k ∧ Hid (s ∉ l.take k) ∧ Nw w wr) (fun _ i _ => l.length - (intOf i).toNat)
  case atStart => exact ⟨0, Nat.zero_le _, rfl, (by simp : s ∉ l.take 0), Nw.refl _⟩
  case round =>
    obtain ⟨k, hk, rfl, ht, hn⟩ := hrel
    by_cases hlt : k < l.length
    · have hdk : decide (k < l.length) = true := decide_eq_true hlt
      obtain ⟨b1, o1, rfl, hcell⟩ := strs_cell (HC.out.nw hn) k hlt
      by_cases he : l[k] = s
      · have hd : (s.toList == l[k].toList) = true := by rw [he]; exact beq_self_eq_true _
        have HG := hid (show idxP l s = k by
          have := idx_at l s k 0 ht.out (by rw [List.getElem?_eq_getElem hlt, he])
          rw [Int.zero_add] at this
          exact this)
        clear he
        generalize l[k] = y at *
        go_wp2
        go_ret
        exact Gives.i HG.out.symm hn
      · have hd : (s.toList == l[k].toList) = false := by rw [Lx.beq_str]; exact decide_eq_false (fun e => he e.symm)
        have HN := hid (Lx.not_take hlt ht.out he)
        clear he
        generalize l[k] = y at *
        go_wp2
        go_roundw
        case rel => exact ⟨k + 1, by omega, by go_num, HN, hn⟩
        case measure => simp [intOf]; omega
    · have hdk : decide (k < l.length) = false := decide_eq_false hlt
      have HN := hid (show idxP l s = -1 from idx_no l s 0 (by have := ht.out; rwa [List.take_of_length_le (by omega)] at this))
      go_wp2
      go_ret
      exact Gives.i HN.out.symm hn
theorem noti_take {l : List Int} {x : Int} {k : Nat} (hk : k < l.length) (h : x ∉ l.take k) (he : l.getD k 0 ≠ x) : x ∉ l.take (k + 1) := by
  rw [List.take_add_one, List.getElem?_eq_getElem hk]
  simp only [List.mem_append, Option.toList_some, List.mem_singleton, not_or]
  refine ⟨h, fun e => he ?_⟩
  rw [List.getD_eq_getElem?_getD, List.getElem?_eq_getElem hk, e]; rfl
/-! ### Equality of events -/
theorem same_c (u v : Value) (t s : Int) (a b : List Int) (w : World) (hu : Sl w u (i64s a)) (hv : Sl w v (i64s b)) :
    Calls Try.prog 24 #[.agg #[.int .u64 t, u], .agg #[.int .u64 s, v]] w (Gives (.bool (decide (t = s ∧ a = b))) w) := by
  obtain ⟨p, cap, rfl, hcap, hmx, _, hc⟩ := i64s_open hu
  obtain ⟨p2, cap2, rfl, hcap2, hmx2, _, hc2⟩ := i64s_open hv
  by_cases h : t = s
  · subst h
    have HF := hid (show decide (t = t ∧ a = b) = decide (a = b) by simp)
    go_enter Try.func24, Try.ntmps24
    go_wp2_with (first
      | (go_at_call 61; refine (eqi_c _ _ a b _ (hu.nw (by repeat (first | assumption | exact Nw.refl _ | refine Nw.alloc ?_ _ | refine Nw.drew ?_ | refine Nw.drewN2 ?_ _ | (refine Nw.trans ?_ (by assumption))))) (hv.nw (by repeat (first | assumption | exact Nw.refl _ | refine Nw.alloc ?_ _ | refine Nw.drew ?_ | refine Nw.drewN2 ?_ _ | (refine Nw.trans ?_ (by assumption)))))).mono ?_; rintro e w1 ⟨rfl, hn1⟩))
    go_ret
    exact Gives.b HF.out.symm (by repeat (first | assumption | exact Nw.refl _ | refine Nw.alloc ?_ _ | refine Nw.drew ?_ | refine Nw.drewN2 ?_ _ | (refine Nw.trans ?_ (by assumption))))
  · have hd : (t == s) = false := beq_eq_false_iff_ne.2 h
    have HF := hid (show decide (t = s ∧ a = b) = false from decide_eq_false (fun e => h e.1))
    go_enter Try.func24, Try.ntmps24
    go_wp2
    go_ret
    exact Gives.b HF.out.symm (by repeat (first | assumption | exact Nw.refl _ | refine Nw.alloc ?_ _ | refine Nw.drew ?_ | refine Nw.drewN2 ?_ _ | (refine Nw.trans ?_ (by assumption))))

theorem es_of_take (a b : Es) (n : Nat) (h : a.take n = b.take n) (h1 : n < a.length) (h2 : n < b.length) : (tm a n = tm b n ∧ ids a n = ids b n) ↔ a.take (n + 1) = b.take (n + 1) := by
  rw [List.take_add_one, List.take_add_one, h, List.append_cancel_left_eq]
  unfold tm ids
  simp only [List.getD_eq_getElem?_getD, List.getElem?_eq_getElem h1, List.getElem?_eq_getElem h2, Option.getD_some, Option.toList_some, List.cons.injEq, and_true]
  exact Prod.ext_iff.symm
theorem T.ext_iff (a b : T) : a = b ↔ a.names = b.names ∧ a.evs = b.evs := by cases a; cases b; simp
instance : DecidableEq T := fun a b => decidable_of_iff _ (T.ext_iff a b).symm
end Tr
end Go.Proofs.Ytdihoedehmfgfaa
