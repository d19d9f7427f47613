/- Traces: which may be, and what is told of them (plain); how they read in memory; traces that come in. No program in sight but the types. -/
import Derived.Test.YtjelbfodkacipaaLexD
import Derived.Test.YtjelbfodkacipaaRec
import Derived.SliceStrings
import Derived.Lib.SmallJoins
set_option linter.unusedSimpArgs false
set_option linter.unusedVariables false
namespace Go.Proofs.Ytjelbfodkacipaa
open Go.ChangeShapes Go.WideShapes Go.ChangeAt Go.RowKit
namespace Tr
open Go.Proofs.Ytjelbfodkacipaa.Lx (isIn nameB)
open Go.Proofs.Ytjelbfodkacipaa.Rec (rises)
abbrev Es := List (Int × List Int)
structure T where
  names : List ByteArray
  evs : Es
def none_ : T := ⟨[], []⟩
def nmB (s : ByteArray) : Bool := nameB s.data.toList
def nOk (l : List ByteArray) (i : Nat) : Bool := nmB (l.getD i ⟨#[]⟩) && !isIn (l.getD i ⟨#[]⟩) (l.take i)
def namesTo (l : List ByteArray) (k : Nat) : Bool := (List.range k).all (nOk l)
def namesP (l : List ByteArray) : Bool := decide (l.length ≤ 64) && namesTo l l.length
def tm (es : Es) (i : Nat) : Int := (es.getD i (0, [])).1
def ids (es : Es) (i : Nat) : List Int := (es.getD i (0, [])).2
def eOk (n : Int) (es : Es) (i : Nat) : Bool := rises (ids es i) n && (decide (i = 0) || !decide (tm es i < tm es (i - 1)))
def mayTo (n : Int) (es : Es) (k : Nat) : Bool := (List.range k).all (eOk n es)
def evsP (n : Int) (es : Es) : Bool := mayTo n es es.length
def mayP (t : T) : Bool := namesP t.names && evsP t.names.length t.evs
theorem to_succ (p : Nat → Bool) (k : Nat) : (List.range (k + 1)).all p = ((List.range k).all p && p k) := by
  rw [List.range_succ, List.all_append]; simp
theorem to_no (p : Nat → Bool) (n i : Nat) (h : i < n) (hn : p i = false) : (List.range n).all p = false := by
  cases hb : (List.range n).all p with
  | false => rfl
  | true => rw [List.all_eq_true] at hb; have := hb i (by simpa using h); rw [hn] at this; cases this
theorem names_no {l : List ByteArray} {i : Nat} (h : i < l.length) (hn : nOk l i = false) : namesP l = false := by
  unfold namesP namesTo; rw [to_no _ _ _ h hn, Bool.and_false]
theorem names_yes {l : List ByteArray} (h : l.length ≤ 64) (hu : namesTo l l.length = true) : namesP l = true := by
  unfold namesP; rw [hu, decide_eq_true h]; rfl
theorem evs_no {n : Int} {es : Es} {i : Nat} (h : i < es.length) (hn : eOk n es i = false) : evsP n es = false := to_no _ _ _ h hn
theorem ids_no {n : Int} {es : Es} {i : Nat} (h : rises (ids es i) n = false) : eOk n es i = false := by unfold eOk; rw [h]; rfl
theorem tm_no {n : Int} {es : Es} {i : Nat} (h : rises (ids es i) n = true) (h0 : 0 < i) (h1 : tm es i < tm es (i - 1)) : eOk n es i = false := by
  unfold eOk; rw [h, decide_eq_false (by omega), decide_eq_true h1]; rfl
theorem e_yes {n : Int} {es : Es} {i : Nat} (h : rises (ids es i) n = true) (h0 : i = 0 ∨ ¬ tm es i < tm es (i - 1)) : eOk n es i = true := by
  unfold eOk; rw [h]
  rcases h0 with h0 | h0
  · rw [decide_eq_true h0]; rfl
  · rw [decide_eq_false h0]; simp
/-! ### How they read -/
def EC (w : World) (p : Option Addr) (es : Es) : Prop :=
  ∀ i, i < es.length → ∃ b off vi, p = some ⟨b, off, none⟩ ∧ w.cell? ⟨b, off + i * 2, none⟩ = some (.int .u64 (tm es i)) ∧ w.cell? ⟨b, off + i * 2 + 1, none⟩ = some vi ∧ Sl w vi (i64s (ids es i))
theorem EC.nw {w w' : World} {p : Option Addr} {es : Es} (h : EC w p es) (hn : Nw w w') : EC w' p es := fun i hi => by
  obtain ⟨b, off, vi, e, h1, h2, h3⟩ := h i hi
  exact ⟨b, off, vi, e, hn.cell h1, hn.cell h2, h3.nw hn⟩
theorem tm_take (es : Es) (k i : Nat) (h : i < k) : tm (es.take k) i = tm es i := by
  simp [tm, List.getD_eq_getElem?_getD, h]
theorem ids_take (es : Es) (k i : Nat) (h : i < k) : ids (es.take k) i = ids es i := by
  simp [ids, List.getD_eq_getElem?_getD, h]
theorem EC.take {w : World} {p : Option Addr} {es : Es} (h : EC w p es) (k : Nat) : EC w p (es.take k) := fun i hi => by
  rw [List.length_take] at hi
  rw [tm_take _ _ _ (by omega), ids_take _ _ _ (by omega)]
  exact h i (by omega)
def Evs (w : World) (v : Value) (es : Es) : Prop := ∃ p cap, v = .slice p es.length cap ∧ es.length ≤ cap ∧ cap ≤ maxLen ∧ (p = none → cap = 0) ∧ EC w p es
theorem Evs.nw {w w' : World} {v : Value} {es : Es} (h : Evs w v es) (hn : Nw w w') : Evs w' v es := by
  obtain ⟨p, cap, e, h1, h2, h3, h4⟩ := h
  exact ⟨p, cap, e, h1, h2, h3, h4.nw hn⟩
theorem Evs.nil (w : World) : Evs w (.slice none 0 0) [] := ⟨none, 0, rfl, Nat.le_refl _, Nat.zero_le _, fun _ => rfl, fun i h => by cases h⟩
theorem Evs.cut {w : World} {p : Option Addr} {cap : Nat} {es : Es} (k m : Nat) (hk : m = (es.take k).length) (hcap : es.length ≤ cap) (hm : cap ≤ maxLen) (h0 : p = none → cap = 0) (h : EC w p es) : Evs w (.slice p m cap) (es.take k) := by
  subst hk
  exact ⟨p, cap, rfl, by rw [List.length_take]; omega, hm, h0, h.take k⟩
/-- A trace. -/
def TrR (w : World) (v : Value) (t : T) : Prop := ∃ vn ve, v = .agg #[vn, ve] ∧ Sl w vn (Lx.strs t.names) ∧ Evs w ve t.evs
theorem TrR.nw {w w' : World} {v : Value} {t : T} (h : TrR w v t) (hn : Nw w w') : TrR w' v t := by
  obtain ⟨vn, ve, e, h1, h2⟩ := h
  exact ⟨vn, ve, e, h1.nw hn, h2.nw hn⟩
theorem TrR.none_ (w : World) : TrR w (.agg #[.slice none 0 0, .slice none 0 0]) none_ := ⟨_, _, rfl, Sl.nil w, Evs.nil w⟩
/-- A call hands back a trace, and only makes new blocks. -/
def HandsT (w : World) (t : T) (e : Ending) (w' : World) : Prop := ∃ v, e = .returned v ∧ TrR w' v t ∧ Nw w w'
/-! ### Traces that come in -/
section
variable {H : Type} {enc : TypeId × Value → H} {P : Program}
theorem bulk_mem (l : List (DataW H)) : ∀ x ∈ l, Rows.uptoBulk x ≤ Rows.uptoBulkAll l := by
  induction l with
  | nil => intro x h; cases h
  | cons y r ih =>
    intro x h
    rw [Rows.uptoBulkAll]
    rcases List.mem_cons.1 h with rfl | h
    · omega
    · have := ih x h; omega
/-- A slice of strings. -/
theorem open_strs_at {t e : TypeId} {W : World} {n : Nat} {v : Value} {y : DataW H × List MemPlace} (ht : P.underlying t = some (.slice e)) (he : P.underlying e = some .string) (hc : P.cellsOf e = 1)
    (hf : DataW.trod enc P W 0 (fun _ => true) true n t [v] = some y) :
    ∃ l : List ByteArray, Sl W v (Lx.strs l) ∧ l.length ≤ Rows.uptoBulk y.1 ∧ (∀ s ∈ l, s.size ≤ Rows.uptoBulk y.1) := by
  obtain ⟨d, p⟩ := y
  rcases open_strings ht he hc hf with ⟨hcs, hx⟩ | ⟨a, len', cap', ss, hcs, _, hl, hm, hz, hx, hcell, hsz⟩
  · simp at hcs
    subst hcs
    exact ⟨[], Sl.nil W, Nat.zero_le _, fun s h => by cases h⟩
  · simp at hcs
    subst hcs
    simp only [Prod.mk.injEq] at hx
    obtain ⟨rfl, _⟩ := hx
    simp only [if_true] at hz
    have hlen : (ss.take len').length = len' := by simp; omega
    refine ⟨ss.take len', ⟨some a, cap', by simp [Lx.strs]; omega, by simp [Lx.strs]; omega, hm, (fun h => by cases h), Cells.of_add fun i hi => ?_⟩, ?_, ?_⟩
    · simp [Lx.strs] at hi
      rw [hcell i (by omega)]
      simp [Lx.strs, List.getD_eq_getElem?_getD, List.getElem?_eq_getElem (show i < ss.length by omega)]
    · have h1 := bulk_len (Go.ChangeShapes.strs (H := H) (ss.take len'))
      rw [show (Go.ChangeShapes.strs (H := H) (ss.take len')).length = (ss.take len').length by simp [Go.ChangeShapes.strs]] at h1
      simp only [Rows.uptoBulk]
      omega
    · intro s hs
      have h1 := bulk_mem (Go.ChangeShapes.strs (H := H) (ss.take len')) (.lit (.string s.data.toList)) (List.mem_map.2 ⟨s, hs, rfl⟩)
      have h2 : s.size = s.data.toList.length := (show s.data.size = s.data.toList.length from Array.length_toList.symm)
      simp only [Rows.uptoBulk] at h1 ⊢
      omega
end
end Tr
end Go.Proofs.Ytjelbfodkacipaa
