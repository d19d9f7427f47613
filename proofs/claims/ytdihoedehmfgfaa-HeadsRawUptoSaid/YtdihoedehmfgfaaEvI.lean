/- Rows of events whose blocks, and whose ids' blocks, are from a number on. No condition. -/
import Derived.Test.YtdihoedehmfgfaaTrG
import Derived.Test.YtdihoedehmfgfaaTrP
import Derived.Test.YtdihoedehmfgfaaModR
set_option linter.unusedSimpArgs false
set_option linter.unusedVariables false
namespace Go.Proofs.Ytdihoedehmfgfaa
open Go.ChangeShapes Go.WideShapes Go.ChangeAt Go.RowKit
namespace Lg
open Go.Proofs.Ytdihoedehmfgfaa.Tr (T Es tm ids Evs EC EvOwn CpSt CloneS evc)
theorem EvIn_apart {w : World} {B B' n : Nat} {v u : Value} {xs : List Value} {l : List Int} (h : w.ownsRow B 38 2 v n xs) (hu : Own w B' 3 u (i64s l)) : ∀ k, u.ownBlock = some k → v.ownBlock ≠ some k := fun k hk hv => by
  rcases h.2 with ⟨rfl, _⟩ | ⟨g, cap, cur, rfl, _, hh, _⟩
  · cases hv
  · cases hv
    obtain ⟨_, h2⟩ := hu
    rcases h2 with ⟨rfl, _⟩ | ⟨g', cap', cur', rfl, _, hh', _⟩
    · cases hk
    · cases hk
      rw [hh] at hh'
      injection hh' with q
      injection q with _ q2 _
      exact absurd q2 (by decide)
/-- A row of events, all of it in blocks from B on. -/
def EvIn (w : World) (B : Nat) (v : Value) (es : Es) : Prop :=
  ∃ vs : List Value, vs.length = es.length ∧ w.ownsRow B 38 2 v es.length (evc es vs) ∧ ∀ i, i < es.length → Own w B 3 (vs.getD i undef) (i64s (ids es i))
theorem EvIn.own {w : World} {B : Nat} {v : Value} {es : Es} (h : EvIn w B v es) : EvOwn w B v es := by
  obtain ⟨vs, h1, h2, h3⟩ := h
  exact ⟨vs, h1, h2, fun i hi => ⟨(h3 i hi).sl, fun _ => EvIn_apart h2 (h3 i hi)⟩⟩
theorem EvIn.evs {w : World} {B : Nat} {v : Value} {es : Es} (h : EvIn w B v es) : Evs w v es := h.own.evs
theorem EvIn.nil (w : World) (B : Nat) : EvIn w B (.slice none 0 0) [] := ⟨[], rfl, World.ownsRow_nil w B _ 2, fun i h => by cases h⟩
theorem EvIn.nw {w w' : World} {B : Nat} {v : Value} {es : Es} (h : EvIn w B v es) (hn : Nw w w') : EvIn w' B v es := by
  obtain ⟨vs, h1, h2, h3⟩ := h
  exact ⟨vs, h1, hn.ownsRow h2, fun i hi => (h3 i hi).nw hn⟩
theorem row_mono {w : World} {B B' n s : Nat} {e : TypeId} {v : Value} {xs : List Value} (h : w.ownsRow B e s v n xs) (hb : B' ≤ B) : w.ownsRow B' e s v n xs := by
  refine ⟨h.1, ?_⟩
  rcases h.2 with h4 | ⟨g, cap, cur, hv, hg, r⟩
  · exact Or.inl h4
  · exact Or.inr ⟨g, cap, cur, hv, Nat.le_trans hb hg, r⟩
theorem EvIn.mono {w : World} {B B' : Nat} {v : Value} {es : Es} (h : EvIn w B v es) (hb : B' ≤ B) : EvIn w B' v es := by
  obtain ⟨vs, h1, h2, h3⟩ := h
  exact ⟨vs, h1, row_mono h2 hb, fun i hi => (h3 i hi).mono hb⟩
theorem row_mods {S : Nat → Prop} {w w' : World} {B n s : Nat} {e : TypeId} {v : Value} {xs : List Value} (h : w.ownsRow B e s v n xs) (hm : Mods S w w') (hS : ∀ k, v.ownBlock = some k → ¬ S k) : w'.ownsRow B e s v n xs := by
  refine ⟨h.1, ?_⟩
  rcases h.2 with h4 | ⟨g, cap, cur, hv, hg, hh, r⟩
  · exact Or.inl h4
  · exact Or.inr ⟨g, cap, cur, hv, hg, hm.heap hh (hS g (by rw [hv]; rfl)), r⟩
theorem row_lt {w : World} {B n s : Nat} {e : TypeId} {v : Value} {xs : List Value} (h : w.ownsRow B e s v n xs) : ∀ k, v.ownBlock = some k → B ≤ k ∧ k < w.heap.size := fun k hk => by
  rcases h.2 with ⟨rfl, _⟩ | ⟨g, cap, cur, rfl, hg, hh, _⟩
  · cases hk
  · cases hk; exact ⟨hg, lt_of_heap hh⟩
theorem EvIn.mods {S : Nat → Prop} {w w' : World} {B : Nat} {v : Value} {es : Es} (h : EvIn w B v es) (hm : Mods S w w') (hS : ∀ k, B ≤ k → k < w.heap.size → ¬ S k) : EvIn w' B v es := by
  obtain ⟨vs, h1, h2, h3⟩ := h
  exact ⟨vs, h1, row_mods h2 hm (fun k hk => hS k (row_lt h2 k hk).1 (row_lt h2 k hk).2), fun i hi => (h3 i hi).modsR hm (fun k hk => hS k (row_lt (h3 i hi) k hk).1 (row_lt (h3 i hi) k hk).2)⟩
theorem EvIn.set {w : World} {B g j : Nat} {v x : Value} {es : Es} {a b : Value} {e : TypeId} {fr : Nat × Nat} (h : EvIn w B v es) (hgB : g < B) (_hg : w.heap[g]? = some (.cells #[a, b] e fr)) (_ha : ∀ z, Value.int .i64 z ≠ a) (_hb : ∀ z, Value.int .i64 z ≠ b) : EvIn (w.setCell ⟨g, j, none⟩ x) B v es :=
  h.mods (S := fun k => k = g) (Mods.setCell (Mods.refl (fun k => k = g) w) (p := ⟨g, j, none⟩) rfl x) (fun k hk _ e => by omega)
theorem EvIn.shape {w : World} {B n : Nat} {v : Value} {es : Es} (h : EvIn w B v es) (hn : es.length = n) : ∃ q c, v = .slice q n c := h.own.shape hn
def CpIn (wL : World) (g : Nat) (vn v : Value) (es : Es) (wr : World) : Prop := wr.heap[g]? = some (.cells #[vn, v] 34 (0, 0)) ∧ EvIn wr wL.heap.size v es ∧ Mods (· = g) wL wr
theorem CpIn.nw {wL w w' : World} {g : Nat} {vn v : Value} {es : Es} (h : CpIn wL g vn v es w) (hn : Nw w w') : CpIn wL g vn v es w' := ⟨hn.heap h.1, h.2.1.nw hn, h.2.2.nw hn⟩
theorem CpIn.step {wL wz wR w2 : World} {g n : Nat} {p : Option Addr} {m c : Nat} {v v2 u : Value} {es : Es} {vs : List Value} {t : Int} {l : List Int} (hz : CpIn wL g (.slice p m c) v es wz) (hR : Nw wz wR) (hg : g < wL.heap.size) (hl : es.length = n)
    (h1 : vs.length = es.length) (hrow : wz.ownsRow wL.heap.size 38 2 v es.length (evc es vs)) (h3 : ∀ i, i < es.length → Own wz wL.heap.size 3 (vs.getD i undef) (i64s (ids es i)))
    (hu : CloneS wz.heap.size l wR u) (ho : w2.ownsRow wL.heap.size 38 2 v2 (es.length + 1) (evc es vs ++ [.int .u64 t, u])) (hgr : wR.grownBy w2 v.ownBlock) (hat : v2.ownBlock = v.ownBlock ∨ v2.ownBlock = some wR.heap.size) :
    (∃ q d, v2 = .slice q (n + 1) d) ∧ w2.heap[g]? = some (.cells #[.slice p m c, v] 34 (0, 0)) ∧ CpIn wL g (.slice p m c) v2 (es ++ [(t, l)]) (w2.setCell ⟨g, 1, none⟩ v2) := by
  have hz0 : CpSt wL g (.slice p m c) v es wz := ⟨hz.1, hz.2.1.own, hz.2.2⟩
  have hst := CpSt.step hz0 hR hg hl h1 hrow (fun i hi => ⟨(h3 i hi).sl, fun _ => EvIn_apart hrow (h3 i hi)⟩) hu ho hgr hat
  refine ⟨hst.1, hst.2.1, hst.2.2.1, ?_, hst.2.2.2.2⟩
  have hmg : Mods (fun k => v.ownBlock = some k) wR w2 := Mods.grownIn (Mods.refl _ wR) hgr (fun k q => Or.inl q)
  have hev : EvIn w2 wL.heap.size v2 (es ++ [(t, l)]) := by
    refine ⟨vs ++ [u], by simp [h1], ?_, fun i hi => ?_⟩
    · rw [List.length_append, List.length_singleton]
      have e : evc (es ++ [(t, l)]) (vs ++ [u]) = evc es vs ++ [.int .u64 t, u] := by
        unfold Tr.evc
        rw [List.zip_append (by omega), List.flatMap_append]
        rfl
      rw [e]; exact ho
    · rw [List.length_append, List.length_singleton] at hi
      by_cases hlt : i < es.length
      · rw [Tr.ids_snoc_lt _ _ _ hlt, List.getD_eq_getElem?_getD, List.getElem?_append_left (by omega), ← List.getD_eq_getElem?_getD]
        have hoi := (h3 i hlt).nw hR
        exact hoi.modsR hmg (fun k hk q => EvIn_apart (hR.ownsRow hrow) hoi k hk q)
      · obtain rfl : i = es.length := by omega
        rw [Tr.ids_snoc, List.getD_eq_getElem?_getD, List.getElem?_append_right (by omega), show es.length - vs.length = 0 by omega]
        have hu2 : Own wR wL.heap.size 3 u (i64s l) := Own.mono hu hz.2.2.size
        exact hu2.modsR hmg (fun k hk q => EvIn_apart (hR.ownsRow hrow) hu2 k hk q)
  exact hev.mods (S := fun k => k = g) (Mods.setCell (Mods.refl (fun k => k = g) w2) (p := ⟨g, 1, none⟩) rfl v2) (fun k hk _ e => by omega)
end Lg
end Go.Proofs.Ytdihoedehmfgfaa
