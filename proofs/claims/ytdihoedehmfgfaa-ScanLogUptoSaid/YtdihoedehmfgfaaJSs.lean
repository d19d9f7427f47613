/- Joined texts.
Rows of events whose blocks, and whose ids' blocks, are from a number on. No condition.
What is told of any bytes, record by record: plain. No condition.
The contract of log.Decode, its events in blocks of the call's own. No condition but lengths.
-/
import Derived.Test.YtdihoedehmfgfaaTrG
import Derived.Test.YtdihoedehmfgfaaTrP
import Derived.Test.YtdihoedehmfgfaaScanC
import Derived.Test.YtdihoedehmfgfaaLogF
import Derived.Test.YtdihoedehmfgfaaLogH
import Derived.Test.YtdihoedehmfgfaaScanA
set_option linter.unusedSimpArgs false
set_option linter.unusedVariables false
namespace Go.Proofs.Ytdihoedehmfgfaa
open Go.ChangeShapes Go.WideShapes Go.ChangeAt Go.RowKit
namespace Lg
open Go.Proofs.Ytdihoedehmfgfaa.Tr (T Es tm ids Evs EC EvOwn CpSt CloneS evc)
theorem EvIn_apart {w : World} {B B' n : Nat} {v u : Value} {xs : List Value} {l : List Int} (h : w.ownsRow B 38 2 v n xs) (hu : Own w B' 3 u (i64s l)) : ∀ k, u.ownBlock = some k → v.ownBlock ≠ some k := fun k hk hv => by
  rcases h.2 with ⟨rfl, _⟩ | ⟨g, cap, cur, rfl, _, hh, _⟩
  · cases hv
  · cases hv
    obtain ⟨_, h2⟩ := hu
    rcases h2 with ⟨rfl, _⟩ | ⟨g', cap', cur', rfl, _, hh', _⟩
    · cases hk
    · cases hk
      rw [hh] at hh'
      injection hh' with q
      injection q with _ q2 _
      exact absurd q2 (by decide)
/-- A row of events, all of it in blocks from B on. -/
def EvIn (w : World) (B : Nat) (v : Value) (es : Es) : Prop :=
  ∃ vs : List Value, vs.length = es.length ∧ w.ownsRow B 38 2 v es.length (evc es vs) ∧ ∀ i, i < es.length → Own w B 3 (vs.getD i undef) (i64s (ids es i))
theorem EvIn.own {w : World} {B : Nat} {v : Value} {es : Es} (h : EvIn w B v es) : EvOwn w B v es := by
  obtain ⟨vs, h1, h2, h3⟩ := h
  exact ⟨vs, h1, h2, fun i hi => ⟨(h3 i hi).sl, fun _ => EvIn_apart h2 (h3 i hi)⟩⟩
theorem EvIn.evs {w : World} {B : Nat} {v : Value} {es : Es} (h : EvIn w B v es) : Evs w v es := h.own.evs
theorem EvIn.nil (w : World) (B : Nat) : EvIn w B (.slice none 0 0) [] := ⟨[], rfl, World.ownsRow_nil w B _ 2, fun i h => by cases h⟩
theorem EvIn.nw {w w' : World} {B : Nat} {v : Value} {es : Es} (h : EvIn w B v es) (hn : Nw w w') : EvIn w' B v es := by
  obtain ⟨vs, h1, h2, h3⟩ := h
  exact ⟨vs, h1, hn.ownsRow h2, fun i hi => (h3 i hi).nw hn⟩
theorem row_mono {w : World} {B B' n s : Nat} {e : TypeId} {v : Value} {xs : List Value} (h : w.ownsRow B e s v n xs) (hb : B' ≤ B) : w.ownsRow B' e s v n xs := by
  refine ⟨h.1, ?_⟩
  rcases h.2 with h4 | ⟨g, cap, cur, hv, hg, r⟩
  · exact Or.inl h4
  · exact Or.inr ⟨g, cap, cur, hv, Nat.le_trans hb hg, r⟩
theorem EvIn.mono {w : World} {B B' : Nat} {v : Value} {es : Es} (h : EvIn w B v es) (hb : B' ≤ B) : EvIn w B' v es := by
  obtain ⟨vs, h1, h2, h3⟩ := h
  exact ⟨vs, h1, row_mono h2 hb, fun i hi => (h3 i hi).mono hb⟩
theorem row_mods {S : Nat → Prop} {w w' : World} {B n s : Nat} {e : TypeId} {v : Value} {xs : List Value} (h : w.ownsRow B e s v n xs) (hm : Mods S w w') (hS : ∀ k, v.ownBlock = some k → ¬ S k) : w'.ownsRow B e s v n xs := by
  refine ⟨h.1, ?_⟩
  rcases h.2 with h4 | ⟨g, cap, cur, hv, hg, hh, r⟩
  · exact Or.inl h4
  · exact Or.inr ⟨g, cap, cur, hv, hg, hm.heap hh (hS g (by rw [hv]; rfl)), r⟩
theorem row_lt {w : World} {B n s : Nat} {e : TypeId} {v : Value} {xs : List Value} (h : w.ownsRow B e s v n xs) : ∀ k, v.ownBlock = some k → B ≤ k ∧ k < w.heap.size := fun k hk => by
  rcases h.2 with ⟨rfl, _⟩ | ⟨g, cap, cur, rfl, hg, hh, _⟩
  · cases hk
  · cases hk; exact ⟨hg, lt_of_heap hh⟩
theorem EvIn.mods {S : Nat → Prop} {w w' : World} {B : Nat} {v : Value} {es : Es} (h : EvIn w B v es) (hm : Mods S w w') (hS : ∀ k, B ≤ k → k < w.heap.size → ¬ S k) : EvIn w' B v es := by
  obtain ⟨vs, h1, h2, h3⟩ := h
  exact ⟨vs, h1, row_mods h2 hm (fun k hk => hS k (row_lt h2 k hk).1 (row_lt h2 k hk).2), fun i hi => (h3 i hi).modsR hm (fun k hk => hS k (row_lt (h3 i hi) k hk).1 (row_lt (h3 i hi) k hk).2)⟩
theorem EvIn.set {w : World} {B g j : Nat} {v x : Value} {es : Es} {a b : Value} {e : TypeId} {fr : Nat × Nat} (h : EvIn w B v es) (hgB : g < B) (_hg : w.heap[g]? = some (.cells #[a, b] e fr)) (_ha : ∀ z, Value.int .i64 z ≠ a) (_hb : ∀ z, Value.int .i64 z ≠ b) : EvIn (w.setCell ⟨g, j, none⟩ x) B v es :=
  h.mods (S := fun k => k = g) (Mods.setCell (Mods.refl (fun k => k = g) w) (p := ⟨g, j, none⟩) rfl x) (fun k hk _ e => by omega)
theorem EvIn.shape {w : World} {B n : Nat} {v : Value} {es : Es} (h : EvIn w B v es) (hn : es.length = n) : ∃ q c, v = .slice q n c := h.own.shape hn
def CpIn (wL : World) (g : Nat) (vn v : Value) (es : Es) (wr : World) : Prop := wr.heap[g]? = some (.cells #[vn, v] 34 (0, 0)) ∧ EvIn wr wL.heap.size v es ∧ Mods (· = g) wL wr
theorem CpIn.nw {wL w w' : World} {g : Nat} {vn v : Value} {es : Es} (h : CpIn wL g vn v es w) (hn : Nw w w') : CpIn wL g vn v es w' := ⟨hn.heap h.1, h.2.1.nw hn, h.2.2.nw hn⟩
theorem CpIn.step {wL wz wR w2 : World} {g n : Nat} {p : Option Addr} {m c : Nat} {v v2 u : Value} {es : Es} {vs : List Value} {t : Int} {l : List Int} (hz : CpIn wL g (.slice p m c) v es wz) (hR : Nw wz wR) (hg : g < wL.heap.size) (hl : es.length = n)
    (h1 : vs.length = es.length) (hrow : wz.ownsRow wL.heap.size 38 2 v es.length (evc es vs)) (h3 : ∀ i, i < es.length → Own wz wL.heap.size 3 (vs.getD i undef) (i64s (ids es i)))
    (hu : CloneS wz.heap.size l wR u) (ho : w2.ownsRow wL.heap.size 38 2 v2 (es.length + 1) (evc es vs ++ [.int .u64 t, u])) (hgr : wR.grownBy w2 v.ownBlock) (hat : v2.ownBlock = v.ownBlock ∨ v2.ownBlock = some wR.heap.size) :
    (∃ q d, v2 = .slice q (n + 1) d) ∧ w2.heap[g]? = some (.cells #[.slice p m c, v] 34 (0, 0)) ∧ CpIn wL g (.slice p m c) v2 (es ++ [(t, l)]) (w2.setCell ⟨g, 1, none⟩ v2) := by
  have hz0 : CpSt wL g (.slice p m c) v es wz := ⟨hz.1, hz.2.1.own, hz.2.2⟩
  have hst := CpSt.step hz0 hR hg hl h1 hrow (fun i hi => ⟨(h3 i hi).sl, fun _ => EvIn_apart hrow (h3 i hi)⟩) hu ho hgr hat
  refine ⟨hst.1, hst.2.1, hst.2.2.1, ?_, hst.2.2.2.2⟩
  have hmg : Mods (fun k => v.ownBlock = some k) wR w2 := Mods.grownIn (Mods.refl _ wR) hgr (fun k q => Or.inl q)
  have hev : EvIn w2 wL.heap.size v2 (es ++ [(t, l)]) := by
    refine ⟨vs ++ [u], by simp [h1], ?_, fun i hi => ?_⟩
    · rw [List.length_append, List.length_singleton]
      have e : evc (es ++ [(t, l)]) (vs ++ [u]) = evc es vs ++ [.int .u64 t, u] := by
        unfold Tr.evc
        rw [List.zip_append (by omega), List.flatMap_append]
        rfl
      rw [e]; exact ho
    · rw [List.length_append, List.length_singleton] at hi
      by_cases hlt : i < es.length
      · rw [Tr.ids_snoc_lt _ _ _ hlt, List.getD_eq_getElem?_getD, List.getElem?_append_left (by omega), ← List.getD_eq_getElem?_getD]
        have hoi := (h3 i hlt).nw hR
        exact hoi.modsR hmg (fun k hk q => EvIn_apart (hR.ownsRow hrow) hoi k hk q)
      · obtain rfl : i = es.length := by omega
        rw [Tr.ids_snoc, List.getD_eq_getElem?_getD, List.getElem?_append_right (by omega), show es.length - vs.length = 0 by omega]
        have hu2 : Own wR wL.heap.size 3 u (i64s l) := Own.mono hu hz.2.2.size
        exact hu2.modsR hmg (fun k hk q => EvIn_apart (hR.ownsRow hrow) hu2 k hk q)
  exact hev.mods (S := fun k => k = g) (Mods.setCell (Mods.refl (fun k => k = g) w2) (p := ⟨g, 1, none⟩) rfl v2) (fun k hk _ e => by omega)
end Lg
end Go.Proofs.Ytdihoedehmfgfaa
namespace Go.Proofs.Ytdihoedehmfgfaa
open Go.ChangeShapes Go.WideShapes Go.ChangeAt Go.RowKit
namespace Hp
open Go.Proofs.Ytdihoedehmfgfaa.Rec (none_ get rec_ rec_len)
open Go.Proofs.Ytdihoedehmfgfaa.Sc (recP)
open Go.Proofs.Ytdihoedehmfgfaa.Tr (T Es tm ids)
open Go.Proofs.Ytdihoedehmfgfaa.Lg (recs headerP recsX headR headL headE head_same recsP)
theorem tm_left (a b : Es) (j : Nat) (h : j < a.length) : tm (a ++ b) j = tm a j := by
  unfold Tr.tm; rw [List.getD_eq_getElem?_getD, List.getD_eq_getElem?_getD, List.getElem?_append_left h]
theorem ids_left (a b : Es) (j : Nat) (h : j < a.length) : ids (a ++ b) j = ids a j := by
  unfold Tr.ids; rw [List.getD_eq_getElem?_getD, List.getD_eq_getElem?_getD, List.getElem?_append_left h]
theorem tm_last (a : Es) (x : Int × List Int) : tm (a ++ [x]) a.length = x.1 := by
  unfold Tr.tm; rw [List.getD_eq_getElem?_getD, List.getElem?_append_right (Nat.le_refl _), Nat.sub_self]; rfl
theorem ids_last (a : Es) (x : Int × List Int) : ids (a ++ [x]) a.length = x.2 := by
  unfold Tr.ids; rw [List.getD_eq_getElem?_getD, List.getElem?_append_right (Nat.le_refl _), Nat.sub_self]; rfl
/-- What holds of a record that is told. -/
def Told (b : List UInt8) (p : Int) (es : Es) (q : Nat → Nat) (j : Nat) : Prop :=
  (j = 0 ∨ ¬ tm es j < tm es (j - 1)) ∧ get (b.drop (q j)) p = ((tm es j, ids es j), ((14 + (ids es j).length : Nat) : Int), 0) ∧ q (j + 1) = q j + (14 + (ids es j).length) ∧ q (j + 1) ≤ b.length
def Ends (b : List UInt8) (p : Int) (es : Es) (i : Nat) (e : Int) : Prop :=
  ∃ x n g, get (b.drop i) p = (x, n, g) ∧ ((g ≠ 0 ∧ e = g) ∨ (g = 0 ∧ e = 8 ∧ 0 < es.length ∧ x.1 < tm es (es.length - 1)))
theorem recs_told (b : List UInt8) (p : Int) (h0 : 0 ≤ p) (h1 : p ≤ 64) : ∀ (f i : Nat) (es0 es : Es) (e : Int), recs b p f i es0 = (es, e) → b.length + 1 ≤ i + f → i ≤ b.length →
    ∃ (new : Es) (q : Nat → Nat), es = es0 ++ new ∧ q es0.length = i ∧ (∀ j, es0.length ≤ j → j < es.length → Told b p es q j) ∧ q es.length ≤ b.length ∧ Ends b p es (q es.length) e
  | 0, i, es0, es, e, _, hf, hi => by omega
  | f + 1, i, es0, es, e, h, hf, hi => by
    obtain ⟨x, n, g, hg⟩ : ∃ x n g, get (b.drop i) p = (x, n, g) := ⟨_, _, _, rfl⟩
    rw [recs, hg] at h
    dsimp only at h
    split at h
    · rename_i hne
      simp only [Prod.mk.injEq] at h
      obtain ⟨rfl, rfl⟩ := h
      exact ⟨[], fun _ => i, by simp, rfl, fun j hj1 hj2 => by omega, hi, x, n, g, hg, Or.inl ⟨hne, rfl⟩⟩
    · rename_i hne
      have hg0 : g = 0 := by omega
      subst hg0
      split at h
      · rename_i ht
        simp only [Prod.mk.injEq] at h
        obtain ⟨rfl, rfl⟩ := h
        exact ⟨[], fun _ => i, by simp, rfl, fun j hj1 hj2 => by omega, hi, x, n, 0, hg, Or.inr ⟨rfl, rfl, ht.1, ht.2⟩⟩
      · rename_i ht
        obtain ⟨rest, hb, hn, hr, ht0, ht1⟩ := Lg.get_inv h0 h1 hg
        have hlen := congrArg List.length hb
        rw [List.length_append, rec_len, List.length_drop] at hlen
        rw [hn, Int.toNat_natCast] at h
        obtain ⟨new, q, e1, e2, e3, e4, e5⟩ := recs_told b p h0 h1 f _ _ _ _ h (by omega) (by omega)
        rw [List.length_append, List.length_singleton] at e2 e3
        have hel : es.length = es0.length + 1 + new.length := by rw [e1, List.length_append, List.length_append, List.length_singleton]
        have etm : tm es es0.length = x.1 := by rw [e1, tm_left _ _ _ (by rw [List.length_append, List.length_singleton]; omega), tm_last]
        have eid : ids es es0.length = x.2 := by rw [e1, ids_left _ _ _ (by rw [List.length_append, List.length_singleton]; omega), ids_last]
        refine ⟨x :: new, fun j => if j = es0.length then i else q j, by rw [e1, List.append_assoc]; rfl, if_pos rfl, fun j hj1 hj2 => ?_, ?_, ?_⟩
        · by_cases hj : j = es0.length
          · subst hj
            refine ⟨?_, ?_, ?_, ?_⟩
            · rcases Nat.eq_zero_or_pos es0.length with z | z
              · exact Or.inl z
              · refine Or.inr (fun y => ht ⟨z, ?_⟩)
                rw [etm, e1, List.append_assoc, tm_left _ _ _ (by omega)] at y
                exact y
            · dsimp only
              rw [if_pos rfl, hg, etm, eid, hn]
            · dsimp only
              rw [if_neg (by omega), if_pos rfl, e2, eid]
            · dsimp only
              rw [if_neg (by omega), e2]
              omega
          · obtain ⟨a1, a2, a3, a4⟩ := e3 j (by omega) hj2
            refine ⟨a1, ?_, ?_, ?_⟩
            · dsimp only
              rw [if_neg hj]; exact a2
            · dsimp only
              rw [if_neg (by omega), if_neg hj]; exact a3
            · dsimp only
              rw [if_neg (by omega)]; exact a4
        · dsimp only
          rw [if_neg (by omega)]; exact e4
        · dsimp only
          rw [if_neg (by omega)]; exact e5
/-- The errors of a record that can't be told. -/
theorem get_errs {b : List UInt8} {p : Int} {x : Int × List Int} {n g : Int} (h : get b p = (x, n, g)) : g = 0 ∨ g = 13 ∨ g = 7 ∨ g = 2 ∨ g = 6 ∨ g = 9 := by
  have hg : (get b p).2.2 = g := by rw [h]
  rw [← hg]
  unfold Rec.get
  split
  · exact Or.inr (Or.inl rfl)
  split
  · exact Or.inr (Or.inr (Or.inl rfl))
  split
  · exact Or.inr (Or.inr (Or.inr (Or.inl rfl)))
  split
  · exact Or.inr (Or.inr (Or.inl rfl))
  split
  · exact Or.inr (Or.inr (Or.inr (Or.inr (Or.inl rfl))))
  split
  · exact Or.inl rfl
  · exact Or.inr (Or.inr (Or.inr (Or.inr (Or.inr rfl))))
/-- What is told behind the last record: g; the error that log's Decode tells: f. -/
def Last (b : List UInt8) (p : Int) (es : Es) (i : Nat) (f : Int) : Prop :=
  ∃ t xl n g, recP b b.length (i : Int) p = ((t, xl), n, g) ∧ ((g = 13 ∧ f = 13) ∨ (f = g ∧ (g = 7 ∨ g = 2 ∨ g = 6 ∨ g = 9)) ∨ (g = 0 ∧ f = 8 ∧ 0 < es.length ∧ t < tm es (es.length - 1)))
theorem whole_told {b : List UInt8} {l : List ByteArray} {i : Int} {es : Es} {f : Int} (hh : headR b 5 = (l, i, 0)) (hr : recsP b l i.toNat = (es, f)) :
    ∃ q : Nat → Nat, i = (q 0 : Nat) ∧ l.length ≤ 64 ∧ (∀ j, j < es.length → recP b b.length (q j : Int) l.length = ((tm es j, ids es j), ((q (j + 1) : Nat) : Int), 0) ∧ q j + 14 ≤ q (j + 1) ∧ q (j + 1) ≤ b.length) ∧ q es.length ≤ b.length ∧ es.length ≤ b.length ∧ Last b l.length es (q es.length) f := by
  rw [head_same] at hh
  obtain ⟨n, rfl, h9, hnb, hnm⟩ := Lg.head_ok b l i hh
  have hl64 := Lg.names_le hnm
  rw [Int.toNat_natCast] at hr
  obtain ⟨new, q, e1, e2, e3, e4, x, n2, g, hg, hend⟩ := recs_told b l.length (by omega) (by omega) _ _ _ _ _ hr (by omega) hnb
  rw [List.length_nil] at e2 e3
  have hgrow : ∀ j, j ≤ es.length → j ≤ q j := by
    intro j
    induction j with
    | zero => intro _; omega
    | succ j ih =>
      intro hj
      have h1 := ih (by omega)
      have h2 := (e3 j (Nat.zero_le _) (by omega)).2.2.1
      omega
  refine ⟨q, by rw [e2], hl64, fun j hj => ?_, e4, Nat.le_trans (hgrow _ (Nat.le_refl _)) e4, ?_⟩
  · obtain ⟨a1, a2, a3, a4⟩ := e3 j (Nat.zero_le _) hj
    refine ⟨?_, by omega, a4⟩
    unfold recP
    rw [if_neg (by omega), if_neg (by omega), Int.toNat_natCast, Nat.min_eq_left (by omega), List.take_of_length_le (Nat.le_refl _), a2]
    dsimp only
    rw [if_neg (by omega), if_neg (by omega), a3]
    congr 2
  · by_cases hb : b.length ≤ q es.length
    · have he : b.drop (q es.length) = [] := List.drop_eq_nil_of_le hb
      rw [he, Lg.get_nil] at hg
      have hg13 : g = 13 := (congrArg (fun x : Rec.Got => x.2.2) hg).symm
      refine ⟨0, [], 0, 13, ?_, Or.inl ⟨rfl, ?_⟩⟩
      · unfold recP
        rw [if_neg (by omega), if_pos (by omega)]
        rfl
      · rcases hend with ⟨_, h⟩ | ⟨h, _⟩
        · omega
        · omega
    · have hp : recP b b.length (q es.length : Int) l.length = if g ≠ 0 then none_ g else (x, (q es.length : Int) + n2, 0) := by
        unfold recP
        rw [if_neg (by omega), if_neg (by omega), Int.toNat_natCast, Nat.min_eq_left e4, List.take_of_length_le (Nat.le_refl _), hg]
        dsimp only
        rw [if_neg (by omega)]
      rcases hend with ⟨hne, rfl⟩ | ⟨rfl, rfl, h3, h4⟩
      · rw [if_pos hne] at hp
        refine ⟨0, [], 0, _, hp, ?_⟩
        rcases get_errs hg with h | h | h
        · exact absurd h hne
        · exact Or.inl ⟨h, h⟩
        · exact Or.inr (Or.inl ⟨rfl, h⟩)
      · rw [if_neg (by decide)] at hp
        obtain ⟨t, xl⟩ := x
        exact ⟨t, xl, _, 0, hp, Or.inr (Or.inr ⟨rfl, rfl, h3, h4⟩)⟩
/-- What log's Decode tells of bytes with a right header. -/
theorem dec_whole {b : List UInt8} {l : List ByteArray} {i : Int} {es : Es} {f : Int} (hh : headR b 5 = (l, i, 0)) (hr : recsP b l i.toNat = (es, f)) : Lg.decP b = ((⟨l, es⟩ : T), ((es.length : Int), if f = 13 then 0 else f)) := by
  rw [head_same] at hh
  unfold Lg.decP
  rw [hh]
  dsimp only
  rw [if_neg (by decide), hr]
/-- A header is right, or is none. -/
theorem head_two (b : List UInt8) : (headR b 5 = Lg.noHd 5 ∧ Lg.decP b = ((⟨[], []⟩ : T), ((0 : Int), (5 : Int)))) ∨ ∃ l i, headR b 5 = (l, i, 0) := by
  rw [head_same]
  rcases Lg.head_err b with h | h
  · exact Or.inl ⟨h, Lg.dec_no h (by decide)⟩
  · exact Or.inr ⟨(headL b).1, (headL b).2.1, by rw [← h]⟩
end Hp
end Go.Proofs.Ytdihoedehmfgfaa
namespace Go.Proofs.Ytdihoedehmfgfaa
open Go.ChangeShapes Go.WideShapes Go.ChangeAt Go.RowKit
namespace Lg
open Go.Proofs.Ytdihoedehmfgfaa.Lx (isIn nameB strs_open strs_cell)
open Go.Proofs.Ytdihoedehmfgfaa.Sum (byte put right Hands8 HandsR)
open Go.Proofs.Ytdihoedehmfgfaa.Rec (rises rec_ get putE rec_len put_len i64s_open i64_cell HandsGO results_cell3)
open Go.Proofs.Ytdihoedehmfgfaa.Tr (T Es tm ids mayP namesP nmB nOk namesTo Evs EC Small box2 lt_alloc TrR EvOwn CpSt CloneS ints_shape strs_not evc own_apart info_event)
/-- A call hands back a trace, its events in blocks of the call's own, a number and an error. -/
def HandsDI (w : World) (r : T × Int × Int) (e : Ending) (w' : World) : Prop := ∃ v, e = .returned (.tuple #[v, .int .i64 r.2.1, .int .i64 r.2.2]) ∧ (∃ vn ve, v = .agg #[vn, ve] ∧ Sl w' vn (Lx.strs r.1.names) ∧ EvIn w' w.heap.size ve r.1.evs) ∧ Nw w w'
set_option maxRecDepth 20000 in
set_option maxHeartbeats 1600000 in
theorem decode_i (v : Value) (b : List UInt8) (w : World) (hb : Bytes w v b) (hl : b.length ≤ 1000000000) : Calls Try.prog 34 #[v] w (HandsDI w (decP b)) := by
  obtain ⟨l, i0, e0, hH⟩ : ∃ l i e, headL b = (l, i, e) := ⟨_, _, _, rfl⟩
  have HHD := hid (fun w' (h : Nw w w') => show Calls Try.prog 64 #[v] w' (HandsHd w' (l, i0, e0)) by rw [← hH]; exact head_c v b w' (hb.nw h) hl)
  obtain ⟨p, cap, rfl, hcap, hmx, hp0, hc⟩ := hb.open
  have hmx' := hmx
  unfold maxLen at hmx
  have HC := hid hc
  clear hb
  by_cases he : e0 = 0
  · subst he
    obtain ⟨i1, rfl, hi9, hib, hnm⟩ := head_ok b l i0 hH
    obtain ⟨pb, po, rfl⟩ := hc.place (by rw [u8s_length]; omega)
    have HD := hid (fun es f h => dec_yes (es := es) (f := f) hH h)
    have hl64 := names_le hnm
    clear hc hH hnm hp0
    go_enter Try.func34, Try.ntmps34
    go_upto_region 1 with fail
    have y2 := heap_new w (.cells #[.slice none 0 0, .slice none 0 0] 34)
    have hn := (Nw.refl w).alloc (.cells #[.slice none 0 0, .slice none 0 0] 34)
    have hz0 := lt_alloc w (.cells #[.slice none 0 0, .slice none 0 0] 34)
    generalize w.alloc (.cells #[.slice none 0 0, .slice none 0 0] 34) = w0 at *
    go_wp2_with (first
      | (go_at_call 64; refine (HHD.out _ (by repeat (first | assumption | exact Nw.refl _ | refine Nw.alloc ?_ _ | refine Nw.drew ?_ | refine Nw.drewN2 ?_ _ | (refine Nw.trans ?_ (by assumption))))).mono ?_; rintro e w1 ⟨v1, rfl, hs1, hn1⟩; obtain ⟨q1, c1, rfl, _⟩ := strs_open hs1; dsimp only at hs1 ⊢)
      | fail)
    have y5 := heap_new w1 (.cells #[.slice q1 l.length c1, .slice none 0 0] 34)
    have hnL : Nw w0 (w1.alloc (.cells #[.slice q1 l.length c1, .slice none 0 0] 34)) := hn1.alloc _
    have s1 := hs1.nw ((Nw.refl w1).alloc (.cells #[.slice q1 l.length c1, .slice none 0 0] 34))
    have hg5 := lt_alloc w1 (.cells #[.slice q1 l.length c1, .slice none 0 0] 34)
    have hg50 := hn1.size
    clear hs1 hn1
    generalize w1.alloc (.cells #[.slice q1 l.length c1, .slice none 0 0] 34) = wL at *
    generalize w1.heap.size = g5 at *
    have hz2 : w.heap.size < wL.heap.size := by omega
    have HS1 := hid (fun wr {v es} (h : CpIn wL g5 (.slice q1 l.length c1) v es wr) => show Sl wr (.slice q1 l.length c1) (Lx.strs l) from Sl.mods s1 h.2.2 (fun h0 j hj e => by subst e; exact absurd rfl (Tr.Sl.apart (s1.nw (Nw.refl _)) y5 strs_not h0 _ hj)))
    go_loopw [6] (fun at_ wr => ∃ (i : Nat) (es : Es) (v : Value) (f : Nat), at_ = .int .i64 i ∧ i ≤ b.length ∧ es.length ≤ i ∧ b.length ≤ i + f ∧ Hid (recs b l.length (b.length + 1) i1 [] = recs b l.length (f + 1) i es) ∧ CpIn wL g5 (.slice q1 l.length c1) v es wr) (fun at_ _ => b.length - (intOf at_).toNat)
    case atStart => exact ⟨i1, [], _, b.length, rfl, hib, Nat.zero_le _, by omega, hid rfl, y5, EvIn.nil _ _, Mods.refl _ _⟩
    case round =>
      clear s1 y5
      obtain ⟨i, es, v, f, rfl, hi, hel, hif, HQ, hst⟩ := hrel
      have hnr : Nw w0 wr := hnL.ofMods hst.2.2 (fun j e => by omega)
      have hnw := hn.trans hnr
      obtain ⟨qv, cv, rfl⟩ := hst.2.1.shape (n := es.length) rfl
      obtain ⟨tt, ll, nn, ee, hG⟩ : ∃ tt ll nn ee, get (b.drop i) l.length = ((tt, ll), nn, ee) := ⟨_, _, _, _, rfl⟩
      have HGT := hid (fun w' va (hva : Bytes w' va (b.drop i)) => show Calls Try.prog 60 #[va, .int .i64 (l.length : Int)] w' (HandsGO w' ((tt, ll), nn, ee)) by rw [← hG]; exact Rec.get_o va (b.drop i) l.length w' hva (by rw [List.length_drop]; omega) (by omega) (by omega))
      have hBi : ∀ w', Nw wr w' → Bytes w' (.slice (some ⟨pb, po + i, none⟩) (b.length - i) (cap - i)) (b.drop i) := fun w' h => by
        have := bytes_sub (HC.out.nw (hnw.trans h)) hcap hmx' i (b.length - i) (by omega)
        rwa [List.take_of_length_le (by rw [List.length_drop]; exact Nat.le_refl _)] at this
      have HB := hid hBi
      have hck : (b.length : Int) - i = ((b.length - i : Nat) : Int) := by omega
      clear hBi
      by_cases hci : cap = i
      · have HB0 := hid (show ∀ w', Nw wr w' → Bytes w' (.slice (some ⟨pb, po, none⟩) (b.length - i) 0) (b.drop i) from fun w' _ => by
          have e : b.drop i = [] := List.drop_eq_nil_of_le (by omega)
          rw [e, show b.length - i = 0 by omega]
          exact Bytes.mk (fun _ h => by cases h) rfl (Nat.zero_le _) (by simp [maxLen]) (fun _ => rfl))
        clear HB
        go_upto_region 6 with (first
          | (go_at_call 60; refine (HGT.out _ _ (HB0.out _ (by repeat (first | assumption | exact Nw.refl _ | refine Nw.alloc ?_ _ | refine Nw.drew ?_ | refine Nw.drewN2 ?_ _ | (refine Nw.trans ?_ (by assumption)))))).mono ?_; rintro e w4 ⟨v4, rfl, ho4, hn4⟩; obtain ⟨p4, c4, rfl⟩ := ints_shape ho4; dsimp only at ho4 ⊢)
          | fail)
        clear hci
        have hnz : Nw wr (w4.alloc (.cells #[.int .u64 tt, .slice p4 ll.length c4] 38)) := hn4.alloc _
        obtain ⟨z0, z1⟩ := box2 w4 (.int .u64 tt) (.slice p4 ll.length c4) 38
        have hoz := ho4.nw ((Nw.refl w4).alloc (.cells #[.int .u64 tt, .slice p4 ll.length c4] 38))
        have hsz4 := hn4.size
        clear ho4 hn4
        generalize w4.alloc (.cells #[.int .u64 tt, .slice p4 ll.length c4] 38) = wz at *
        generalize w4.heap.size = zE at *
        have hstz := hst.nw hnz
        have y2z := (hnr.trans hnz).heap y2
        have e0 := heap_cell hstz.1 0
        have e1 := heap_cell hstz.1 1
        simp only [List.getElem?_toArray, List.getElem?_cons_succ, List.getElem?_cons_zero] at e0 e1
        have g1 := World.block_lt_of_cell? wz _ z0
        have g2 := lt_of_heap hstz.1
        simp only at g1
        by_cases hee : ee = 0
        · subst hee
          obtain ⟨m, rfl, hm14, hmle, ht0, ht1, hr64⟩ := get_ok _ _ _ _ _ hG
          rw [List.length_drop] at hmle
          clear ht0 ht1 hr64
          by_cases hpos : 0 < es.length
          · have hd2 : decide ((0 : Int) < es.length) = true := decide_eq_true (by omega)
            have hd2n : decide (0 < es.length) = true := decide_eq_true hpos
            obtain ⟨p', cap', e', hc1', hc2', hc3', hec⟩ := hstz.2.1.own.evs
            cases e'
            obtain ⟨b7, o7, vj, rfl, d0, _, _⟩ := hec (es.length - 1) (by omega)
            have ek : ((es.length : Int) - 1).toNat = es.length - 1 := by omega
            have gd := World.block_lt_of_cell? wz _ d0
            simp only at gd
            clear hec hc1' hc2' hc3'
            by_cases htt : tt < tm es (es.length - 1)
            · have hd3 : decide (tt < tm es (es.length - 1)) = true := decide_eq_true htt
              have HF := hid ((HD.out _ _ (HQ.out.trans (recs_fall hG hpos htt))).trans (show _ = ((⟨l, es⟩ : T), ((es.length : Int), (8 : Int))) by rw [if_neg (by decide)]))
              clear HQ htt hm14 hmle
              generalize tm es (es.length - 1) = tj at *
              go_upto_region 7 with fail
              refine wp_region_stairs (by kernel_rfl) (by kernel_rfl) (by kernel_rfl) ?_
              iterate 18
                refine Stairs.is ?_ ?_ ?_
                rotate_left 1
                · intro x wR hR hd K hK
                  simp only [Act.put, List.setIfInBounds_toArray, List.set_cons_zero, List.set_cons_succ, Nat.reduceAdd, List.length_nil, List.length_cons, List.nil_append, List.cons_append, Say.ok] at hK ⊢
                  clear hd
                  change Hid _ at hK
                  obtain ⟨hcR, hfR, hzR⟩ := nwc hR
                  first | (refine wanted_yes ?_ ?_; rfl) | (refine wanted_no ?_ ?_; rfl)
                  go_wp2_with (first | fail)
                  all_goals (refine hK.out _ _ ?_ ?_ <;> first | (solve | (repeat (first | assumption | exact Nw.refl _ | refine Nw.alloc ?_ _ | refine Nw.drew ?_ | refine Nw.drewN2 ?_ _ | (refine Nw.trans ?_ (by assumption))))) | exact rfl)
                try simp only [Act.put, List.setIfInBounds_toArray, List.set_cons_zero, List.set_cons_succ, Nat.reduceAdd, List.length_nil, List.length_cons, List.nil_append, List.cons_append]
              refine Stairs.nil ?_
              intro x wR hR hx
              clear hx
              obtain ⟨hcR, hfR, hzR⟩ := nwc hR
              have hstR := hstz.nw hR
              have y2R := hR.heap y2z
              have e0 := heap_cell hstR.1 0
              have e1 := heap_cell hstR.1 1
              have d0 := heap_cell y2R 0
              have d1 := heap_cell y2R 1
              simp only [List.getElem?_toArray, List.getElem?_cons_succ, List.getElem?_cons_zero] at e0 e1 d0 d1
              have f0 := heap_frozen y2R 0
              have f1 := heap_frozen y2R 1
              have hnR := hnz.trans hR
              clear hcR hfR hzR hR
              go_wp2
              ((try simp only [Exit.inBlock, Exit.then]); refine bodyPost_ret (results_cell3 rfl _ _ _ _ _ _ _ rfl (heap_set (heap_set y2R 0 (.slice q1 l.length c1)) 1 (.slice (some ⟨b7, o7, none⟩) es.length cv)) Try.underlying34 rfl (by kernel_rfl)) rfl ?_)
              rw [HF.out]
              have s1R := HS1.out _ hstR
              exact ⟨_, rfl, ⟨_, _, rfl, Tr.Sl.set2 (a := .slice q1 l.length c1) (b := .slice none 0 0) (Tr.Sl.set2 s1R y2R strs_not) (heap_set y2R 0 _) strs_not, (EvIn.set (a := .slice q1 l.length c1) (b := .slice none 0 0) (EvIn.set hstR.2.1 hz2 y2R (fun _ => nofun) (fun _ => nofun)) hz2 (heap_set y2R 0 _) (fun _ => nofun) (fun _ => nofun)).mono (by omega)⟩, (((hn.trans (hnr.trans hnR)).setCell (p := ⟨w.heap.size, 0, none⟩) (Nat.le_refl _) _).setCell (p := ⟨w.heap.size, 1, none⟩) (Nat.le_refl _) _)⟩
            · have hd3 : decide (tt < tm es (es.length - 1)) = false := decide_eq_false htt
              have HG := hid (recs_go (f := f) (es := es) (p := l.length) hG (fun h => htt h.2))
              clear htt hG
              generalize tm es (es.length - 1) = tj at *
              go_upto_region 7 with fail
              refine wp_region_stairs (by kernel_rfl) (by kernel_rfl) (by kernel_rfl) ?_
              iterate 18
                refine Stairs.is ?_ ?_ ?_
                rotate_left 1
                · intro x wR hR hd K hK
                  simp only [Act.put, List.setIfInBounds_toArray, List.set_cons_zero, List.set_cons_succ, Nat.reduceAdd, List.length_nil, List.length_cons, List.nil_append, List.cons_append, Say.ok] at hK ⊢
                  clear hd
                  change Hid _ at hK
                  obtain ⟨hcR, hfR, hzR⟩ := nwc hR
                  first | (refine wanted_yes ?_ ?_; rfl) | (refine wanted_no ?_ ?_; rfl)
                  go_wp2_with (first | fail)
                  all_goals (refine hK.out _ _ ?_ ?_ <;> first | (solve | (repeat (first | assumption | exact Nw.refl _ | refine Nw.alloc ?_ _ | refine Nw.drew ?_ | refine Nw.drewN2 ?_ _ | (refine Nw.trans ?_ (by assumption))))) | exact rfl)
                try simp only [Act.put, List.setIfInBounds_toArray, List.set_cons_zero, List.set_cons_succ, Nat.reduceAdd, List.length_nil, List.length_cons, List.nil_append, List.cons_append]
              refine Stairs.nil ?_
              intro x wR hR hx
              clear hx
              obtain ⟨hcR, hfR, hzR⟩ := nwc hR
              obtain ⟨vs, hvl, hrow, hall⟩ := hst.2.1
              have hRz : Nw wr (wR.alloc (.cells #[.int .u64 tt, .slice p4 ll.length c4] 38)) := (hnz.trans hR).alloc _
              have hoR := hoz.nw (hR.alloc (.cells #[.int .u64 tt, .slice p4 ll.length c4] 38))
              have hB : wL.heap.size ≤ (wR.alloc (.cells #[.int .u64 tt, .slice p4 ll.length c4] 38)).heap.size := Nat.le_trans hst.2.2.size hRz.size
              have hstR := hstz.nw hR
              have e0 := heap_cell hstR.1 0
              have e1 := heap_cell hstR.1 1
              simp only [List.getElem?_toArray, List.getElem?_cons_succ, List.getElem?_cons_zero] at e0 e1
              have z0 := hR.cell z0
              have z1 := hR.cell z1
              have hel2 : es.length + 1 ≤ i + m := by omega
              have hib2 : i + m ≤ b.length := by omega
              obtain ⟨f', rfl⟩ : ∃ f', f = f' + 1 := ⟨f - 1, by omega⟩
              have hif2 : b.length ≤ i + m + f' := by omega
              have hel3 : es.length ≤ 1000000000 := by omega
              have hm1 : 1 ≤ m := by omega
              clear hcR hfR hzR hm14 hmle hel hif
              go_wp2_with (first
                | (at_builtin; refine appat rfl _ _ _ rfl _ _ _ _ Try.underlying32 info_event rfl (by decide) (by decide) hB (hRz.ownsRow hrow) rfl rfl (show [Value.int .u64 tt, Value.slice p4 ll.length c4].length = 2 from rfl) (Tr.cells_newAt wR [_, _] _ _ _ rfl) (by simp [Value.oneCell']) ?_ ?_; rotate_left; (omega); intro v2 w2 hown2 hg2 hat2; obtain ⟨⟨q9, c9, rfl⟩, y9, hst2⟩ := CpIn.step hst hRz hg5 rfl hvl hrow hall hoR hown2 hg2 hat2; have y91 := heap_cell y9 1; have y9f := heap_frozen y9 1; simp only [List.getElem?_toArray, List.getElem?_cons_succ, List.getElem?_cons_zero] at y91)
                | fail)
              go_roundw
              case rel => exact ⟨i + m, es ++ [(tt, ll)], _, f', by go_num, hib2, by rw [List.length_append, List.length_singleton]; exact hel2, hif2, hid (HQ.out.trans HG.out), hst2⟩
              case measure => (simp [intOf] <;> omega)
          · have hd2 : decide ((0 : Int) < es.length) = false := decide_eq_false (by omega)
            have hd2n : decide (0 < es.length) = false := decide_eq_false hpos
            have HG := hid (recs_go (f := f) (es := es) (p := l.length) hG (fun h => hpos h.1))
            clear hG
            go_upto_region 7 with fail
            refine wp_region_stairs (by kernel_rfl) (by kernel_rfl) (by kernel_rfl) ?_
            iterate 18
              refine Stairs.is ?_ ?_ ?_
              rotate_left 1
              · intro x wR hR hd K hK
                simp only [Act.put, List.setIfInBounds_toArray, List.set_cons_zero, List.set_cons_succ, Nat.reduceAdd, List.length_nil, List.length_cons, List.nil_append, List.cons_append, Say.ok] at hK ⊢
                clear hd
                change Hid _ at hK
                obtain ⟨hcR, hfR, hzR⟩ := nwc hR
                first | (refine wanted_yes ?_ ?_; rfl) | (refine wanted_no ?_ ?_; rfl)
                go_wp2_with (first | fail)
                all_goals (refine hK.out _ _ ?_ ?_ <;> first | (solve | (repeat (first | assumption | exact Nw.refl _ | refine Nw.alloc ?_ _ | refine Nw.drew ?_ | refine Nw.drewN2 ?_ _ | (refine Nw.trans ?_ (by assumption))))) | exact rfl)
              try simp only [Act.put, List.setIfInBounds_toArray, List.set_cons_zero, List.set_cons_succ, Nat.reduceAdd, List.length_nil, List.length_cons, List.nil_append, List.cons_append]
            refine Stairs.nil ?_
            intro x wR hR hx
            clear hx
            obtain ⟨hcR, hfR, hzR⟩ := nwc hR
            obtain ⟨vs, hvl, hrow, hall⟩ := hst.2.1
            have hRz : Nw wr (wR.alloc (.cells #[.int .u64 tt, .slice p4 ll.length c4] 38)) := (hnz.trans hR).alloc _
            have hoR := hoz.nw (hR.alloc (.cells #[.int .u64 tt, .slice p4 ll.length c4] 38))
            have hB : wL.heap.size ≤ (wR.alloc (.cells #[.int .u64 tt, .slice p4 ll.length c4] 38)).heap.size := Nat.le_trans hst.2.2.size hRz.size
            have hstR := hstz.nw hR
            have e0 := heap_cell hstR.1 0
            have e1 := heap_cell hstR.1 1
            simp only [List.getElem?_toArray, List.getElem?_cons_succ, List.getElem?_cons_zero] at e0 e1
            have z0 := hR.cell z0
            have z1 := hR.cell z1
            have hel2 : es.length + 1 ≤ i + m := by omega
            have hib2 : i + m ≤ b.length := by omega
            obtain ⟨f', rfl⟩ : ∃ f', f = f' + 1 := ⟨f - 1, by omega⟩
            have hif2 : b.length ≤ i + m + f' := by omega
            have hel3 : es.length ≤ 1000000000 := by omega
            have hm1 : 1 ≤ m := by omega
            clear hcR hfR hzR hm14 hmle hel hif
            go_wp2_with (first
              | (at_builtin; refine appat rfl _ _ _ rfl _ _ _ _ Try.underlying32 info_event rfl (by decide) (by decide) hB (hRz.ownsRow hrow) rfl rfl (show [Value.int .u64 tt, Value.slice p4 ll.length c4].length = 2 from rfl) (Tr.cells_newAt wR [_, _] _ _ _ rfl) (by simp [Value.oneCell']) ?_ ?_; rotate_left; (omega); intro v2 w2 hown2 hg2 hat2; obtain ⟨⟨q9, c9, rfl⟩, y9, hst2⟩ := CpIn.step hst hRz hg5 rfl hvl hrow hall hoR hown2 hg2 hat2; have y91 := heap_cell y9 1; have y9f := heap_frozen y9 1; simp only [List.getElem?_toArray, List.getElem?_cons_succ, List.getElem?_cons_zero] at y91)
              | fail)
            go_roundw
            case rel => exact ⟨i + m, es ++ [(tt, ll)], _, f', by go_num, hib2, by rw [List.length_append, List.length_singleton]; exact hel2, hif2, hid (HQ.out.trans HG.out), hst2⟩
            case measure => (simp [intOf] <;> omega)
        · have hde : (ee == 0) = false := beq_eq_false_iff_ne.2 hee
          have HR := hid (HD.out _ _ (HQ.out.trans (recs_stop hG hee)))
          clear HQ
          go_upto_region 7 with fail
          refine wp_region_stairs (by kernel_rfl) (by kernel_rfl) (by kernel_rfl) ?_
          iterate 18
            refine Stairs.is ?_ ?_ ?_
            rotate_left 1
            · intro x wR hR hd K hK
              simp only [Act.put, List.setIfInBounds_toArray, List.set_cons_zero, List.set_cons_succ, Nat.reduceAdd, List.length_nil, List.length_cons, List.nil_append, List.cons_append, Say.ok] at hK ⊢
              clear hd
              change Hid _ at hK
              obtain ⟨hcR, hfR, hzR⟩ := nwc hR
              first | (refine wanted_yes ?_ ?_; rfl) | (refine wanted_no ?_ ?_; rfl)
              go_wp2_with (first | fail)
              all_goals (refine hK.out _ _ ?_ ?_ <;> first | (solve | (repeat (first | assumption | exact Nw.refl _ | refine Nw.alloc ?_ _ | refine Nw.drew ?_ | refine Nw.drewN2 ?_ _ | (refine Nw.trans ?_ (by assumption))))) | exact rfl)
            try simp only [Act.put, List.setIfInBounds_toArray, List.set_cons_zero, List.set_cons_succ, Nat.reduceAdd, List.length_nil, List.length_cons, List.nil_append, List.cons_append]
          refine Stairs.nil ?_
          intro x wR hR hx
          clear hx
          obtain ⟨hcR, hfR, hzR⟩ := nwc hR
          by_cases h13 : ee = 13
          · have hd13 : (ee == 13) = true := by rw [h13]; rfl
            have HF := hid (HR.out.trans (show _ = ((⟨l, es⟩ : T), ((es.length : Int), (0 : Int))) by rw [if_pos h13]))
            have hstR := hstz.nw hR
            have y2R := hR.heap y2z
            have e0 := heap_cell hstR.1 0
            have e1 := heap_cell hstR.1 1
            have d0 := heap_cell y2R 0
            have d1 := heap_cell y2R 1
            simp only [List.getElem?_toArray, List.getElem?_cons_succ, List.getElem?_cons_zero] at e0 e1 d0 d1
            have f0 := heap_frozen y2R 0
            have f1 := heap_frozen y2R 1
            have hnR := hnz.trans hR
            clear hcR hfR hzR hR
            go_wp2
            ((try simp only [Exit.inBlock, Exit.then]); refine bodyPost_ret (results_cell3 rfl _ _ _ _ _ _ _ rfl (heap_set (heap_set y2R 0 (.slice q1 l.length c1)) 1 (.slice qv es.length cv)) Try.underlying34 rfl (by kernel_rfl)) rfl ?_)
            rw [HF.out]
            have s1R := HS1.out _ hstR
            exact ⟨_, rfl, ⟨_, _, rfl, Tr.Sl.set2 (a := .slice q1 l.length c1) (b := .slice none 0 0) (Tr.Sl.set2 s1R y2R strs_not) (heap_set y2R 0 _) strs_not, (EvIn.set (a := .slice q1 l.length c1) (b := .slice none 0 0) (EvIn.set hstR.2.1 hz2 y2R (fun _ => nofun) (fun _ => nofun)) hz2 (heap_set y2R 0 _) (fun _ => nofun) (fun _ => nofun)).mono (by omega)⟩, (((hn.trans (hnr.trans hnR)).setCell (p := ⟨w.heap.size, 0, none⟩) (Nat.le_refl _) _).setCell (p := ⟨w.heap.size, 1, none⟩) (Nat.le_refl _) _)⟩
          · have hd13 : (ee == 13) = false := beq_eq_false_iff_ne.2 h13
            have HF := hid (HR.out.trans (show _ = ((⟨l, es⟩ : T), ((es.length : Int), ee)) by rw [if_neg h13]))
            have hstR := hstz.nw hR
            have y2R := hR.heap y2z
            have e0 := heap_cell hstR.1 0
            have e1 := heap_cell hstR.1 1
            have d0 := heap_cell y2R 0
            have d1 := heap_cell y2R 1
            simp only [List.getElem?_toArray, List.getElem?_cons_succ, List.getElem?_cons_zero] at e0 e1 d0 d1
            have f0 := heap_frozen y2R 0
            have f1 := heap_frozen y2R 1
            have hnR := hnz.trans hR
            clear hcR hfR hzR hR
            go_wp2
            ((try simp only [Exit.inBlock, Exit.then]); refine bodyPost_ret (results_cell3 rfl _ _ _ _ _ _ _ rfl (heap_set (heap_set y2R 0 (.slice q1 l.length c1)) 1 (.slice qv es.length cv)) Try.underlying34 rfl (by kernel_rfl)) rfl ?_)
            rw [HF.out]
            have s1R := HS1.out _ hstR
            exact ⟨_, rfl, ⟨_, _, rfl, Tr.Sl.set2 (a := .slice q1 l.length c1) (b := .slice none 0 0) (Tr.Sl.set2 s1R y2R strs_not) (heap_set y2R 0 _) strs_not, (EvIn.set (a := .slice q1 l.length c1) (b := .slice none 0 0) (EvIn.set hstR.2.1 hz2 y2R (fun _ => nofun) (fun _ => nofun)) hz2 (heap_set y2R 0 _) (fun _ => nofun) (fun _ => nofun)).mono (by omega)⟩, (((hn.trans (hnr.trans hnR)).setCell (p := ⟨w.heap.size, 0, none⟩) (Nat.le_refl _) _).setCell (p := ⟨w.heap.size, 1, none⟩) (Nat.le_refl _) _)⟩
      · have HB0 := HB
        clear HB
        go_upto_region 6 with (first
          | (go_at_call 60; refine (HGT.out _ _ (HB0.out _ (by repeat (first | assumption | exact Nw.refl _ | refine Nw.alloc ?_ _ | refine Nw.drew ?_ | refine Nw.drewN2 ?_ _ | (refine Nw.trans ?_ (by assumption)))))).mono ?_; rintro e w4 ⟨v4, rfl, ho4, hn4⟩; obtain ⟨p4, c4, rfl⟩ := ints_shape ho4; dsimp only at ho4 ⊢)
          | fail)
        clear hci
        have hnz : Nw wr (w4.alloc (.cells #[.int .u64 tt, .slice p4 ll.length c4] 38)) := hn4.alloc _
        obtain ⟨z0, z1⟩ := box2 w4 (.int .u64 tt) (.slice p4 ll.length c4) 38
        have hoz := ho4.nw ((Nw.refl w4).alloc (.cells #[.int .u64 tt, .slice p4 ll.length c4] 38))
        have hsz4 := hn4.size
        clear ho4 hn4
        generalize w4.alloc (.cells #[.int .u64 tt, .slice p4 ll.length c4] 38) = wz at *
        generalize w4.heap.size = zE at *
        have hstz := hst.nw hnz
        have y2z := (hnr.trans hnz).heap y2
        have e0 := heap_cell hstz.1 0
        have e1 := heap_cell hstz.1 1
        simp only [List.getElem?_toArray, List.getElem?_cons_succ, List.getElem?_cons_zero] at e0 e1
        have g1 := World.block_lt_of_cell? wz _ z0
        have g2 := lt_of_heap hstz.1
        simp only at g1
        by_cases hee : ee = 0
        · subst hee
          obtain ⟨m, rfl, hm14, hmle, ht0, ht1, hr64⟩ := get_ok _ _ _ _ _ hG
          rw [List.length_drop] at hmle
          clear ht0 ht1 hr64
          by_cases hpos : 0 < es.length
          · have hd2 : decide ((0 : Int) < es.length) = true := decide_eq_true (by omega)
            have hd2n : decide (0 < es.length) = true := decide_eq_true hpos
            obtain ⟨p', cap', e', hc1', hc2', hc3', hec⟩ := hstz.2.1.own.evs
            cases e'
            obtain ⟨b7, o7, vj, rfl, d0, _, _⟩ := hec (es.length - 1) (by omega)
            have ek : ((es.length : Int) - 1).toNat = es.length - 1 := by omega
            have gd := World.block_lt_of_cell? wz _ d0
            simp only at gd
            clear hec hc1' hc2' hc3'
            by_cases htt : tt < tm es (es.length - 1)
            · have hd3 : decide (tt < tm es (es.length - 1)) = true := decide_eq_true htt
              have HF := hid ((HD.out _ _ (HQ.out.trans (recs_fall hG hpos htt))).trans (show _ = ((⟨l, es⟩ : T), ((es.length : Int), (8 : Int))) by rw [if_neg (by decide)]))
              clear HQ htt hm14 hmle
              generalize tm es (es.length - 1) = tj at *
              go_upto_region 7 with fail
              refine wp_region_stairs (by kernel_rfl) (by kernel_rfl) (by kernel_rfl) ?_
              iterate 18
                refine Stairs.is ?_ ?_ ?_
                rotate_left 1
                · intro x wR hR hd K hK
                  simp only [Act.put, List.setIfInBounds_toArray, List.set_cons_zero, List.set_cons_succ, Nat.reduceAdd, List.length_nil, List.length_cons, List.nil_append, List.cons_append, Say.ok] at hK ⊢
                  clear hd
                  change Hid _ at hK
                  obtain ⟨hcR, hfR, hzR⟩ := nwc hR
                  first | (refine wanted_yes ?_ ?_; rfl) | (refine wanted_no ?_ ?_; rfl)
                  go_wp2_with (first | fail)
                  all_goals (refine hK.out _ _ ?_ ?_ <;> first | (solve | (repeat (first | assumption | exact Nw.refl _ | refine Nw.alloc ?_ _ | refine Nw.drew ?_ | refine Nw.drewN2 ?_ _ | (refine Nw.trans ?_ (by assumption))))) | exact rfl)
                try simp only [Act.put, List.setIfInBounds_toArray, List.set_cons_zero, List.set_cons_succ, Nat.reduceAdd, List.length_nil, List.length_cons, List.nil_append, List.cons_append]
              refine Stairs.nil ?_
              intro x wR hR hx
              clear hx
              obtain ⟨hcR, hfR, hzR⟩ := nwc hR
              have hstR := hstz.nw hR
              have y2R := hR.heap y2z
              have e0 := heap_cell hstR.1 0
              have e1 := heap_cell hstR.1 1
              have d0 := heap_cell y2R 0
              have d1 := heap_cell y2R 1
              simp only [List.getElem?_toArray, List.getElem?_cons_succ, List.getElem?_cons_zero] at e0 e1 d0 d1
              have f0 := heap_frozen y2R 0
              have f1 := heap_frozen y2R 1
              have hnR := hnz.trans hR
              clear hcR hfR hzR hR
              go_wp2
              ((try simp only [Exit.inBlock, Exit.then]); refine bodyPost_ret (results_cell3 rfl _ _ _ _ _ _ _ rfl (heap_set (heap_set y2R 0 (.slice q1 l.length c1)) 1 (.slice (some ⟨b7, o7, none⟩) es.length cv)) Try.underlying34 rfl (by kernel_rfl)) rfl ?_)
              rw [HF.out]
              have s1R := HS1.out _ hstR
              exact ⟨_, rfl, ⟨_, _, rfl, Tr.Sl.set2 (a := .slice q1 l.length c1) (b := .slice none 0 0) (Tr.Sl.set2 s1R y2R strs_not) (heap_set y2R 0 _) strs_not, (EvIn.set (a := .slice q1 l.length c1) (b := .slice none 0 0) (EvIn.set hstR.2.1 hz2 y2R (fun _ => nofun) (fun _ => nofun)) hz2 (heap_set y2R 0 _) (fun _ => nofun) (fun _ => nofun)).mono (by omega)⟩, (((hn.trans (hnr.trans hnR)).setCell (p := ⟨w.heap.size, 0, none⟩) (Nat.le_refl _) _).setCell (p := ⟨w.heap.size, 1, none⟩) (Nat.le_refl _) _)⟩
            · have hd3 : decide (tt < tm es (es.length - 1)) = false := decide_eq_false htt
              have HG := hid (recs_go (f := f) (es := es) (p := l.length) hG (fun h => htt h.2))
              clear htt hG
              generalize tm es (es.length - 1) = tj at *
              go_upto_region 7 with fail
              refine wp_region_stairs (by kernel_rfl) (by kernel_rfl) (by kernel_rfl) ?_
              iterate 18
                refine Stairs.is ?_ ?_ ?_
                rotate_left 1
                · intro x wR hR hd K hK
                  simp only [Act.put, List.setIfInBounds_toArray, List.set_cons_zero, List.set_cons_succ, Nat.reduceAdd, List.length_nil, List.length_cons, List.nil_append, List.cons_append, Say.ok] at hK ⊢
                  clear hd
                  change Hid _ at hK
                  obtain ⟨hcR, hfR, hzR⟩ := nwc hR
                  first | (refine wanted_yes ?_ ?_; rfl) | (refine wanted_no ?_ ?_; rfl)
                  go_wp2_with (first | fail)
                  all_goals (refine hK.out _ _ ?_ ?_ <;> first | (solve | (repeat (first | assumption | exact Nw.refl _ | refine Nw.alloc ?_ _ | refine Nw.drew ?_ | refine Nw.drewN2 ?_ _ | (refine Nw.trans ?_ (by assumption))))) | exact rfl)
                try simp only [Act.put, List.setIfInBounds_toArray, List.set_cons_zero, List.set_cons_succ, Nat.reduceAdd, List.length_nil, List.length_cons, List.nil_append, List.cons_append]
              refine Stairs.nil ?_
              intro x wR hR hx
              clear hx
              obtain ⟨hcR, hfR, hzR⟩ := nwc hR
              obtain ⟨vs, hvl, hrow, hall⟩ := hst.2.1
              have hRz : Nw wr (wR.alloc (.cells #[.int .u64 tt, .slice p4 ll.length c4] 38)) := (hnz.trans hR).alloc _
              have hoR := hoz.nw (hR.alloc (.cells #[.int .u64 tt, .slice p4 ll.length c4] 38))
              have hB : wL.heap.size ≤ (wR.alloc (.cells #[.int .u64 tt, .slice p4 ll.length c4] 38)).heap.size := Nat.le_trans hst.2.2.size hRz.size
              have hstR := hstz.nw hR
              have e0 := heap_cell hstR.1 0
              have e1 := heap_cell hstR.1 1
              simp only [List.getElem?_toArray, List.getElem?_cons_succ, List.getElem?_cons_zero] at e0 e1
              have z0 := hR.cell z0
              have z1 := hR.cell z1
              have hel2 : es.length + 1 ≤ i + m := by omega
              have hib2 : i + m ≤ b.length := by omega
              obtain ⟨f', rfl⟩ : ∃ f', f = f' + 1 := ⟨f - 1, by omega⟩
              have hif2 : b.length ≤ i + m + f' := by omega
              have hel3 : es.length ≤ 1000000000 := by omega
              have hm1 : 1 ≤ m := by omega
              clear hcR hfR hzR hm14 hmle hel hif
              go_wp2_with (first
                | (at_builtin; refine appat rfl _ _ _ rfl _ _ _ _ Try.underlying32 info_event rfl (by decide) (by decide) hB (hRz.ownsRow hrow) rfl rfl (show [Value.int .u64 tt, Value.slice p4 ll.length c4].length = 2 from rfl) (Tr.cells_newAt wR [_, _] _ _ _ rfl) (by simp [Value.oneCell']) ?_ ?_; rotate_left; (omega); intro v2 w2 hown2 hg2 hat2; obtain ⟨⟨q9, c9, rfl⟩, y9, hst2⟩ := CpIn.step hst hRz hg5 rfl hvl hrow hall hoR hown2 hg2 hat2; have y91 := heap_cell y9 1; have y9f := heap_frozen y9 1; simp only [List.getElem?_toArray, List.getElem?_cons_succ, List.getElem?_cons_zero] at y91)
                | fail)
              go_roundw
              case rel => exact ⟨i + m, es ++ [(tt, ll)], _, f', by go_num, hib2, by rw [List.length_append, List.length_singleton]; exact hel2, hif2, hid (HQ.out.trans HG.out), hst2⟩
              case measure => (simp [intOf] <;> omega)
          · have hd2 : decide ((0 : Int) < es.length) = false := decide_eq_false (by omega)
            have hd2n : decide (0 < es.length) = false := decide_eq_false hpos
            have HG := hid (recs_go (f := f) (es := es) (p := l.length) hG (fun h => hpos h.1))
            clear hG
            go_upto_region 7 with fail
            refine wp_region_stairs (by kernel_rfl) (by kernel_rfl) (by kernel_rfl) ?_
            iterate 18
              refine Stairs.is ?_ ?_ ?_
              rotate_left 1
              · intro x wR hR hd K hK
                simp only [Act.put, List.setIfInBounds_toArray, List.set_cons_zero, List.set_cons_succ, Nat.reduceAdd, List.length_nil, List.length_cons, List.nil_append, List.cons_append, Say.ok] at hK ⊢
                clear hd
                change Hid _ at hK
                obtain ⟨hcR, hfR, hzR⟩ := nwc hR
                first | (refine wanted_yes ?_ ?_; rfl) | (refine wanted_no ?_ ?_; rfl)
                go_wp2_with (first | fail)
                all_goals (refine hK.out _ _ ?_ ?_ <;> first | (solve | (repeat (first | assumption | exact Nw.refl _ | refine Nw.alloc ?_ _ | refine Nw.drew ?_ | refine Nw.drewN2 ?_ _ | (refine Nw.trans ?_ (by assumption))))) | exact rfl)
              try simp only [Act.put, List.setIfInBounds_toArray, List.set_cons_zero, List.set_cons_succ, Nat.reduceAdd, List.length_nil, List.length_cons, List.nil_append, List.cons_append]
            refine Stairs.nil ?_
            intro x wR hR hx
            clear hx
            obtain ⟨hcR, hfR, hzR⟩ := nwc hR
            obtain ⟨vs, hvl, hrow, hall⟩ := hst.2.1
            have hRz : Nw wr (wR.alloc (.cells #[.int .u64 tt, .slice p4 ll.length c4] 38)) := (hnz.trans hR).alloc _
            have hoR := hoz.nw (hR.alloc (.cells #[.int .u64 tt, .slice p4 ll.length c4] 38))
            have hB : wL.heap.size ≤ (wR.alloc (.cells #[.int .u64 tt, .slice p4 ll.length c4] 38)).heap.size := Nat.le_trans hst.2.2.size hRz.size
            have hstR := hstz.nw hR
            have e0 := heap_cell hstR.1 0
            have e1 := heap_cell hstR.1 1
            simp only [List.getElem?_toArray, List.getElem?_cons_succ, List.getElem?_cons_zero] at e0 e1
            have z0 := hR.cell z0
            have z1 := hR.cell z1
            have hel2 : es.length + 1 ≤ i + m := by omega
            have hib2 : i + m ≤ b.length := by omega
            obtain ⟨f', rfl⟩ : ∃ f', f = f' + 1 := ⟨f - 1, by omega⟩
            have hif2 : b.length ≤ i + m + f' := by omega
            have hel3 : es.length ≤ 1000000000 := by omega
            have hm1 : 1 ≤ m := by omega
            clear hcR hfR hzR hm14 hmle hel hif
            go_wp2_with (first
              | (at_builtin; refine appat rfl _ _ _ rfl _ _ _ _ Try.underlying32 info_event rfl (by decide) (by decide) hB (hRz.ownsRow hrow) rfl rfl (show [Value.int .u64 tt, Value.slice p4 ll.length c4].length = 2 from rfl) (Tr.cells_newAt wR [_, _] _ _ _ rfl) (by simp [Value.oneCell']) ?_ ?_; rotate_left; (omega); intro v2 w2 hown2 hg2 hat2; obtain ⟨⟨q9, c9, rfl⟩, y9, hst2⟩ := CpIn.step hst hRz hg5 rfl hvl hrow hall hoR hown2 hg2 hat2; have y91 := heap_cell y9 1; have y9f := heap_frozen y9 1; simp only [List.getElem?_toArray, List.getElem?_cons_succ, List.getElem?_cons_zero] at y91)
              | fail)
            go_roundw
            case rel => exact ⟨i + m, es ++ [(tt, ll)], _, f', by go_num, hib2, by rw [List.length_append, List.length_singleton]; exact hel2, hif2, hid (HQ.out.trans HG.out), hst2⟩
            case measure => (simp [intOf] <;> omega)
        · have hde : (ee == 0) = false := beq_eq_false_iff_ne.2 hee
          have HR := hid (HD.out _ _ (HQ.out.trans (recs_stop hG hee)))
          clear HQ
          go_upto_region 7 with fail
          refine wp_region_stairs (by kernel_rfl) (by kernel_rfl) (by kernel_rfl) ?_
          iterate 18
            refine Stairs.is ?_ ?_ ?_
            rotate_left 1
            · intro x wR hR hd K hK
              simp only [Act.put, List.setIfInBounds_toArray, List.set_cons_zero, List.set_cons_succ, Nat.reduceAdd, List.length_nil, List.length_cons, List.nil_append, List.cons_append, Say.ok] at hK ⊢
              clear hd
              change Hid _ at hK
              obtain ⟨hcR, hfR, hzR⟩ := nwc hR
              first | (refine wanted_yes ?_ ?_; rfl) | (refine wanted_no ?_ ?_; rfl)
              go_wp2_with (first | fail)
              all_goals (refine hK.out _ _ ?_ ?_ <;> first | (solve | (repeat (first | assumption | exact Nw.refl _ | refine Nw.alloc ?_ _ | refine Nw.drew ?_ | refine Nw.drewN2 ?_ _ | (refine Nw.trans ?_ (by assumption))))) | exact rfl)
            try simp only [Act.put, List.setIfInBounds_toArray, List.set_cons_zero, List.set_cons_succ, Nat.reduceAdd, List.length_nil, List.length_cons, List.nil_append, List.cons_append]
          refine Stairs.nil ?_
          intro x wR hR hx
          clear hx
          obtain ⟨hcR, hfR, hzR⟩ := nwc hR
          by_cases h13 : ee = 13
          · have hd13 : (ee == 13) = true := by rw [h13]; rfl
            have HF := hid (HR.out.trans (show _ = ((⟨l, es⟩ : T), ((es.length : Int), (0 : Int))) by rw [if_pos h13]))
            have hstR := hstz.nw hR
            have y2R := hR.heap y2z
            have e0 := heap_cell hstR.1 0
            have e1 := heap_cell hstR.1 1
            have d0 := heap_cell y2R 0
            have d1 := heap_cell y2R 1
            simp only [List.getElem?_toArray, List.getElem?_cons_succ, List.getElem?_cons_zero] at e0 e1 d0 d1
            have f0 := heap_frozen y2R 0
            have f1 := heap_frozen y2R 1
            have hnR := hnz.trans hR
            clear hcR hfR hzR hR
            go_wp2
            ((try simp only [Exit.inBlock, Exit.then]); refine bodyPost_ret (results_cell3 rfl _ _ _ _ _ _ _ rfl (heap_set (heap_set y2R 0 (.slice q1 l.length c1)) 1 (.slice qv es.length cv)) Try.underlying34 rfl (by kernel_rfl)) rfl ?_)
            rw [HF.out]
            have s1R := HS1.out _ hstR
            exact ⟨_, rfl, ⟨_, _, rfl, Tr.Sl.set2 (a := .slice q1 l.length c1) (b := .slice none 0 0) (Tr.Sl.set2 s1R y2R strs_not) (heap_set y2R 0 _) strs_not, (EvIn.set (a := .slice q1 l.length c1) (b := .slice none 0 0) (EvIn.set hstR.2.1 hz2 y2R (fun _ => nofun) (fun _ => nofun)) hz2 (heap_set y2R 0 _) (fun _ => nofun) (fun _ => nofun)).mono (by omega)⟩, (((hn.trans (hnr.trans hnR)).setCell (p := ⟨w.heap.size, 0, none⟩) (Nat.le_refl _) _).setCell (p := ⟨w.heap.size, 1, none⟩) (Nat.le_refl _) _)⟩
          · have hd13 : (ee == 13) = false := beq_eq_false_iff_ne.2 h13
            have HF := hid (HR.out.trans (show _ = ((⟨l, es⟩ : T), ((es.length : Int), ee)) by rw [if_neg h13]))
            have hstR := hstz.nw hR
            have y2R := hR.heap y2z
            have e0 := heap_cell hstR.1 0
            have e1 := heap_cell hstR.1 1
            have d0 := heap_cell y2R 0
            have d1 := heap_cell y2R 1
            simp only [List.getElem?_toArray, List.getElem?_cons_succ, List.getElem?_cons_zero] at e0 e1 d0 d1
            have f0 := heap_frozen y2R 0
            have f1 := heap_frozen y2R 1
            have hnR := hnz.trans hR
            clear hcR hfR hzR hR
            go_wp2
            ((try simp only [Exit.inBlock, Exit.then]); refine bodyPost_ret (results_cell3 rfl _ _ _ _ _ _ _ rfl (heap_set (heap_set y2R 0 (.slice q1 l.length c1)) 1 (.slice qv es.length cv)) Try.underlying34 rfl (by kernel_rfl)) rfl ?_)
            rw [HF.out]
            have s1R := HS1.out _ hstR
            exact ⟨_, rfl, ⟨_, _, rfl, Tr.Sl.set2 (a := .slice q1 l.length c1) (b := .slice none 0 0) (Tr.Sl.set2 s1R y2R strs_not) (heap_set y2R 0 _) strs_not, (EvIn.set (a := .slice q1 l.length c1) (b := .slice none 0 0) (EvIn.set hstR.2.1 hz2 y2R (fun _ => nofun) (fun _ => nofun)) hz2 (heap_set y2R 0 _) (fun _ => nofun) (fun _ => nofun)).mono (by omega)⟩, (((hn.trans (hnr.trans hnR)).setCell (p := ⟨w.heap.size, 0, none⟩) (Nat.le_refl _) _).setCell (p := ⟨w.heap.size, 1, none⟩) (Nat.le_refl _) _)⟩
  · have HF := hid (dec_no hH he)
    have hde : (e0 != 0) = true := by simpa using he
    clear hc hH hp0
    go_enter Try.func34, Try.ntmps34
    go_upto_region 1 with fail
    have y2 := heap_new w (.cells #[.slice none 0 0, .slice none 0 0] 34)
    have hn := (Nw.refl w).alloc (.cells #[.slice none 0 0, .slice none 0 0] 34)
    have hz0 := lt_alloc w (.cells #[.slice none 0 0, .slice none 0 0] 34)
    generalize w.alloc (.cells #[.slice none 0 0, .slice none 0 0] 34) = w0 at *
    go_wp2_with (first
      | (go_at_call 64; refine (HHD.out _ (by repeat (first | assumption | exact Nw.refl _ | refine Nw.alloc ?_ _ | refine Nw.drew ?_ | refine Nw.drewN2 ?_ _ | (refine Nw.trans ?_ (by assumption))))).mono ?_; rintro e w1 ⟨v1, rfl, hs1, hn1⟩; have y2 := hn1.heap y2; have d0 := heap_cell y2 0; have d1 := heap_cell y2 1; simp only [List.getElem?_toArray, List.getElem?_cons_succ, List.getElem?_cons_zero] at d0 d1; have f0 := heap_frozen y2 0; have f1 := heap_frozen y2 1; dsimp only at hs1 ⊢)
      | fail)
    ((try simp only [Exit.inBlock, Exit.then]); refine bodyPost_ret (results_cell3 rfl _ _ _ _ _ _ _ rfl (heap_set (heap_set y2 0 (.slice none 0 0)) 1 (.slice none 0 0)) Try.underlying34 rfl (by kernel_rfl)) rfl ?_)
    rw [HF.out]
    exact ⟨_, rfl, ⟨_, _, rfl, Sl.nil _, EvIn.nil _ _⟩, ((hn.trans hn1).setCell (p := ⟨w.heap.size, 0, none⟩) (Nat.le_refl _) _).setCell (p := ⟨w.heap.size, 1, none⟩) (Nat.le_refl _) _⟩
end Lg
end Go.Proofs.Ytdihoedehmfgfaa
