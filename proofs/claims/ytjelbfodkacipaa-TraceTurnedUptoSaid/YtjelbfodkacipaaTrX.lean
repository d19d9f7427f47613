/- A copied trace with one thing in it changed: how it reads then. No condition. -/
import Derived.Test.YtjelbfodkacipaaTrW
import Derived.Deep.RegionLaw
set_option linter.unusedSimpArgs false
set_option linter.unusedVariables false
namespace Go.Proofs.Ytjelbfodkacipaa
open Go.ChangeShapes Go.WideShapes Go.ChangeAt Go.RowKit
/-- 's = append(s, x)', s owned from some block on, as one step of a region that draws. -/
theorem step_app1 {P : Program} {w : World} {ops : Array Oper} {o : Oper} {a : Act} {K : Act → World → Prop} {Q : Exit → Act → World → Prop} {E : Prop} (hgd : o.guard = none) (s x : Operand) (t : TypeId) (ho : o.op = .call { callee := .builtin .append, args := #[s, x], argTypes := #[t, t] })
    (e : TypeId) (z : Value) (bytes : Nat) (ht : P.underlying t = some (.slice e)) (hinfo : (P.info? e).map (fun i => (i.zero, i.size, i.bytes)) = some (some z, 1, bytes)) (hz : z.cells.size = 1) (hby : bytes ≤ 128)
    {B : Nat} (hB : B ≤ w.heap.size) {v : Value} {xs : List Value} (hown : Own w B e v xs) (hs : a.eval s = v) {u : Value} {news : List Value} (hu : Sl w u news) (hx : a.eval x = u) (hpos : 0 < news.length) (h1 : ∀ u ∈ news, u.oneCell' = true) (h63 : xs.length + news.length ≤ 1099511627776)
    (h : ∀ v' w', Own w' B e v' (xs ++ news) → w.grownBy w' v.ownBlock → (v'.ownBlock = v.ownBlock ∨ v'.ownBlock = some w.heap.size) → K (a.put o.dst v') w') : if Region.wanted o (yielded ops a.tmps) = true then Oper.wp P o a w K Q else E := by
  have hw : Region.wanted o (yielded ops a.tmps) = true := by simp [Region.wanted, hgd]
  rw [if_pos hw]
  obtain ⟨i, hi, hz0, hz1, hz2⟩ := info_parts hinfo
  obtain ⟨p, cap, rfl, hcap, hmx, hnone, hc⟩ := hu
  obtain ⟨b1, o1, rfl⟩ := hc.place hpos
  have hq := Nat.mul_le_mul h63 hby
  obtain ⟨v', w', hr, h2, h3, h4, h5⟩ := run_append_own_at (P := P) w B t o.type e i z 1 bytes ht hi hz0 hz1 hz2 hz (by decide) v xs.length xs hown ⟨b1, o1, none⟩ news.length cap news (by simp) (fun j y hj => by
    obtain ⟨hjl, rfl⟩ := List.getElem?_eq_some_iff.1 hj
    obtain ⟨b, off, e1, hcell⟩ := hc j hjl
    cases e1
    rw [addr_add]; exact hcell) h1 (by unfold maxLen; omega) (by omega) hB
  exact wp_append_run ho hs hx hr (h v' w' (by simpa [Own] using h2) h3 h5)
namespace Tr
open Go.Proofs.Ytjelbfodkacipaa.Lx (isIn nameB strs_open strs_cell contains_c)
open Go.Proofs.Ytjelbfodkacipaa.Rec (rises i64s_open i64_cell)
open Go.Proofs.Ytjelbfodkacipaa.Lg (EvIn_apart row_mods row_lt row_mono)
theorem evc_set0 (z : Int) (es : Es) : ∀ (vs : List Value) (i : Nat), vs.length = es.length → i < es.length → (evc es vs).set (i * 2) (.int .u64 z) = evc (es.set i (z, ids es i)) vs := by
  induction es with
  | nil => intro vs i _ h; cases h
  | cons e r ih =>
    intro vs i h hi
    cases vs with
    | nil => simp at h
    | cons v q =>
      have e1 : ∀ (e : Int × List Int) (r : Es), evc (e :: r) (v :: q) = .int .u64 e.1 :: v :: evc r q := fun e r => by simp [evc]
      cases i with
      | zero => rw [List.set_cons_zero, e1, e1]; rfl
      | succ i =>
        have := ih q i (by simpa using h) (by simpa using hi)
        rw [List.set_cons_succ, e1, e1, show (i + 1) * 2 = i * 2 + 1 + 1 by omega, List.set_cons_succ, List.set_cons_succ, this]
        rfl
theorem evc_set1 (u : Value) (l : List Int) (es : Es) : ∀ (vs : List Value) (i : Nat), vs.length = es.length → i < es.length → (evc es vs).set (i * 2 + 1) u = evc (es.set i (tm es i, l)) (vs.set i u) := by
  induction es with
  | nil => intro vs i _ h; cases h
  | cons e r ih =>
    intro vs i h hi
    cases vs with
    | nil => simp at h
    | cons v q =>
      have e1 : ∀ (e : Int × List Int) (r : Es) (v : Value) (q : List Value), evc (e :: r) (v :: q) = .int .u64 e.1 :: v :: evc r q := fun e r v q => by simp [evc]
      cases i with
      | zero => rw [List.set_cons_zero, List.set_cons_zero, e1, e1]; rfl
      | succ i =>
        have := ih q i (by simpa using h) (by simpa using hi)
        rw [List.set_cons_succ, List.set_cons_succ, e1, e1, show (i + 1) * 2 + 1 = i * 2 + 1 + 1 + 1 by omega, List.set_cons_succ, List.set_cons_succ, this]
        rfl
theorem ids_set (es : Es) (i : Nat) (x : Int × List Int) (j : Nat) : ids (es.set i x) j = if j = i ∧ i < es.length then x.2 else ids es j := by
  unfold ids
  rw [List.getD_eq_getElem?_getD, List.getElem?_set, List.getD_eq_getElem?_getD]
  by_cases h : i = j
  · subst h
    by_cases h2 : i < es.length
    · simp [h2]
    · simp [h2]
  · rw [if_neg h, if_neg (by omega)]
theorem mods_cell (w : World) (g j : Nat) (u : Value) : Mods (fun k => k = g) w (w.setCell ⟨g, j, none⟩ u) := Mods.setCell (S := fun k => k = g) (Mods.refl _ w) (p := ⟨g, j, none⟩) rfl u
/-- A time is set. -/
theorem EvAp.time {w : World} {B g n c : Nat} {es : Es} (h : EvAp w B (.slice (some ⟨g, 0, none⟩) n c) es) (hn : es.length = n) (i : Nat) (hi : i < n) (z : Int) : Evs (w.setCell ⟨g, i * 2, none⟩ (.int .u64 z)) (.slice (some ⟨g, 0, none⟩) n c) (es.set i (z, ids es i)) := by
  subst hn
  obtain ⟨vs, h1, h2, h3, h4⟩ := h
  have hs := (World.ownsRow.stored h2 (i * 2) (.int .u64 z)).1
  rw [evc_set0 z es vs i h1 hi] at hs
  refine EvOwn.evs (B := B) ⟨vs, by rw [List.length_set]; exact h1, by rw [List.length_set]; exact hs, fun j hj => ?_⟩
  rw [List.length_set] at hj
  have e : ids (es.set i (z, ids es i)) j = ids es j := by
    rw [ids_set]
    by_cases hji : j = i ∧ i < es.length
    · rw [if_pos hji, hji.1]
    · rw [if_neg hji]
  rw [e]
  have ha := EvIn_apart h2 (h3 j hj)
  exact ⟨((h3 j hj).modsR (mods_cell w g (i * 2) _) (fun k hk q => ha k hk (by rw [q]; rfl))).sl, fun _ => ha⟩
/-- A row of ids has grown, and is put in its place. -/
theorem EvAp.grown {w w1 : World} {B B1 g n c : Nat} {es : Es} {vs : List Value} {v1 : Value} {l : List Int} (h1 : vs.length = es.length) (h2 : w.ownsRow B 39 2 (.slice (some ⟨g, 0, none⟩) n c) es.length (evc es vs)) (h3 : ∀ i, i < es.length → Own w B 3 (vs.getD i undef) (i64s (ids es i)))
    (h4 : ∀ i j, i < j → j < es.length → ∀ k, (vs.getD i undef).ownBlock = some k → (vs.getD j undef).ownBlock ≠ some k) (hn : es.length = n) (i : Nat) (hi : i < n) (ho : Own w1 B1 3 v1 (i64s l)) (hm : Mods (fun k => (vs.getD i undef).ownBlock = some k) w w1) (hat : ∀ k, v1.ownBlock = some k → (vs.getD i undef).ownBlock = some k ∨ w.heap.size ≤ k) :
    Evs (w1.setCell ⟨g, i * 2 + 1, none⟩ v1) (.slice (some ⟨g, 0, none⟩) n c) (es.set i (tm es i, l)) := by
  subst hn
  have hr1 : w1.ownsRow B 39 2 (.slice (some ⟨g, 0, none⟩) es.length c) es.length (evc es vs) := row_mods h2 hm (fun k hk q => EvIn_apart h2 (h3 i hi) k q hk)
  have hs := (World.ownsRow.stored hr1 (i * 2 + 1) v1).1
  rw [evc_set1 v1 l es vs i h1 hi] at hs
  have hgw : g < w.heap.size := (row_lt h2 g rfl).2
  have hv1 : ∀ k, v1.ownBlock = some k → k ≠ g := fun k hk q => by
    subst q
    rcases hat k hk with e | e
    · exact EvIn_apart h2 (h3 i hi) k e rfl
    · omega
  refine EvOwn.evs (B := B) ⟨vs.set i v1, by rw [List.length_set, List.length_set]; exact h1, by rw [List.length_set]; exact hs, fun j hj => ?_⟩
  rw [List.length_set] at hj
  by_cases hji : j = i
  · subst hji
    rw [ids_set, if_pos ⟨rfl, hj⟩, show (vs.set j v1).getD j undef = v1 by simp [List.getD_eq_getElem?_getD, h1, hj]]
    exact ⟨(ho.modsR (mods_cell w1 g (j * 2 + 1) v1) (fun k hk q => hv1 k hk q)).sl, fun _ k hk q => hv1 k hk (by cases q; rfl)⟩
  · rw [ids_set, if_neg (fun q => hji q.1), show (vs.set i v1).getD j undef = vs.getD j undef by simp [List.getD_eq_getElem?_getD, List.getElem?_set, Ne.symm hji]]
    have ha := EvIn_apart h2 (h3 j hj)
    have hne : ∀ k, (vs.getD j undef).ownBlock = some k → (vs.getD i undef).ownBlock ≠ some k := fun k hk q => by
      rcases Nat.lt_or_gt_of_ne hji with h | h
      · exact h4 j i h hi k hk q
      · exact h4 i j h hj k q hk
    exact ⟨(((h3 j hj).modsR hm hne).modsR (mods_cell w1 g (i * 2 + 1) v1) (fun k hk q => ha k hk (by rw [q]; rfl))).sl, fun _ => ha⟩
theorem rows_ne {w : World} {B B' n n' s s' : Nat} {e e' : TypeId} {v u : Value} {xs ys : List Value} (h : w.ownsRow B e s v n xs) (h' : w.ownsRow B' e' s' u n' ys) (he : e ≠ e') : ∀ k, v.ownBlock = some k → u.ownBlock ≠ some k := fun k hk hv => by
  rcases h.2 with ⟨rfl, _⟩ | ⟨g, cap, cur, rfl, _, hh, _⟩
  · cases hk
  · cases hk
    rcases h'.2 with ⟨rfl, _⟩ | ⟨g', cap', cur', rfl, _, hh', _⟩
    · cases hv
    · cases hv
      rw [hh] at hh'
      injection hh' with q
      injection q with _ q2 _
      exact he q2
theorem EvAp.strMods {w w' : World} {B B' : Nat} {v vn : Value} {es : Es} {l : List Value} (h : EvAp w B v es) (hn : Own w B' 9 vn l) (hm : Mods (fun k => vn.ownBlock = some k) w w') : EvAp w' B v es := by
  obtain ⟨vs, h1, h2, h3, h4⟩ := h
  exact ⟨vs, h1, row_mods h2 hm (rows_ne h2 hn (by decide)), fun i hi => (h3 i hi).modsR hm (rows_ne (h3 i hi) hn (by decide)), h4⟩
theorem EvAp.opened {w : World} {B : Nat} {v : Value} {es : Es} (h : EvAp w B v es) (hn : 0 < es.length) : ∃ g c, v = .slice (some ⟨g, 0, none⟩) es.length c := by
  obtain ⟨vs, h1, h2, _⟩ := h
  rcases h2.2 with ⟨_, q⟩ | ⟨g, cap, cur, rfl, _⟩
  · omega
  · exact ⟨g, cap, rfl⟩
theorem row_not {w : World} {B n s g : Nat} {e e' : TypeId} {v : Value} {xs : List Value} {a : Array Value} {fr : Nat × Nat} (h : w.ownsRow B e s v n xs) (hg : w.heap[g]? = some (.cells a e' fr)) (he : e ≠ e') : ∀ k, v.ownBlock = some k → k ≠ g := fun k hk hv => by
  subst hv
  rcases h.2 with ⟨rfl, _⟩ | ⟨g', cap, cur, rfl, _, hh, _⟩
  · cases hk
  · cases hk
    rw [hh] at hg
    injection hg with q
    injection q with _ q2 _
    exact he q2
theorem EvAp.offMods {w w' : World} {B g : Nat} {v : Value} {es : Es} {a : Array Value} {fr : Nat × Nat} (h : EvAp w B v es) (hg : w.heap[g]? = some (.cells a 26 fr)) (hm : Mods (fun k => k = g) w w') : EvAp w' B v es := by
  obtain ⟨vs, h1, h2, h3, h4⟩ := h
  exact ⟨vs, h1, row_mods h2 hm (row_not h2 hg (by decide)), fun i hi => (h3 i hi).modsR hm (row_not (h3 i hi) hg (by decide)), h4⟩
theorem EvAp.cell0 {w : World} {B g n c : Nat} {es : Es} (h : EvAp w B (.slice (some ⟨g, 0, none⟩) n c) es) (hn : es.length = n) (i : Nat) (hi : i < n) : w.cell? ⟨g, i * 2, none⟩ = some (.int .u64 (tm es i)) ∧ ∀ j, w.frozen? ⟨g, j, none⟩ = false := by
  subst hn
  obtain ⟨vs, h1, h2, _⟩ := h
  exact ⟨(World.ownsRow.cellAt h2 (i * 2) (by have := evc_len es vs h1; omega)).trans (evc_at es vs i h1 hi).1, fun j => World.ownsRow.frozenAt h2 j⟩
theorem pqr_set (i : Nat) (s : ByteArray) : (Lx.strs pqr).set i (.string s) = Lx.strs (pqr.set i s) := by
  unfold Lx.strs; rw [List.map_set]
theorem small_pqr {es : Es} (h : Small ⟨pqr, es⟩) (l : List ByteArray) (s : ByteArray) (hs : s.size ≤ 1000000000) (hl : l.length ≤ 1000000000) (hm : ∀ x ∈ l, x ∈ pqr ∨ x = s) : Small ⟨l, es⟩ :=
  ⟨hl, h.e, h.i, fun x hx => by
    rcases hm x hx with q | rfl
    · exact h.s x q
    · exact hs⟩
theorem str_bulk {H : Type} {d : DataW H} {s : ByteArray} (h : d = .lit (.string s.data.toList)) (hb : Rows.uptoBulk d ≤ 1000000000) : s.size ≤ 1000000000 := by
  subst h
  have h2 : s.size = s.data.toList.length := (show s.data.size = s.data.toList.length from Array.length_toList.symm)
  simp only [Rows.uptoBulk] at hb
  omega
theorem small_time {t : T} (h : Small t) (i : Nat) (z : Int) : Small ⟨t.names, t.evs.set i (z, ids t.evs i)⟩ := by
  refine ⟨h.n, by rw [List.length_set]; exact h.e, fun j hj => ?_, h.s⟩
  rw [List.length_set] at hj
  rw [ids_set]
  split
  · rename_i q; exact h.i i q.2
  · exact h.i j hj
theorem small_ids {t : T} (h : Small t) (i : Nat) (z : Int) (l : List Int) (hl : l.length ≤ 1000000000) : Small ⟨t.names, t.evs.set i (z, l)⟩ := by
  refine ⟨h.n, by rw [List.length_set]; exact h.e, fun j hj => ?_, h.s⟩
  rw [List.length_set] at hj
  rw [ids_set]
  split
  · exact hl
  · exact h.i j hj
theorem small_names {t : T} (h : Small t) (l : List ByteArray) (hl : l.length ≤ 1000000000) (hs : ∀ s ∈ l, s.size ≤ 1000000000) : Small ⟨l, t.evs⟩ := ⟨hl, h.e, h.i, hs⟩
end Tr
end Go.Proofs.Ytjelbfodkacipaa
