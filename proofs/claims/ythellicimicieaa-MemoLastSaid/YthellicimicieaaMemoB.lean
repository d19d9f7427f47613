/- Memories of moves, plain: what was put last; how many are kept. No condition. -/
import Derived.Test.YthellicimicieaaMemoA
set_option linter.unusedSimpArgs false
set_option linter.unusedVariables false
namespace Go.Proofs.Ythellicimicieaa
namespace Mm
open Go.Proofs.Ythellicimicieaa.Words (Wd trim trim_trim trim_len)
/-- A call: is it Put; its sets; its move. -/
structure Ac where
  p : Bool
  s : List Wd
  v : List Wd
  x : List Wd
  e : Bool
def noAc : Ac := ⟨false, [], [], [], false⟩
def ac (l : List Ac) (i : Nat) : Ac := l.getD i noAc
theorem ac_get (l : List Ac) (i : Nat) (h : i < l.length) : ac l i = l[i] := by simp [ac, h]
def step (m : Me) (a : Ac) : Me := if a.p = true then putM m a.s a.v a.x a.e else getM m a.s a.v
def run (m : Me) (l : List Ac) : Me := l.foldl step m
theorem run_take (m : Me) (l : List Ac) (k : Nat) (h : k < l.length) : run m (l.take (k + 1)) = step (run m (l.take k)) (ac l k) := by
  unfold run
  rw [List.take_succ_eq_append_getElem h, List.foldl_append, ac_get _ _ h]
  rfl
structure AcOk (a : Ac) : Prop where
  s : a.s.length ≤ 1000
  v : a.v.length ≤ 1000
  x : a.x.length ≤ 1000
theorem step_ok {m : Me} (h : Ok m) {a : Ac} (ha : AcOk a) : Ok (step m a) := by
  unfold step
  split
  · exact putM_ok h _ ha.s ha.v ha.x
  · exact getM_ok h _ _
theorem run_ok {m : Me} (h : Ok m) {l : List Ac} (hl : ∀ i, i < l.length → AcOk (ac l i)) : ∀ k, k ≤ l.length → Ok (run m (l.take k))
  | 0, _ => by simpa [run] using h
  | k + 1, hk => by
    rw [run_take _ _ _ hk]
    exact step_ok (run_ok h hl k (by omega)) (hl k hk)
/-! ### The shape of what Get and Put leave -/
theorem getM_len (m : Me) (s v : List Wd) : (getM m s v).l.length = m.l.length := by
  unfold getM; split
  · exact List.length_set
  · rfl
theorem getM_room (m : Me) (s v : List Wd) : (getM m s v).room = m.room := by
  unfold getM; split <;> rfl
theorem putM_room (m : Me) (s v x : List Wd) (e : Bool) : (putM m s v x e).room = m.room := by
  unfold putM; split
  · rfl
  split <;> rfl
theorem getM_at (m : Me) (s v : List Wd) (j : Nat) : ∃ b, at_ (getM m s v).l j = mk1 (at_ m.l j) b := by
  unfold getM
  split
  · rename_i hf
    show ∃ b, at_ (m.l.set _ _) j = _
    rw [at_set _ _ _ _ hf]
    split
    · rename_i he; subst he; exact ⟨true, rfl⟩
    · exact ⟨(at_ m.l j).k, rfl⟩
  · exact ⟨(at_ m.l j).k, rfl⟩
theorem hit_mk (s v : List Wd) (n : En) (b : Bool) : hit s v (mk1 n b) = hit s v n := rfl
/-- No two entries are of the same sets. -/
def Uniq (l : List En) : Prop := ∀ i j, i < l.length → j < l.length → (at_ l i).s = (at_ l j).s → (at_ l i).v = (at_ l j).v → i = j
theorem hit_eq {s v : List Wd} {n : En} (h : hit s v n = true) : n.s = trim s ∧ n.v = trim v := of_decide_eq_true h
theorem put_shape {m : Me} (h : Ok m) (hu : Uniq m.l) (s v x : List Wd) (e : Bool) :
    ∃ f, f < (putM m s v x e).l.length ∧ at_ (putM m s v x e).l f = new_ s v x e ∧ (∀ j, j < (putM m s v x e).l.length → j ≠ f → j < m.l.length ∧ hit s v (at_ m.l j) = false ∧ ∃ b, at_ (putM m s v x e).l j = mk1 (at_ m.l j) b) := by
  unfold putM
  split
  · rename_i hf
    refine ⟨fnd m.l s v, by simpa using hf, by show at_ (m.l.set _ _) _ = _; rw [at_set _ _ _ _ hf, if_pos rfl], fun j hj hne => ?_⟩
    have hj' : j < m.l.length := by simpa using hj
    refine ⟨hj', ?_, (at_ m.l j).k, by show at_ (m.l.set _ _) _ = _; rw [at_set _ _ _ _ hf, if_neg (fun q => hne q.symm)]; rfl⟩
    cases hh : hit s v (at_ m.l j) with
    | false => rfl
    | true =>
      have h1 := hit_eq hh
      have h2 := hit_eq (fnd_hit hf)
      exact absurd (hu j _ hj' hf (h1.1.trans h2.1.symm) (h1.2.trans h2.2.symm)) hne
  have hno : ∀ j, j < m.l.length → hit s v (at_ m.l j) = false := fun j hj => fnd_not (by omega)
  split
  · rename_i hr
    refine ⟨m.l.length, by simp, by show at_ (m.l ++ [_]) _ = _; rw [at_app _ _ _ (by omega), if_pos rfl], fun j hj hne => ?_⟩
    have hj' : j < m.l.length + 1 := by simpa using hj
    refine ⟨by omega, hno j (by omega), (at_ m.l j).k, by show at_ (m.l ++ [_]) _ = _; rw [at_app _ _ _ hj', if_neg hne]; rfl⟩
  · rename_i hr
    have hlen : m.l.length = m.room := by have := h.len; omega
    obtain ⟨k1, k2, k3⟩ := clk_keeps m.room h.r0 m.l.length m.l m.hand hlen h.hand
    refine ⟨(clk m.room m.l.length m.l m.hand).2, by show _ < (List.set _ _ _).length; rw [List.length_set, k1]; omega, by show at_ (List.set _ _ _) _ = _; rw [at_set _ _ _ _ (by rw [k1]; omega), if_pos rfl], fun j hj hne => ?_⟩
    have hj' : j < m.l.length := by have : j < (List.set _ _ _).length := hj; rw [List.length_set, k1] at this; exact this
    obtain ⟨b, hb⟩ := k3 j hj'
    exact ⟨hj', hno j hj', b, by show at_ (List.set _ _ _) _ = _; rw [at_set _ _ _ _ (by rw [k1]; omega), if_neg (fun q => hne q.symm), hb]⟩
theorem putM_len (m : Me) (h : Ok m) (s v x : List Wd) (e : Bool) : (putM m s v x e).l.length = if fnd m.l s v < m.l.length then m.l.length else min (m.l.length + 1) m.room := by
  have hl := h.len
  unfold putM
  split
  · exact List.length_set
  split
  · rename_i hf hr
    show (m.l ++ [_]).length = _
    rw [List.length_append, List.length_singleton]; omega
  · rename_i hf hr
    have hlen : m.l.length = m.room := by omega
    obtain ⟨k1, k2, k3⟩ := clk_keeps m.room h.r0 m.l.length m.l m.hand hlen h.hand
    show (List.set _ _ _).length = _
    rw [List.length_set, k1]; omega
theorem new_hit (s v x : List Wd) (e : Bool) : hit s v (new_ s v x e) = true := decide_eq_true ⟨rfl, rfl⟩
/-- What was put just now is there. -/
theorem put_found {m : Me} (h : Ok m) (hu : Uniq m.l) (s v x : List Wd) (e : Bool) : fnd (putM m s v x e).l s v < (putM m s v x e).l.length := by
  obtain ⟨f, hf, e1, _⟩ := put_shape h hu s v x e
  rcases Nat.lt_or_ge (fnd (putM m s v x e).l s v) (putM m s v x e).l.length with h1 | h1
  · exact h1
  · have := fnd_not (Nat.lt_of_lt_of_le hf h1)
    rw [e1, new_hit] at this
    cases this
theorem uniq_get {m : Me} (hu : Uniq m.l) (s v : List Wd) : Uniq (getM m s v).l := fun i j hi hj h1 h2 => by
  rw [getM_len] at hi hj
  obtain ⟨a, ha⟩ := getM_at m s v i
  obtain ⟨b, hb⟩ := getM_at m s v j
  rw [ha, hb] at h1 h2
  exact hu i j hi hj h1 h2
theorem uniq_put {m : Me} (h : Ok m) (hu : Uniq m.l) (s v x : List Wd) (e : Bool) : Uniq (putM m s v x e).l := by
  obtain ⟨f, hf, e1, hot⟩ := put_shape h hu s v x e
  have no : ∀ j, j < (putM m s v x e).l.length → j ≠ f → (at_ (putM m s v x e).l j).s = (new_ s v x e).s → (at_ (putM m s v x e).l j).v = (new_ s v x e).v → False := fun j hj hne h1 h2 => by
    obtain ⟨_, h3, b, h4⟩ := hot j hj hne
    rw [h4] at h1 h2
    have h5 : hit s v (at_ m.l j) = true := decide_eq_true ⟨h1, h2⟩
    rw [h3] at h5; cases h5
  intro i j hi hj h1 h2
  by_cases hif : i = f
  · by_cases hjf : j = f
    · rw [hif, hjf]
    · rw [hif, e1] at h1 h2
      exact (no j hj hjf h1.symm h2.symm).elim
  · by_cases hjf : j = f
    · rw [hjf, e1] at h1 h2
      exact (no i hi hif h1 h2).elim
    · obtain ⟨i1, _, b1, h4⟩ := hot i hi hif
      obtain ⟨j1, _, b2, h5⟩ := hot j hj hjf
      rw [h4, h5] at h1 h2
      exact hu i j i1 j1 h1 h2
/-! ### MemoLast -/
def isL (A : List Ac) (s v : List Wd) (k : Nat) : Bool := (ac A k).p && (decide (trim (ac A k).s = trim s) && decide (trim (ac A k).v = trim v))
/-- The last Put of these sets among the first ones (-1: none). -/
def lastK (A : List Ac) (s v : List Wd) : Nat → Int
  | 0 => -1
  | k + 1 => if isL A s v k = true then (k : Int) else lastK A s v k
theorem last_is {A : List Ac} {s v : List Wd} {k : Nat} (h : isL A s v k = true) : ∀ i, k < i → (∀ k', k < k' → k' < i → isL A s v k' = false) → lastK A s v i = (k : Int)
  | 0, hk, _ => by omega
  | i + 1, hk, hn => by
    unfold lastK
    by_cases hki : k = i
    · subst hki; rw [if_pos h]
    · rw [if_neg (by rw [hn i (by omega) (by omega)]; decide)]
      exact last_is h i (by omega) (fun k' h1 h2 => hn k' h1 (by omega))
structure Inv (n : Nat) (A : List Ac) (i : Nat) (m : Me) : Prop where
  ok : Ok m
  room : m.room = n
  len : m.l.length ≤ i
  uniq : Uniq m.l
  last : ∀ j, j < m.l.length → ∃ k, k < i ∧ (ac A k).p = true ∧ trim (ac A k).s = (at_ m.l j).s ∧ trim (ac A k).v = (at_ m.l j).v ∧ trim (ac A k).x = (at_ m.l j).x ∧ (ac A k).e = (at_ m.l j).e ∧ ∀ k', k < k' → k' < i → ¬ ((ac A k').p = true ∧ trim (ac A k').s = (at_ m.l j).s ∧ trim (ac A k').v = (at_ m.l j).v)
theorem inv_get {n : Nat} {A : List Ac} {i : Nat} {m : Me} (h : Inv n A i m) (s v : List Wd) : Inv n A i (getM m s v) :=
  ⟨getM_ok h.ok s v, (getM_room m s v).trans h.room, by rw [getM_len]; exact h.len, uniq_get h.uniq s v, fun j hj => by
    rw [getM_len] at hj
    obtain ⟨b, hb⟩ := getM_at m s v j
    rw [hb]
    exact h.last j hj⟩
theorem inv_put {n : Nat} {A : List Ac} {i : Nat} {m : Me} (h : Inv n A i m) (hp : (ac A i).p = true) (ha : AcOk (ac A i)) : Inv n A (i + 1) (putM m (ac A i).s (ac A i).v (ac A i).x (ac A i).e) := by
  generalize hX : ac A i = a at *
  obtain ⟨f, hf, e1, hot⟩ := put_shape h.ok h.uniq a.s a.v a.x a.e
  refine ⟨putM_ok h.ok _ ha.s ha.v ha.x, (putM_room m _ _ _ _).trans h.room, ?_, uniq_put h.ok h.uniq _ _ _ _, fun j hj => ?_⟩
  · rw [putM_len m h.ok]
    have := h.len
    split <;> omega
  · by_cases hjf : j = f
    · subst hjf
      rw [e1]
      exact ⟨i, by omega, by rw [hX]; exact hp, by rw [hX]; rfl, by rw [hX]; rfl, by rw [hX]; rfl, by rw [hX]; rfl, fun k' h1 h2 => by omega⟩
    · obtain ⟨hj1, h3, b, h4⟩ := hot j hj hjf
      obtain ⟨k, k0, k1, k2, k3, k4, k5, k6⟩ := h.last j hj1
      rw [h4]
      refine ⟨k, by omega, k1, k2, k3, k4, k5, fun k' h1 h2 h7 => ?_⟩
      by_cases hk : k' = i
      · subst hk
        rw [hX] at h7
        have h5 : hit a.s a.v (at_ m.l j) = true := decide_eq_true ⟨h7.2.1.symm, h7.2.2.symm⟩
        rw [h3] at h5; cases h5
      · exact k6 k' h1 (by omega) h7
theorem inv_skip {n : Nat} {A : List Ac} {i : Nat} {m : Me} (h : Inv n A i m) (hp : (ac A i).p = false) : Inv n A (i + 1) m :=
  ⟨h.ok, h.room, by have := h.len; omega, h.uniq, fun j hj => by
    obtain ⟨k, k0, k1, k2, k3, k4, k5, k6⟩ := h.last j hj
    refine ⟨k, by omega, k1, k2, k3, k4, k5, fun k' h1 h2 h7 => ?_⟩
    by_cases hk : k' = i
    · subst hk; rw [hp] at h7; cases h7.1
    · exact k6 k' h1 (by omega) h7⟩
/-- What Get tells then. -/
theorem inv_told {n : Nat} {A : List Ac} {i : Nat} {m : Me} (h : Inv n A i m) (s v : List Wd) (hok : (getP m s v).2 = true) : ∃ k : Nat, k < i ∧ lastK A s v i = (k : Int) ∧ (getP m s v).1.1 = trim (ac A k).x ∧ (getP m s v).1.2 = (ac A k).e := by
  unfold getP at *
  split at hok
  · rename_i hf
    rw [if_pos hf]
    have hh := hit_eq (fnd_hit hf)
    obtain ⟨k, k0, k1, k2, k3, k4, k5, k6⟩ := h.last _ hf
    refine ⟨k, k0, last_is (by unfold isL; rw [k1, k2, k3, hh.1, hh.2]; simp) i k0 (fun k' h1 h2 => ?_), k4.symm, k5.symm⟩
    cases hl : isL A s v k' with
    | false => rfl
    | true =>
      unfold isL at hl
      simp only [Bool.and_eq_true, decide_eq_true_eq] at hl
      exact absurd ⟨hl.1, hl.2.1.trans hh.1.symm, hl.2.2.trans hh.2.symm⟩ (k6 k' h1 h2)
  · cases hok
theorem inv_new {n : Nat} (h0 : 1 ≤ n) (h1 : n ≤ 4096) (A : List Ac) : Inv n A 0 ⟨n, [], 0⟩ := ⟨new_mem_ok h0 h1, rfl, Nat.le_refl _, (fun i j hi => by cases hi), (fun j hj => by cases hj)⟩
theorem getP_no {m : Me} {s v : List Wd} (h : (getP m s v).2 = false) : (getP m s v).1 = ([], false) := by
  unfold getP at *
  split at h
  · cases h
  · rename_i hf; rw [if_neg hf]
theorem getP_put {m : Me} (h : Ok m) (hu : Uniq m.l) (s v x : List Wd) (e : Bool) : getP (putM m s v x e) s v = ((trim x, e), true) := by
  have hf := put_found h hu s v x e
  unfold getP
  rw [if_pos hf]
  obtain ⟨f, hf2, e1, hot⟩ := put_shape h hu s v x e
  have h1 := hit_eq (fnd_hit hf)
  have h2 := uniq_put h hu s v x e _ _ hf hf2 (by rw [h1.1, e1]; rfl) (by rw [h1.2, e1]; rfl)
  rw [h2, e1]
  rfl
end Mm
end Go.Proofs.Ythellicimicieaa
