/- Memories of moves, plain: a room that is filled; a second chance. No condition. -/
import Derived.Test.YthellicimicieaaMemoB
set_option linter.unusedSimpArgs false
set_option linter.unusedVariables false
namespace Go.Proofs.Ythellicimicieaa
namespace Mm
open Go.Proofs.Ythellicimicieaa.Words (Wd trim trim_trim trim_len)
def w_ (n : Nat) : Wd := BitVec.ofNat 64 n
theorem w_nat {n : Nat} (h : n < 18446744073709551616) : (w_ n).toNat = n := by unfold w_; rw [BitVec.toNat_ofNat]; omega
theorem w_inj {a b : Nat} (ha : a < 18446744073709551616) (hb : b < 18446744073709551616) (h : w_ a = w_ b) : a = b := by
  have := congrArg BitVec.toNat h
  rwa [w_nat ha, w_nat hb] at this
theorem trim_one {n : Nat} (h0 : 0 < n) (h : n < 18446744073709551616) : trim [w_ n] = [w_ n] := by
  have : ¬ w_ n = 0#64 := fun e => by
    have := congrArg BitVec.toNat e
    rw [w_nat h] at this
    simp at this
    omega
  simp [trim, this]
theorem trim_noughted {n : Nat} (h0 : 0 < n) (h : n < 18446744073709551616) : trim [w_ n, 0] = [w_ n] := by
  have : ¬ w_ n = 0#64 := fun e => by
    have := congrArg BitVec.toNat e
    rw [w_nat h] at this
    simp at this
    omega
  simp [trim, this]
theorem one_inj {a b : Nat} (ha : a < 18446744073709551616) (hb : b < 18446744073709551616) (h : [w_ a] = [w_ b]) : a = b := w_inj ha hb (List.cons.inj h).1
/-- What is found does not depend on marks. -/
theorem fnd_mk {l l' : List En} (hl : l'.length = l.length) (h : ∀ j, ∃ b, at_ l' j = mk1 (at_ l j) b) (s v : List Wd) : fnd l' s v = fnd l s v := by
  have hh : ∀ j, hit s v (at_ l' j) = hit s v (at_ l j) := fun j => by obtain ⟨b, hb⟩ := h j; rw [hb]; rfl
  rcases Nat.lt_or_ge (fnd l s v) l.length with h1 | h1
  · exact fnd_eq (by omega) (by rw [hh]; exact fnd_hit h1) (fun i hi => by rw [hh]; exact fnd_not hi)
  · rw [fnd_none (fun i hi => by rw [hh]; exact fnd_not (by omega)), hl]
    exact (Nat.le_antisymm (fnd_le _ _ _) h1).symm
theorem getM_fnd (m : Me) (s v a b : List Wd) : fnd (getM m s v).l a b = fnd m.l a b := fnd_mk (getM_len m s v) (getM_at m s v) a b
theorem hit_trim (s v : List Wd) (n : En) : hit (trim s) (trim v) n = hit s v n := by unfold hit; rw [trim_trim, trim_trim]
theorem fnd_same (l : List En) {s s' v v' : List Wd} (hs : trim s = trim s') (hv : trim v = trim v') : fnd l s v = fnd l s' v' := by
  unfold fnd
  have : hit s v = hit s' v' := funext fun n => by unfold hit; rw [hs, hv]
  rw [this]
/-! ### MemoRoom -/
structure RInv (n i : Nat) (m : Me) : Prop where
  ok : Ok m
  room : m.room = n
  len : m.l.length = min i n
  uniq : Uniq m.l
  keys : ∀ j, j < m.l.length → ∃ q, q < i ∧ (at_ m.l j).s = [w_ (q + 1)] ∧ (at_ m.l j).v = trim [w_ q] ∧ (at_ m.l j).x = [w_ (q + 7)]
theorem room_new {n : Nat} (h0 : 1 ≤ n) (h1 : n ≤ 4096) : RInv n 0 ⟨n, [], 0⟩ := ⟨new_mem_ok h0 h1, rfl, by simp, (fun i j hi => by cases hi), (fun j hj => by cases hj)⟩
theorem room_put {n i : Nat} {m : Me} (h : RInv n i m) (hi : i < 1000) : RInv n (i + 1) (putM m [w_ (i + 1)] [w_ i] [w_ (i + 7)] false) := by
  have hno : fnd m.l [w_ (i + 1)] [w_ i] = m.l.length := fnd_none fun j hj => by
    obtain ⟨q, q0, q1, _⟩ := h.keys j hj
    refine decide_eq_false fun hh => ?_
    rw [q1, trim_one (by omega) (by omega)] at hh
    have := one_inj (by omega) (by omega) hh.1
    omega
  obtain ⟨f, hf, e1, hot⟩ := put_shape h.ok h.uniq [w_ (i + 1)] [w_ i] [w_ (i + 7)] false
  refine ⟨putM_ok h.ok _ (by simp) (by simp) (by simp), (putM_room m _ _ _ _).trans h.room, ?_, uniq_put h.ok h.uniq _ _ _ _, fun j hj => ?_⟩
  · rw [putM_len m h.ok, if_neg (by omega), h.room, h.len]
    omega
  · by_cases hjf : j = f
    · subst hjf
      rw [e1]
      exact ⟨i, by omega, trim_one (by omega) (by omega), rfl, trim_one (by omega) (by omega)⟩
    · obtain ⟨hj1, h3, b, h4⟩ := hot j hj hjf
      obtain ⟨q, q0, q1, q2, q3⟩ := h.keys j hj1
      rw [h4]
      exact ⟨q, by omega, q1, q2, q3⟩
theorem room_get {n i : Nat} {m : Me} (h : RInv n i m) (s v : List Wd) : RInv n i (getM m s v) :=
  ⟨getM_ok h.ok s v, (getM_room m s v).trans h.room, by rw [getM_len]; exact h.len, uniq_get h.uniq s v, fun j hj => by
    rw [getM_len] at hj
    obtain ⟨b, hb⟩ := getM_at m s v j
    rw [hb]
    exact h.keys j hj⟩
def there (l : List En) (q : Nat) : Bool := decide (fnd l [w_ (q + 1)] [w_ q] < l.length)
/-- How many of the first ones are there. -/
def cnt (l : List En) (i : Nat) : Nat := ((List.range i).filter (there l)).length
theorem cnt_step (l : List En) (i : Nat) : cnt l (i + 1) = cnt l i + if there l i = true then 1 else 0 := by
  unfold cnt
  rw [List.range_succ, List.filter_append]
  by_cases h : there l i = true
  · simp [h]
  · simp [h]
theorem getP_there {m : Me} (q : Nat) (hq : q < 1000) : (getP m [w_ (q + 1), 0] [w_ q]).2 = there m.l q := by
  unfold there getP
  rw [fnd_same m.l (s := [w_ (q + 1), 0]) (s' := [w_ (q + 1)]) (v := [w_ q]) (v' := [w_ q]) (by rw [trim_noughted (by omega) (by omega), trim_one (by omega) (by omega)]) rfl]
  split
  · rename_i h; exact (decide_eq_true h).symm
  · rename_i h; exact (decide_eq_false h).symm
theorem room_told {n i : Nat} {m : Me} (h : RInv n i m) (q : Nat) (hq : q < 1000) (hi : i ≤ 1000) (ht : (getP m [w_ (q + 1), 0] [w_ q]).2 = true) : (getP m [w_ (q + 1), 0] [w_ q]).1.1 = [w_ (q + 7)] := by
  unfold getP at *
  split at ht
  · rename_i hf
    rw [if_pos hf]
    have h1 := hit_eq (fnd_hit hf)
    obtain ⟨p, p0, p1, _, p3⟩ := h.keys _ hf
    rw [p1, trim_noughted (by omega) (by omega)] at h1
    have := one_inj (by omega) (by omega) h1.1
    have e : p = q := by omega
    subst e
    exact p3
  · cases ht
theorem room_cnt {n k : Nat} {m : Me} (h : RInv n k m) (hk : k ≤ 1000) : cnt m.l k = min k n := by
  rw [← h.len]
  have hq : ∀ j, j < m.l.length → ∃ q, q < k ∧ ((at_ m.l j).s.getD 0 0).toNat = q + 1 ∧ (at_ m.l j).s = [w_ (q + 1)] ∧ (at_ m.l j).v = trim [w_ q] := fun j hj => by
    obtain ⟨q, q0, q1, q2, _⟩ := h.keys j hj
    exact ⟨q, q0, by rw [q1]; exact w_nat (by omega), q1, q2⟩
  have n1 : ((List.range m.l.length).map fun j => ((at_ m.l j).s.getD 0 0).toNat).Nodup := by
    unfold List.Nodup
    rw [List.pairwise_map]
    refine List.Pairwise.imp_of_mem ?_ (List.nodup_range (n := m.l.length))
    intro a b ha hb hne he
    obtain ⟨p, _, p1, p2, p3⟩ := hq a (List.mem_range.1 ha)
    obtain ⟨q, _, q1, q2, q3⟩ := hq b (List.mem_range.1 hb)
    have e : p = q := by omega
    subst e
    exact hne (h.uniq a b (List.mem_range.1 ha) (List.mem_range.1 hb) (p2.trans q2.symm) (p3.trans q3.symm))
  have n2 : (((List.range k).filter (there m.l)).map fun q => q + 1).Nodup := by
    unfold List.Nodup
    rw [List.pairwise_map]
    exact (List.Pairwise.filter _ (List.nodup_range (n := k))).imp (fun hne he => hne (by omega))
  have hp := ((List.perm_ext_iff_of_nodup n1 n2).2 fun x => by
    simp only [List.mem_map, List.mem_range, List.mem_filter]
    constructor
    · rintro ⟨j, hj, rfl⟩
      obtain ⟨q, q0, q1, q2, q3⟩ := hq j hj
      refine ⟨q, ⟨q0, decide_eq_true ?_⟩, q1.symm⟩
      rcases Nat.lt_or_ge (fnd m.l [w_ (q + 1)] [w_ q]) m.l.length with h1 | h1
      · exact h1
      · have := fnd_not (Nat.lt_of_lt_of_le hj h1)
        unfold hit at this
        rw [q2, q3, trim_one (by omega) (by omega)] at this
        simp at this
    · rintro ⟨q, ⟨q0, ht⟩, rfl⟩
      have hf := of_decide_eq_true ht
      refine ⟨_, hf, ?_⟩
      obtain ⟨p, p0, p1, p2, p3⟩ := hq _ hf
      have h1 := hit_eq (fnd_hit hf)
      rw [p2, trim_one (by omega) (by omega)] at h1
      have := one_inj (by omega) (by omega) h1.1
      omega).length_eq
  rw [List.length_map, List.length_map, List.length_range] at hp
  exact hp.symm
/-! ### MemoClock -/
/-- Entries by their numbers and marks. -/
def Shp (l : List En) (n : Nat) (q : Nat → Nat) (mk : Nat → Bool) : Prop := l.length = n ∧ ∀ j, j < n → (at_ l j).s = [w_ (q j)] ∧ (at_ l j).v = [] ∧ (at_ l j).k = mk j
theorem trim_nil' : trim [] = [] := rfl
theorem shp_hit {l : List En} {n : Nat} {q : Nat → Nat} {mk : Nat → Bool} (h : Shp l n q mk) {j p : Nat} (hj : j < n) (hq : q j < 100000) (hp0 : 0 < p) (hp : p < 100000) : hit [w_ p] [] (at_ l j) = decide (q j = p) := by
  unfold hit
  obtain ⟨h1, h2, _⟩ := h.2 j hj
  rw [h1, h2, trim_one hp0 (by omega), trim_nil']
  by_cases e : q j = p
  · rw [e]; simp
  · rw [decide_eq_false e]
    exact decide_eq_false fun hh => e (one_inj (by omega) (by omega) hh.1)
theorem shp_at {l : List En} {n : Nat} {q : Nat → Nat} {mk : Nat → Bool} (h : Shp l n q mk) (hq : ∀ j, j < n → q j < 100000) {j p : Nat} (hj : j < n) (hp0 : 0 < p) (hqj : q j = p) (hn : ∀ i, i < j → q i ≠ p) : fnd l [w_ p] [] = j := by
  have hp : p < 100000 := by rw [← hqj]; exact hq j hj
  exact fnd_eq (by rw [h.1]; exact hj) (by rw [shp_hit h hj (hq j hj) hp0 hp]; exact decide_eq_true hqj) (fun i hi => by rw [shp_hit h (by omega) (hq i (by omega)) hp0 hp]; exact decide_eq_false (hn i hi))
theorem shp_not {l : List En} {n : Nat} {q : Nat → Nat} {mk : Nat → Bool} (h : Shp l n q mk) (hq : ∀ j, j < n → q j < 100000) {p : Nat} (hp0 : 0 < p) (hp : p < 100000) (hn : ∀ i, i < n → q i ≠ p) : fnd l [w_ p] [] = n := by
  rw [fnd_none (fun i hi => by rw [h.1] at hi; rw [shp_hit h hi (hq i hi) hp0 hp]; exact decide_eq_false (hn i hi)), h.1]
theorem shp_clk {n : Nat} (q : Nat → Nat) : ∀ (d a f : Nat) (l : List En), d ≤ f → a + d < n → Shp l n q (fun j => decide (a ≤ j ∧ j < a + d)) → ∃ l', clk n f l a = (l', a + d) ∧ Shp l' n q (fun _ => false)
  | 0, a, f, l, hf, ha, h => by
    refine ⟨l, clk_stop ?_ f, h.1, fun j hj => ?_⟩
    · have := (h.2 a (by omega)).2.2
      rw [this]
      exact decide_eq_false (by omega)
    · obtain ⟨h1, h2, h3⟩ := h.2 j hj
      exact ⟨h1, h2, h3.trans (decide_eq_false (by omega))⟩
  | d + 1, a, f, l, hf, ha, h => by
    obtain ⟨f', rfl⟩ : ∃ f', f = f' + 1 := ⟨f - 1, by omega⟩
    have hl := h.1
    have hk : (at_ l a).k = true := (h.2 a (by omega)).2.2.trans (decide_eq_true (by omega))
    rw [clk_step hk, Nat.mod_eq_of_lt (by omega)]
    obtain ⟨l', h1, h2⟩ := shp_clk (n := n) q d (a + 1) f' (l.set a (mk1 (at_ l a) false)) (by omega) (by omega) ⟨by rw [List.length_set]; exact h.1, fun j hj => by
      rw [at_set _ _ _ _ (by omega)]
      obtain ⟨h1, h2, h3⟩ := h.2 j hj
      split
      · rename_i e; subst e
        exact ⟨h1, h2, (decide_eq_false (by omega)).symm⟩
      · exact ⟨h1, h2, h3.trans (decide_eq_decide.2 (by omega))⟩⟩
    exact ⟨l', by rw [h1]; congr 1; omega, h2⟩
theorem shp_round {n : Nat} (q : Nat → Nat) : ∀ (d a f : Nat) (l : List En), d ≤ f → a + d = n → 0 < n → Shp l n q (fun j => decide (a ≤ j)) → ∃ l', clk n f l (a % n) = (l', 0) ∧ Shp l' n q (fun _ => false)
  | 0, a, f, l, hf, ha, hn, h => by
    have e : a = n := by omega
    subst e
    rw [Nat.mod_self]
    refine ⟨l, clk_stop ?_ f, h.1, fun j hj => ?_⟩
    · have := (h.2 0 hn).2.2
      rw [this]
      exact decide_eq_false (by omega)
    · obtain ⟨h1, h2, h3⟩ := h.2 j hj
      exact ⟨h1, h2, h3.trans (decide_eq_false (by omega))⟩
  | d + 1, a, f, l, hf, ha, hn, h => by
    obtain ⟨f', rfl⟩ : ∃ f', f = f' + 1 := ⟨f - 1, by omega⟩
    have hl := h.1
    rw [Nat.mod_eq_of_lt (by omega)]
    have hk : (at_ l a).k = true := (h.2 a (by omega)).2.2.trans (decide_eq_true (by omega))
    rw [clk_step hk]
    exact shp_round (n := n) q d (a + 1) f' (l.set a (mk1 (at_ l a) false)) (by omega) (by omega) hn ⟨by rw [List.length_set]; exact h.1, fun j hj => by
      rw [at_set _ _ _ _ (by omega)]
      obtain ⟨h1, h2, h3⟩ := h.2 j hj
      split
      · rename_i e; subst e
        exact ⟨h1, h2, (decide_eq_false (by omega)).symm⟩
      · exact ⟨h1, h2, h3.trans (decide_eq_decide.2 (by omega))⟩⟩
/-- While it is filled. -/
structure CA (n i : Nat) (m : Me) : Prop where
  ok : Ok m
  room : m.room = n
  hand : m.hand = 0
  shp : Shp m.l i (fun j => j + 1) (fun _ => true)
theorem ca_new {n : Nat} (h0 : 1 ≤ n) (h1 : n ≤ 4096) : CA n 0 ⟨n, [], 0⟩ := ⟨new_mem_ok h0 h1, rfl, rfl, rfl, fun j hj => by omega⟩
theorem ca_put {n i : Nat} {m : Me} (h : CA n i m) (hi : i < n) : CA n (i + 1) (putM m [w_ (i + 1)] [] [] true) := by
  have hn : n ≤ 4096 := by rw [← h.room]; exact h.ok.r1
  have hl := h.shp.1
  have hf := shp_not h.shp (p := i + 1) (fun j hj => by omega) (by omega) (by omega) (fun j hj => by omega)
  have ok' := putM_ok h.ok (s := [w_ (i + 1)]) (v := []) (x := []) true (by simp) (by simp) (by simp)
  have e : putM m [w_ (i + 1)] [] [] true = ⟨m.room, m.l ++ [new_ [w_ (i + 1)] [] [] true], m.hand⟩ := by
    unfold putM
    rw [if_neg (by omega), if_pos (by rw [h.room]; omega)]
  rw [e] at ok' ⊢
  refine ⟨ok', h.room, h.hand, by show (m.l ++ [_]).length = _; rw [List.length_append, hl]; rfl, fun j hj => ?_⟩
  show (at_ (m.l ++ [_]) j).s = _ ∧ (at_ (m.l ++ [_]) j).v = _ ∧ (at_ (m.l ++ [_]) j).k = _
  rw [at_app _ _ _ (by omega)]
  split
  · rename_i e2
    rw [hl] at e2
    subst e2
    exact ⟨trim_one (by omega) (by omega), rfl, rfl⟩
  · exact h.shp.2 j (by omega)
/-- The numbers of the entries behind the second round's begin. -/
def q1 (n : Nat) (j : Nat) : Nat := if j = 0 then n + 1 else j + 1
structure CB (n k : Nat) (m : Me) : Prop where
  ok : Ok m
  room : m.room = n
  hand : m.hand = 1
  shp : Shp m.l n (q1 n) (fun j => decide (j ≤ k))
theorem cb_put {n : Nat} {m : Me} (h : CA n n m) (hn : 3 ≤ n) : CB n 0 (putM m [w_ (n + 1)] [] [] true) := by
  have hn2 : n ≤ 4096 := by rw [← h.room]; exact h.ok.r1
  have hl := h.shp.1
  have hf := shp_not h.shp (p := n + 1) (fun j hj => by omega) (by omega) (by omega) (fun j hj => by omega)
  have ok' := putM_ok h.ok (s := [w_ (n + 1)]) (v := []) (x := []) true (by simp) (by simp) (by simp)
  obtain ⟨l', c1, c2⟩ := shp_round (n := n) (fun j => j + 1) n 0 n m.l (Nat.le_refl _) (by omega) (by omega) ⟨hl, fun j hj => by obtain ⟨a, b, c⟩ := h.shp.2 j hj; exact ⟨a, b, c.trans (decide_eq_true (by omega)).symm⟩⟩
  rw [Nat.zero_mod] at c1
  have e : putM m [w_ (n + 1)] [] [] true = ⟨m.room, l'.set 0 (new_ [w_ (n + 1)] [] [] true), 1⟩ := by
    unfold putM
    rw [if_neg (by omega), if_neg (by rw [h.room]; omega), h.room, hl, h.hand, c1]
    show Me.mk n (l'.set 0 _) ((0 + 1) % n) = _
    rw [Nat.mod_eq_of_lt (by omega)]
  rw [e] at ok' ⊢
  refine ⟨ok', h.room, rfl, by show (List.set _ _ _).length = _; rw [List.length_set]; exact c2.1, fun j hj => ?_⟩
  show (at_ (List.set _ _ _) j).s = _ ∧ (at_ (List.set _ _ _) j).v = _ ∧ (at_ (List.set _ _ _) j).k = _
  rw [at_set _ _ _ _ (by rw [c2.1]; omega)]
  split
  · rename_i e2
    subst e2
    exact ⟨trim_one (by omega) (by omega), rfl, rfl⟩
  · obtain ⟨a, b, c⟩ := c2.2 j hj
    rename_i e2
    exact ⟨by rw [a]; unfold q1; rw [if_neg (fun e => e2 e.symm)], b, c.trans (decide_eq_false (by omega)).symm⟩
theorem q1_bd {n j : Nat} (hn : n ≤ 4096) (hj : j < n) : q1 n j < 100000 := by unfold q1; split <;> omega
theorem cb_found {n k i : Nat} {m : Me} (h : CB n k m) (hi : i + 1 < n) : fnd m.l [w_ (i + 2)] [] = i + 1 := by
  have hn : n ≤ 4096 := by rw [← h.room]; exact h.ok.r1
  exact shp_at h.shp (fun j hj => q1_bd hn hj) hi (by omega) (by unfold q1; rw [if_neg (by omega)]) (fun j hj => by unfold q1; split <;> omega)
theorem cb_get {n k : Nat} {m : Me} (h : CB n k m) (hk : k + 1 < n) : (getP m [w_ (k + 2)] []).2 = true ∧ CB n (k + 1) (getM m [w_ (k + 2)] []) := by
  have hf := cb_found h hk
  have hl := h.shp.1
  have ok' := getM_ok h.ok [w_ (k + 2)] []
  refine ⟨by unfold getP; rw [hf, if_pos (by omega)], ?_⟩
  have e : getM m [w_ (k + 2)] [] = ⟨m.room, m.l.set (k + 1) (mk1 (at_ m.l (k + 1)) true), m.hand⟩ := by
    unfold getM
    rw [hf, if_pos (by omega)]
  rw [e] at ok' ⊢
  refine ⟨ok', h.room, h.hand, by show (List.set _ _ _).length = _; rw [List.length_set]; exact hl, fun j hj => ?_⟩
  show (at_ (List.set _ _ _) j).s = _ ∧ (at_ (List.set _ _ _) j).v = _ ∧ (at_ (List.set _ _ _) j).k = _
  rw [at_set _ _ _ _ (by omega)]
  obtain ⟨a, b, c⟩ := h.shp.2 j hj
  split
  · rename_i e2
    subst e2
    exact ⟨a, b, (decide_eq_true (by omega)).symm⟩
  · rename_i e2
    exact ⟨a, b, c.trans (decide_eq_decide.2 (by omega))⟩
def q2 (n k : Nat) (j : Nat) : Nat := if j = 0 then n + 1 else if j = k + 1 then 1000 else j + 1
structure CC (n k : Nat) (m : Me) : Prop where
  ok : Ok m
  shp : ∃ mk, Shp m.l n (q2 n k) mk
theorem cc_put {n k : Nat} {m : Me} (h : CB n k m) (hk : k + 1 < n) (hn : n ≤ 100) : CC n k (putM m [w_ 1000] [] [] false) := by
  have hl := h.shp.1
  have hq : ∀ j, j < n → q1 n j < 100000 := fun j hj => q1_bd (by omega) hj
  have hf := shp_not h.shp (p := 1000) hq (by omega) (by omega) (fun j hj => by unfold q1; split <;> omega)
  have ok' := putM_ok h.ok (s := [w_ 1000]) (v := []) (x := []) false (by simp) (by simp) (by simp)
  obtain ⟨l1, hl1⟩ : ∃ l1, l1 = m.l := ⟨_, rfl⟩
  have hcl : ∃ l', clk n n m.l 1 = (l', k + 1) ∧ l'.length = n ∧ ∀ j, j < n → (at_ l' j).s = [w_ (q1 n j)] ∧ (at_ l' j).v = [] := by
    have gen : ∀ (d a f : Nat) (l : List En), d ≤ f → 0 < a → a + d = k + 1 → Shp l n (q1 n) (fun j => decide (j = 0 ∨ (a ≤ j ∧ j ≤ k))) → ∃ l', clk n f l a = (l', k + 1) ∧ l'.length = n ∧ ∀ j, j < n → (at_ l' j).s = [w_ (q1 n j)] ∧ (at_ l' j).v = [] := by
      intro d
      induction d with
      | zero =>
        intro a f l hf ha hd hs
        have e : a = k + 1 := by omega
        subst e
        refine ⟨l, clk_stop ?_ f, hs.1, fun j hj => ⟨(hs.2 j hj).1, (hs.2 j hj).2.1⟩⟩
        rw [(hs.2 (k + 1) hk).2.2]
        exact decide_eq_false (by omega)
      | succ d ih =>
        intro a f l hf ha hd hs
        obtain ⟨f', rfl⟩ : ∃ f', f = f' + 1 := ⟨f - 1, by omega⟩
        have hll := hs.1
        have hkk : (at_ l a).k = true := (hs.2 a (by omega)).2.2.trans (decide_eq_true (by omega))
        rw [clk_step hkk, Nat.mod_eq_of_lt (by omega)]
        refine ih (a + 1) f' _ (by omega) (by omega) (by omega) ⟨by rw [List.length_set]; exact hs.1, fun j hj => ?_⟩
        rw [at_set _ _ _ _ (by omega)]
        obtain ⟨h1, h2, h3⟩ := hs.2 j hj
        split
        · rename_i e; subst e
          exact ⟨h1, h2, (decide_eq_false (by omega)).symm⟩
        · exact ⟨h1, h2, h3.trans (decide_eq_decide.2 (by omega))⟩
    refine gen k 1 n m.l (by omega) (by omega) (by omega) ⟨hl, fun j hj => ?_⟩
    obtain ⟨a, b, c⟩ := h.shp.2 j hj
    exact ⟨a, b, c.trans (decide_eq_decide.2 (by omega))⟩
  obtain ⟨l', c1, c2, c3⟩ := hcl
  have e : putM m [w_ 1000] [] [] false = ⟨m.room, l'.set (k + 1) (new_ [w_ 1000] [] [] false), (k + 1 + 1) % n⟩ := by
    unfold putM
    rw [if_neg (by omega), if_neg (by rw [h.room]; omega), h.room, hl, h.hand, c1]
  rw [e] at ok' ⊢
  refine ⟨ok', fun j => (at_ (l'.set (k + 1) (new_ [w_ 1000] [] [] false)) j).k, by show (List.set _ _ _).length = _; rw [List.length_set]; exact c2, fun j hj => ?_⟩
  suffices hh : (at_ (l'.set (k + 1) (new_ [w_ 1000] [] [] false)) j).s = [w_ (q2 n k j)] ∧ (at_ (l'.set (k + 1) (new_ [w_ 1000] [] [] false)) j).v = [] from ⟨hh.1, hh.2, rfl⟩
  rw [at_set _ _ _ _ (by rw [c2]; omega)]
  split
  · rename_i e2
    subst e2
    exact ⟨(trim_one (n := 1000) (by omega) (by omega)).trans (by rw [show q2 n k (k + 1) = 1000 from (if_neg (by omega)).trans (if_pos rfl)]), rfl⟩
  · rename_i e2
    obtain ⟨a, b⟩ := c3 j hj
    refine ⟨?_, b⟩
    rw [a]
    unfold q1 q2
    by_cases e3 : j = 0
    · rw [if_pos e3, if_pos e3]
    · rw [if_neg e3, if_neg e3, if_neg (fun e => e2 e.symm)]
theorem cc_get {n k : Nat} {m : Me} (h : CC n k m) (s v : List Wd) : CC n k (getM m s v) := by
  obtain ⟨mk, hl, hs⟩ := h.shp
  refine ⟨getM_ok h.ok s v, fun j => (at_ (getM m s v).l j).k, by rw [getM_len]; exact hl, fun j hj => ?_⟩
  obtain ⟨b, hb⟩ := getM_at m s v j
  obtain ⟨h1, h2, h3⟩ := hs j hj
  exact ⟨by rw [hb]; exact h1, by rw [hb]; exact h2, rfl⟩
theorem cc_told {n k i : Nat} {m : Me} (h : CC n k m) (hk : k + 1 < n) (hn : n ≤ 100) (hi : i ≤ n) : (getP m [w_ (i + 1)] []).2 = (decide (0 < i) && !decide (i = k + 1)) := by
  obtain ⟨mk, hs⟩ := h.shp
  have hl := hs.1
  have hq : ∀ j, j < n → q2 n k j < 100000 := fun j hj => by unfold q2; split; omega; split <;> omega
  by_cases h0 : i = 0
  · subst h0
    have := shp_not hs (p := 1) hq (by omega) (by omega) (fun j hj => by unfold q2; split; omega; split <;> omega)
    unfold getP
    rw [this, if_neg (by omega)]
    rfl
  · by_cases hik : i = k + 1
    · subst hik
      have := shp_not hs (p := k + 1 + 1) hq (by omega) (by omega) (fun j hj => by unfold q2; split; omega; split <;> omega)
      unfold getP
      rw [this, if_neg (by omega)]
      simp
    · rw [decide_eq_true (by omega), decide_eq_false hik]
      by_cases hin : i = n
      · subst hin
        have := shp_at hs hq (j := 0) (p := i + 1) (by omega) (by omega) (by unfold q2; rw [if_pos rfl]) (fun j hj => by omega)
        unfold getP
        rw [this, if_pos (by omega)]
        rfl
      · have := shp_at hs hq (j := i) (p := i + 1) (by omega) (by omega) (by unfold q2; rw [if_neg h0, if_neg hik]) (fun j hj => by unfold q2; split; omega; split <;> omega)
        unfold getP
        rw [this, if_pos (by omega)]
        rfl
end Mm
end Go.Proofs.Ythellicimicieaa
