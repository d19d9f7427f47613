/- Verdicts resolved, the plain side. No program in sight. -/
import Derived.Test.YtlimhggkimnddaaDoorVerA
set_option linter.unusedSimpArgs false
set_option linter.unusedVariables false
namespace Go.Proofs.YtlimhggkimnddaaDoor
namespace Vd
def wrong (n : Int) (x : It) : Bool :=
  if x.2.1 < 0 ∨ n ≤ x.2.1 then true else if x.1 = 2 then decide (x.2.2.2 ≤ x.2.1 ∨ n ≤ x.2.2.2) else decide (x.1 ≠ 1)
/-- The first k items may be, and no two are of one point. -/
def okUp (n : Int) (l : List It) (k : Nat) : Prop := ∀ j x, j < k → l[j]? = some x → wrong n x = false ∧ ∀ i y, i < j → l[i]? = some y → y.2.1 ≠ x.2.1
def ok (n : Int) (l : List It) : Prop := okUp n l l.length
noncomputable instance (n : Int) (l : List It) : Decidable (ok n l) := Classical.propDecidable _
def dflt : It := (0, 0, false, 0)
def at_ (l : List It) (i : Nat) : It := (l.find? fun x => x.2.1 == (i : Int)).getD dflt
def cellv (x : It) (out : List Bool) : Bool := if x.1 = 2 then out.getD x.2.2.2.toNat false else x.2.2.1
def runR (l : List It) : List Bool → Nat → List Bool
  | out, 0 => out
  | out, i + 1 => runR l (out.set i (cellv (at_ l i) out)) i
def vals (l : List It) (n : Nat) : List Bool := runR l (List.replicate n false) n
noncomputable def res (n : Int) (l : List It) : List Bool × Int :=
  if n < 0 then ([], 1) else if ok n l then (if (l.length : Int) = n then (vals l n.toNat, 0) else ([], 11)) else ([], 2)
theorem res_neg {n : Int} {l : List It} (h : n < 0) : res n l = ([], 1) := if_pos h
theorem res_bad {n : Int} {l : List It} (h0 : 0 ≤ n) (h : ¬ ok n l) : res n l = ([], 2) := by unfold res; rw [if_neg (by omega), if_neg h]
theorem res_few {n : Int} {l : List It} (h0 : 0 ≤ n) (h : ok n l) (h2 : (l.length : Int) ≠ n) : res n l = ([], 11) := by unfold res; rw [if_neg (by omega), if_pos h, if_neg h2]
theorem res_ok {n : Int} {l : List It} (h0 : 0 ≤ n) (h : ok n l) (h2 : (l.length : Int) = n) : res n l = (vals l n.toNat, 0) := by unfold res; rw [if_neg (by omega), if_pos h, if_pos h2]
theorem okUp_zero (n : Int) (l : List It) : okUp n l 0 := fun j x h => absurd h (Nat.not_lt_zero _)
theorem okUp_step {n : Int} {l : List It} {k : Nat} {x : It} (h : okUp n l k) (hx : l[k]? = some x) (hw : wrong n x = false) (hd : ∀ i y, i < k → l[i]? = some y → y.2.1 ≠ x.2.1) : okUp n l (k + 1) := fun j y hj hy => by
  by_cases e : j = k
  · subst e
    rw [hx] at hy
    cases hy
    exact ⟨hw, hd⟩
  · exact h j y (by omega) hy
theorem not_ok_wrong {n : Int} {l : List It} {k : Nat} {x : It} (hx : l[k]? = some x) (hw : wrong n x = true) : ¬ ok n l := fun h => by
  obtain ⟨hk, _⟩ := List.getElem?_eq_some_iff.1 hx
  rw [(h k x hk hx).1] at hw; cases hw
theorem not_ok_two {n : Int} {l : List It} {i k : Nat} {x y : It} (hx : l[k]? = some x) (hy : l[i]? = some y) (hik : i < k) (he : y.2.1 = x.2.1) : ¬ ok n l := fun h => by
  obtain ⟨hk, _⟩ := List.getElem?_eq_some_iff.1 hx
  exact (h k x hk hx).2 i y hik hy he
theorem wrong_no {n : Int} {x : It} (h : wrong n x = false) : 0 ≤ x.2.1 ∧ x.2.1 < n ∧ (x.1 = 2 → x.2.1 < x.2.2.2 ∧ x.2.2.2 < n) ∧ (x.1 = 2 ∨ x.1 = 1) := by
  unfold wrong at h
  split at h
  · cases h
  · split at h
    · rename_i h1 h2
      have := of_decide_eq_false h
      exact ⟨by omega, by omega, fun _ => by omega, Or.inl h2⟩
    · rename_i h1 h2
      have h3 := of_decide_eq_false h
      have : x.1 = 1 := Classical.byContradiction h3
      exact ⟨by omega, by omega, fun e => absurd e h2, Or.inr this⟩
/-! ### As many items as points: each point has one -/
theorem pigeon : ∀ (l S : List Int), l.Nodup → (∀ x ∈ l, x ∈ S) → l.length ≤ S.length
  | [], _, _, _ => Nat.zero_le _
  | x :: r, S, hn, h => by
    have hx := h x List.mem_cons_self
    rw [List.nodup_cons] at hn
    have := pigeon r (S.erase x) hn.2 fun y hy => (List.mem_erase_of_ne (fun e => hn.1 (by rw [← e]; exact hy))).2 (h y (List.mem_cons_of_mem _ hy))
    rw [List.length_erase_of_mem hx] at this
    have := List.length_pos_of_mem hx
    rw [List.length_cons]; omega
theorem ok_nodup {n : Int} {l : List It} (h : ok n l) : (l.map (·.2.1)).Nodup := by
  rw [List.nodup_iff_pairwise_ne, List.pairwise_iff_getElem]
  intro i j hi hj hij e
  simp only [List.getElem_map] at e
  rw [List.length_map] at hi hj
  exact (h j l[j] hj (by simp [hj])).2 i l[i] hij (by simp [hi]) e
theorem ok_mem {n : Int} {l : List It} (h : ok n l) {x : It} (hx : x ∈ l) : wrong n x = false := by
  obtain ⟨j, hj⟩ := List.mem_iff_getElem?.1 hx
  obtain ⟨hl, _⟩ := List.getElem?_eq_some_iff.1 hj
  exact (h j x hl hj).1
def pts (n : Nat) : List Int := (List.range n).map fun (i : Nat) => (i : Int)
theorem mem_pts {n : Nat} {z : Int} : z ∈ pts n ↔ 0 ≤ z ∧ z < n := by
  unfold pts
  rw [List.mem_map]
  constructor
  · rintro ⟨i, hi, rfl⟩
    have := List.mem_range.1 hi
    omega
  · intro h
    exact ⟨z.toNat, List.mem_range.2 (by omega), by omega⟩
theorem ok_le {n : Nat} {l : List It} (h : ok (n : Int) l) : l.length ≤ n := by
  have := pigeon (l.map (·.2.1)) (pts n) (ok_nodup h) fun z hz => by
    obtain ⟨x, hx, rfl⟩ := List.mem_map.1 hz
    have := wrong_no (ok_mem h hx)
    exact mem_pts.2 ⟨this.1, this.2.1⟩
  rw [List.length_map] at this
  simpa [pts] using this
theorem ok_has {n : Nat} {l : List It} (h : ok (n : Int) l) (hl : l.length = n) {i : Nat} (hi : i < n) : ∃ x ∈ l, x.2.1 = (i : Int) := by
  refine Classical.byContradiction fun hno => ?_
  have hp : (i : Int) ∈ pts n := mem_pts.2 ⟨by omega, by omega⟩
  have := pigeon (l.map (·.2.1)) ((pts n).erase (i : Int)) (ok_nodup h) fun z hz => by
    obtain ⟨x, hx, rfl⟩ := List.mem_map.1 hz
    have := wrong_no (ok_mem h hx)
    exact (List.mem_erase_of_ne (fun e => hno ⟨x, hx, e⟩)).2 (mem_pts.2 ⟨this.1, this.2.1⟩)
  rw [List.length_map, List.length_erase_of_mem hp] at this
  have h2 : (pts n).length = n := by simp [pts]
  omega
theorem ok_uniq {n : Int} {l : List It} (h : ok n l) {i j : Nat} {x y : It} (hx : l[i]? = some x) (hy : l[j]? = some y) (e : x.2.1 = y.2.1) : i = j := by
  obtain ⟨hi, _⟩ := List.getElem?_eq_some_iff.1 hx
  obtain ⟨hj, _⟩ := List.getElem?_eq_some_iff.1 hy
  rcases Nat.lt_trichotomy i j with q | q | q
  · exact absurd e ((h j y hj hy).2 i x q hx)
  · exact q
  · exact absurd e.symm ((h i x hi hx).2 j y q hy)
theorem at_of {n : Int} {l : List It} (h : ok n l) {j : Nat} {x : It} (hx : l[j]? = some x) {i : Nat} (e : x.2.1 = (i : Int)) : at_ l i = x := by
  unfold at_
  cases hf : l.find? (fun x => x.2.1 == (i : Int)) with
  | none =>
    have := List.find?_eq_none.1 hf x (List.mem_of_getElem? hx)
    simp [e] at this
  | some y =>
    have h1 := List.find?_some hf
    have h2 := List.mem_of_find?_eq_some hf
    obtain ⟨k, hk⟩ := List.mem_iff_getElem?.1 h2
    have h3 : y.2.1 = x.2.1 := by rw [e]; simpa using h1
    have := ok_uniq h hk hx h3
    subst this
    rw [hx] at hk
    cases hk
    rfl
theorem at_ok {n : Nat} {l : List It} (h : ok (n : Int) l) (hl : l.length = n) {i : Nat} (hi : i < n) : ∃ j : Nat, l[j]? = some (at_ l i) ∧ (at_ l i).2.1 = (i : Int) ∧ wrong n (at_ l i) = false := by
  obtain ⟨x, hx, e⟩ := ok_has h hl hi
  obtain ⟨j, hj⟩ := List.mem_iff_getElem?.1 hx
  have := at_of h hj e
  exact ⟨j, by rw [this]; exact hj, by rw [this]; exact e, by rw [this]; exact ok_mem h hx⟩
/-! ### What the values are -/
theorem runR_len (l : List It) : ∀ (i : Nat) (out : List Bool), (runR l out i).length = out.length
  | 0, out => rfl
  | i + 1, out => by rw [runR, runR_len l i, List.length_set]
theorem vals_len (l : List It) (n : Nat) : (vals l n).length = n := by unfold vals; rw [runR_len, List.length_replicate]
theorem runR_old (l : List It) : ∀ (i : Nat) (out : List Bool) (j : Nat), i ≤ j → (runR l out i).getD j false = out.getD j false
  | 0, out, j, _ => rfl
  | i + 1, out, j, h => by
    rw [runR, runR_old l i _ j (by omega), List.getD_eq_getElem?_getD, List.getElem?_set, if_neg (by omega), ← List.getD_eq_getElem?_getD]
/-- Each point's value. -/
theorem runR_at {n : Nat} {l : List It} (h : ok (n : Int) l) (hl : l.length = n) : ∀ (i : Nat) (out : List Bool), i ≤ n → out.length = n → ∀ j, j < i → (runR l out i).getD j false = cellv (at_ l j) (runR l out i)
  | 0, _, _, _, j, hj => absurd hj (Nat.not_lt_zero _)
  | i + 1, out, hi, ho, j, hj => by
    rw [runR]
    by_cases e : j = i
    · subst e
      rw [runR_old l j _ j (Nat.le_refl _), List.getD_eq_getElem?_getD, List.getElem?_set, if_pos rfl, if_pos (by omega), Option.getD_some]
      obtain ⟨_, _, e2, e3⟩ := at_ok h hl (i := j) (by omega)
      have hw := wrong_no e3
      unfold cellv
      by_cases hk : (at_ l j).1 = 2
      · rw [if_pos hk, if_pos hk]
        have := hw.2.2.1 hk
        rw [runR_old l j _ _ (by omega), List.getD_eq_getElem?_getD (l := out.set _ _), List.getElem?_set, if_neg (by omega), ← List.getD_eq_getElem?_getD]
      · rw [if_neg hk, if_neg hk]
    · exact runR_at h hl i _ (by omega) (by rw [List.length_set]; exact ho) j (by omega)
theorem vals_at {n : Nat} {l : List It} (h : ok (n : Int) l) (hl : l.length = n) {j : Nat} (hj : j < n) : (vals l n).getD j false = cellv (at_ l j) (vals l n) :=
  runR_at h hl n _ (Nat.le_refl _) (by rw [List.length_replicate]) j hj
end Vd
end Go.Proofs.YtlimhggkimnddaaDoor
