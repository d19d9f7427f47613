/- VerdictChains, the plain side: chains of items, turned. No condition. -/
import Derived.Test.YtlimhggkimnddaaDoorVerM
set_option linter.unusedSimpArgs false
set_option linter.unusedVariables false
namespace Go.Proofs.YtlimhggkimnddaaDoor
open Go.ChangeShapes Go.WideShapes Go.ChangeAt Go.RowKit
namespace Vd
theorem ok_of {n : Int} {l : List It} (hw : ∀ x ∈ l, wrong n x = false) (hd : (l.map (·.2.1)).Nodup) : ok n l := fun j x hj hx => by
  refine ⟨hw x (List.mem_of_getElem? hx), fun i y hij hy e => ?_⟩
  obtain ⟨hil, rfl⟩ := List.getElem?_eq_some_iff.1 hy
  obtain ⟨hjl, rfl⟩ := List.getElem?_eq_some_iff.1 hx
  have := (List.pairwise_iff_getElem.1 hd) i j (by simpa using hil) (by simpa using hjl) hij
  exact this (by simpa using e)
/-- The law's i-th item. -/
def chn (ns : List Nat) (n i : Nat) : It :=
  if 0 < ns.getD i 0 % 3 ∧ i + 1 < n then (2, (i : Int), false, ((i + 1 + ns.getD i 0 / 6 % (n - i - 1) : Nat) : Int)) else (1, (i : Int), decide (ns.getD i 0 % 2 = 1), 0)
def chs (ns : List Nat) (n : Nat) : List It := (List.range n).map (chn ns n)
theorem chs_len (ns : List Nat) (n : Nat) : (chs ns n).length = n := by simp [chs]
theorem chs_at {ns : List Nat} {n i : Nat} (h : i < n) : (chs ns n)[i]? = some (chn ns n i) := by simp [chs, h]
theorem chn_idx (ns : List Nat) (n i : Nat) : (chn ns n i).2.1 = (i : Int) := by unfold chn; split <;> rfl
theorem chn_ok (ns : List Nat) {n i : Nat} (h : i < n) : wrong (n : Int) (chn ns n i) = false := by
  unfold chn
  split
  · rename_i h2
    have := Nat.mod_lt (ns.getD i 0 / 6) (show 0 < n - i - 1 by omega)
    generalize ns.getD i 0 / 6 % (n - i - 1) = q at *
    unfold wrong
    simp; omega
  · unfold wrong
    simp; omega
theorem chs_idx (ns : List Nat) (n : Nat) : (chs ns n).map (·.2.1) = pts n := by
  unfold chs pts
  rw [List.map_map]
  exact List.map_congr_left fun i _ => chn_idx ns n i
theorem pts_nodup (n : Nat) : (pts n).Nodup := by
  unfold pts
  unfold List.Nodup
  rw [List.pairwise_map]
  exact List.nodup_range.imp (fun h e => h (by omega))
def mix (ns : List Nat) (n k : Nat) : List It := (chs ns n).drop k ++ (chs ns n).take k
theorem mix_perm (ns : List Nat) (n k : Nat) : (mix ns n k).Perm (chs ns n) := by
  have := List.perm_append_comm (l₁ := (chs ns n).drop k) (l₂ := (chs ns n).take k)
  rwa [List.take_append_drop] at this
theorem mix_len (ns : List Nat) (n k : Nat) : (mix ns n k).length = n := by rw [(mix_perm ns n k).length_eq, chs_len]
theorem mix_right (ns : List Nat) (n k : Nat) : ∀ x ∈ mix ns n k, wrong (n : Int) x = false := fun x hx => by
  obtain ⟨i, hi, rfl⟩ := List.mem_map.1 ((mix_perm ns n k).mem_iff.1 hx)
  exact chn_ok ns (List.mem_range.1 hi)
theorem mix_nodup (ns : List Nat) (n k : Nat) : ((mix ns n k).map (·.2.1)).Nodup := by
  rw [((mix_perm ns n k).map _).nodup_iff, chs_idx]
  exact pts_nodup n
theorem mix_ok (ns : List Nat) (n k : Nat) : ok (n : Int) (mix ns n k) := ok_of (mix_right ns n k) (mix_nodup ns n k)
theorem mix_at (ns : List Nat) (n k : Nat) {i : Nat} (h : i < n) : at_ (mix ns n k) i = chn ns n i := by
  obtain ⟨j, hj⟩ := List.mem_iff_getElem?.1 ((mix_perm ns n k).mem_iff.2 (List.mem_map.2 ⟨i, List.mem_range.2 h, rfl⟩))
  exact at_of (mix_ok ns n k) hj (chn_idx ns n i)
theorem mix_res (ns : List Nat) (n k : Nat) : res (n : Int) (mix ns n k) = (vals (mix ns n k) n, 0) := by
  rw [res_ok (by omega) (mix_ok ns n k) (by rw [mix_len]), Int.toNat_natCast]
/-- What is told: Booleans as they are told, and what is told alike. -/
theorem mix_bool (ns : List Nat) (n k : Nat) {i : Nat} (h : i < n) {q : Int} {b : Bool} (hx : chn ns n i = (1, (i : Int), b, q)) : (vals (mix ns n k) n).getD i false = b := by
  rw [vals_at (mix_ok ns n k) (mix_len ns n k) h, mix_at ns n k h, hx]
  rfl
theorem mix_like (ns : List Nat) (n k : Nat) {i : Nat} (h : i < n) {q : Nat} {b : Bool} (hx : chn ns n i = (2, (i : Int), b, (q : Int))) : (vals (mix ns n k) n).getD i false = (vals (mix ns n k) n).getD q false := by
  conv => lhs; rw [vals_at (mix_ok ns n k) (mix_len ns n k) h, mix_at ns n k h, hx]
  rfl
theorem mix_few (ns : List Nat) (n k : Nat) (h : 0 < n) : res (n : Int) ((mix ns n k).drop 1) = ([], 11) := by
  refine res_few (by omega) (ok_of (fun x hx => mix_right ns n k x (List.mem_of_mem_drop hx)) ?_) (by rw [List.length_drop, mix_len]; omega)
  rw [List.map_drop]
  exact (List.drop_sublist 1 _).nodup (mix_nodup ns n k)
theorem mix_twice (ns : List Nat) (n k : Nat) {x : It} (hx : (mix ns n k)[0]? = some x) : res (n : Int) (mix ns n k ++ [x]) = ([], 2) := by
  have hl := (List.getElem?_eq_some_iff.1 hx).1
  exact res_bad (by omega) (not_ok_two (x := x) (y := x) (i := 0) (k := (mix ns n k).length) (by simp) (by rw [List.getElem?_append_left hl]; exact hx) hl rfl)
theorem mix_less (ns : List Nat) (n k : Nat) (h : 0 < n) : res ((n : Int) - 1) (mix ns n k) = ([], 2) := by
  obtain ⟨j, hj⟩ := List.mem_iff_getElem?.1 ((mix_perm ns n k).mem_iff.2 (List.mem_map.2 ⟨n - 1, List.mem_range.2 (show n - 1 < n by omega), rfl⟩))
  refine res_bad (by omega) (not_ok_wrong hj ?_)
  have := chn_idx ns n (n - 1)
  unfold wrong
  generalize chn ns n (n - 1) = x at *
  obtain ⟨a, b, c, d⟩ := x
  simp only at this
  subst this
  simp; omega
theorem mix_rg (ns : List Nat) {n k : Nat} (h : n ≤ 60) : ∀ x ∈ mix ns n k, Rg x := fun x hx => by
  obtain ⟨i, hi, rfl⟩ := List.mem_map.1 ((mix_perm ns n k).mem_iff.1 hx)
  have hi2 := List.mem_range.1 hi
  unfold chn
  split
  · rename_i h2
    have := Nat.mod_lt (ns.getD i 0 / 6) (show 0 < n - i - 1 by omega)
    generalize ns.getD i 0 / 6 % (n - i - 1) = q at *
    unfold Rg
    simp only
    omega
  · unfold Rg
    simp only
    omega
end Vd
end Go.Proofs.YtlimhggkimnddaaDoor
