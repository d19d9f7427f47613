/- LexGaps walked: tokens by numbers, blanks by numbers. No condition but lengths. -/
import Derived.Test.YtfbokhodcgpppaaLexP
import Derived.Test.YtfbokhodcgpppaaSeq
namespace Go.Proofs.Ytfbokhodcgpppaa
open Go.ChangeShapes Go.WideShapes Go.ChangeAt Go.RowKit
namespace Lx
theorem bapp (a b : List UInt8) : (⟨a.toArray⟩ : ByteArray) ++ ⟨b.toArray⟩ = ⟨(a ++ b).toArray⟩ := by
  apply ByteArray.ext
  simp
def toks : List (List UInt8) := [[97], [98, 50], [111, 110, 99, 101], [115, 105, 110, 99, 101], [102, 111, 114, 101], [48], [55], [57, 57, 57, 57], [45, 62], [40], [41], [91], [93], [123], [125], [44], [42], [46], [63], [43], [59], [33], [38], [124], [120, 95, 121], [116, 114, 117, 101]]
def blanks : List (List UInt8) := [[32], [10], [32, 32], [32, 10, 32], [10, 10]]
def tokS (x : UInt8) : List UInt8 := toks.getD (x.toNat % 26) []
def vss (l : List (List UInt8)) : List Value := l.map fun t => .string ⟨t.toArray⟩
theorem vss_len (l : List (List UInt8)) : (vss l).length = l.length := by simp [vss]
theorem vss_new (w : World) (l : List (List UInt8)) (e : TypeId) (k : Nat) (h : k < l.length) : (w.alloc (.cells (vss l).toArray e)).cell? ⟨w.heap.size, k, none⟩ = some (.string ⟨(l.getD k []).toArray⟩) := by
  have := cell_new w (vss l).toArray e (0, 0) k (by simpa [vss] using h)
  rw [Nat.zero_add] at this
  rw [this]
  simp [vss, h]
theorem lt_new (w : World) (o : Obj) : w.heap.size < (w.alloc o).heap.size := by
  show w.heap.size < (w.heap.push _).size
  rw [Array.size_push]; omega
set_option maxRecDepth 20000 in
set_option maxHeartbeats 900000 in
theorem word_c (x : UInt8) (w : World) : Calls Try.prog 14 #[.int .u8 (x.toNat : Int)] w (Gives (.string ⟨(tokS x).toArray⟩) w) := by
  obtain ⟨n, hn⟩ : ∃ n, n = x.toNat := ⟨_, rfl⟩
  obtain ⟨k, hk⟩ : ∃ k, k = n % 26 := ⟨_, rfl⟩
  have hk26 : k < 26 := by omega
  have ek : (n : Int) % 26 = k := by omega
  have hn255 : n ≤ 255 := by have := x.toNat_lt; omega
  have wn : wrap64 (n : Int) = n := by unfold wrap64; omega
  have HT := hid (show tokS x = toks.getD k [] by unfold tokS; rw [hk, hn])
  have hd : decide (k < 26) = true := decide_eq_true hk26
  have hc := vss_new w toks 9 k hk26
  have hlt := lt_new w (.cells (vss toks).toArray 9)
  rw [← hn]
  clear hk hn
  rw [← HT.out] at hc
  generalize tokS x = t at *
  go_enter Try.func14, Try.ntmps14
  go_upto_region 2 with fail
  change Code.wp _ _ _ _ (w.alloc (.cells (vss toks).toArray 9))
  have hn1 := (Nw.refl w).alloc (.cells (vss toks).toArray 9)
  generalize w.alloc (.cells (vss toks).toArray 9) = w1 at *
  go_wp2
  go_ret
  exact ⟨rfl, hn1⟩
def gap (gs : List UInt8) (i : Nat) : List UInt8 := match gs[i]? with
  | none => [32]
  | some y => blanks.getD (y.toNat % 5) []
def ones (ns : List UInt8) : List Pc := ns.map fun x => ⟨[], tokS x, [32]⟩
def wides (ns gs : List UInt8) : List Pc := ns.mapIdx fun i x => ⟨gap gs i, tokS x, gap gs i⟩
theorem toks_good : ∀ t ∈ toks, good t = true ∧ t.length ≤ 5 := by decide +kernel
theorem blanks_ok : ∀ t ∈ blanks, (∀ x ∈ t, x = 32 ∨ x = 10) ∧ 0 < t.length ∧ t.length ≤ 3 := by decide +kernel
theorem tokS_good (x : UInt8) : good (tokS x) = true ∧ (tokS x).length ≤ 5 := by
  have h : x.toNat % 26 < toks.length := Nat.mod_lt _ (by decide)
  refine toks_good _ ?_
  unfold tokS
  rw [List.getD_eq_getElem?_getD, List.getElem?_eq_getElem h]
  exact List.getElem_mem h
theorem gap_ok (gs : List UInt8) (i : Nat) : isBl (gap gs i) ∧ 0 < (gap gs i).length ∧ (gap gs i).length ≤ 3 := by
  unfold gap
  split
  · exact ⟨fun x hx => by simp at hx; exact Or.inl hx, by decide, by decide⟩
  · rename_i y _
    have h : y.toNat % 5 < blanks.length := Nat.mod_lt _ (by decide)
    rw [List.getD_eq_getElem?_getD, List.getElem?_eq_getElem h]
    exact blanks_ok _ (List.getElem_mem h)
theorem ones_ok (ns : List UInt8) : ∀ p ∈ ones ns, p.ok := by
  intro p hp
  simp only [ones, List.mem_map] at hp
  obtain ⟨x, _, rfl⟩ := hp
  exact ⟨fun y hy => by simp at hy, (tokS_good x).1, fun y hy => by simp at hy; exact Or.inl hy, Nat.zero_lt_one⟩
theorem ones_at (ns : List UInt8) (i : Nat) (x : UInt8) (h : ns[i]? = some x) : (ones ns)[i]? = some ⟨[], tokS x, [32]⟩ := by simp [ones, h]
theorem wides_at (ns gs : List UInt8) (i : Nat) (x : UInt8) (h : ns[i]? = some x) : (wides ns gs)[i]? = some ⟨gap gs i, tokS x, gap gs i⟩ := by simp [wides, h]
theorem ones_len (ns : List UInt8) : (ones ns).length = ns.length := by simp [ones]
theorem wides_len (ns gs : List UInt8) : (wides ns gs).length = ns.length := by simp [wides]
theorem wides_get (ns gs : List UInt8) (p : Pc) (h : p ∈ wides ns gs) : ∃ i x, p = ⟨gap gs i, tokS x, gap gs i⟩ := by
  obtain ⟨i, hi, rfl⟩ := List.getElem_of_mem h
  exact ⟨i, ns[i]'(by rw [wides_len] at hi; exact hi), by simp [wides]⟩
theorem wides_ok (ns gs : List UInt8) : ∀ p ∈ wides ns gs, p.ok := by
  intro p hp
  obtain ⟨i, x, rfl⟩ := wides_get ns gs p hp
  obtain ⟨h1, h2, _⟩ := gap_ok gs i
  exact ⟨h1, (tokS_good x).1, h1, h2⟩
theorem text_le (ps : List Pc) (h : ∀ p ∈ ps, p.text.length ≤ 11) : (textOf ps).length ≤ 11 * ps.length := by
  induction ps with
  | nil => simp [textOf]
  | cons p r ih =>
    have h1 := h p (by simp)
    have h2 := ih (fun q hq => h q (by simp [hq]))
    have : textOf (p :: r) = p.text ++ textOf r := by simp [textOf]
    rw [this, List.length_append, List.length_cons]
    omega
theorem ones_le (ns : List UInt8) : (textOf (ones ns)).length ≤ 11 * ns.length := by
  have hl := ones_len ns
  rw [← hl]
  refine text_le _ fun p hp => ?_
  simp only [ones, List.mem_map] at hp
  obtain ⟨x, _, rfl⟩ := hp
  have := (tokS_good x).2
  simp [Pc.text]; omega
theorem wides_le (ns gs : List UInt8) : (textOf (wides ns gs)).length ≤ 11 * ns.length := by
  have hl := wides_len ns gs
  rw [← hl]
  refine text_le _ fun p hp => ?_
  obtain ⟨i, x, rfl⟩ := wides_get ns gs p hp
  have := (tokS_good x).2
  have := (gap_ok gs i).2.2
  simp [Pc.text]; omega
theorem take_snoc {α : Type} (l : List α) (k : Nat) (p : α) (h : l[k]? = some p) : l.take (k + 1) = l.take k ++ [p] := by
  rw [List.take_add_one, h]; rfl
theorem ones_step (ns : List UInt8) (k : Nat) (x : UInt8) (h : ns[k]? = some x) : textOf ((ones ns).take (k + 1)) = textOf ((ones ns).take k) ++ (tokS x ++ [32]) := by
  rw [take_snoc _ _ _ (ones_at ns k x h), textOf_snoc]; rfl
theorem wides_step (ns gs : List UInt8) (k : Nat) (x : UInt8) (h : ns[k]? = some x) : textOf ((wides ns gs).take (k + 1)) = textOf ((wides ns gs).take k) ++ (gap gs k ++ (tokS x ++ gap gs k)) := by
  rw [take_snoc _ _ _ (wides_at ns gs k x h), textOf_snoc]; rfl
theorem one_wide (ns gs : List UInt8) : ∀ k, k ≤ ns.length → (textOf ((ones ns).take k)).length ≤ (textOf ((wides ns gs).take k)).length := by
  intro k
  induction k with
  | zero => intro _; simp [textOf]
  | succ k ih =>
    intro hk
    have h := ih (by omega)
    have hx : ns[k]? = some (ns[k]'(by omega)) := List.getElem?_eq_getElem _
    rw [ones_step ns k _ hx, wides_step ns gs k _ hx]
    simp only [List.length_append, List.length_singleton]
    have := (gap_ok gs k).2.1
    omega
theorem tkOf_is (t : List UInt8) : ∃ K T N, K ≠ 0 ∧ ∀ p, tkOf t p = ⟨K, T, N, p⟩ := by
  unfold tkOf
  split
  · exact ⟨1, t, 0, by decide, fun _ => rfl⟩
  · split
    · exact ⟨2, [], numOf t, by decide, fun _ => rfl⟩
    · exact ⟨3, t, 0, by decide, fun _ => rfl⟩
/-- What the law says of each token. -/
theorem gaps_at (ns gs : List UInt8) (i : Nat) (hi : i ≤ ns.length) : ∃ (K : Int) (T : List UInt8) (N : Int) (p q : Nat),
    (toksOf 0 (ones ns) ++ [⟨0, [], 0, (textOf (ones ns)).length⟩])[i]? = some ⟨K, T, N, p⟩ ∧ (toksOf 0 (wides ns gs) ++ [⟨0, [], 0, (textOf (wides ns gs)).length⟩])[i]? = some ⟨K, T, N, q⟩ ∧
    p ≤ q ∧ p ≤ (textOf (ones ns)).length ∧ (∀ x, ns[i]? = some x → K ≠ 0 ∧ cut (textOf (ones ns)) p (p + (tokS x).length) = tokS x ∧ p + (tokS x).length ≤ (textOf (ones ns)).length) ∧ (i = ns.length → K = 0 ∧ p = (textOf (ones ns)).length) := by
  by_cases h : i < ns.length
  · have hx : ns[i]? = some ns[i] := List.getElem?_eq_getElem h
    obtain ⟨K, T, N, hK, ht⟩ := tkOf_is (tokS ns[i])
    have h1 := toksOf_at _ 0 i _ (ones_at ns i _ hx)
    have h2 := toksOf_at _ 0 i _ (wides_at ns gs i _ hx)
    have h3 := textOf_cut _ i _ (ones_at ns i _ hx)
    have h4 := one_wide ns gs i (by omega)
    rw [ht] at h1 h2
    simp only [List.length_nil, Nat.add_zero, Nat.zero_add] at h1 h2 h3
    refine ⟨K, T, N, (textOf (List.take i (ones ns))).length, (textOf (List.take i (wides ns gs))).length + (gap gs i).length, ?_, ?_, ?_, ?_, ?_, ?_⟩
    · rw [List.getElem?_append_left (by rw [toksOf_len, ones_len]; exact h)]; exact h1
    · rw [List.getElem?_append_left (by rw [toksOf_len, wides_len]; exact h)]; exact h2
    · omega
    · omega
    · intro x hx2
      rw [hx] at hx2
      cases hx2
      exact ⟨hK, h3.1, h3.2⟩
    · intro e; omega
  · obtain rfl : i = ns.length := by omega
    have h4 := one_wide ns gs ns.length (Nat.le_refl _)
    rw [List.take_of_length_le (by rw [ones_len]; exact Nat.le_refl _), List.take_of_length_le (by rw [wides_len]; exact Nat.le_refl _)] at h4
    refine ⟨0, [], 0, (textOf (ones ns)).length, (textOf (wides ns gs)).length, ?_, ?_, h4, Nat.le_refl _, ?_, fun _ => ⟨rfl, rfl⟩⟩
    · rw [List.getElem?_append_right (by rw [toksOf_len, ones_len]; exact Nat.le_refl _), toksOf_len, ones_len, Nat.sub_self]; rfl
    · rw [List.getElem?_append_right (by rw [toksOf_len, wides_len]; exact Nat.le_refl _), toksOf_len, wides_len, Nat.sub_self]; rfl
    · intro x hx
      rw [List.getElem?_eq_none (Nat.le_refl _)] at hx
      cases hx
end Lx
end Go.Proofs.Ytfbokhodcgpppaa
