/- What Make makes may be; TraceMade walked. No condition but lengths. -/
import Derived.Test.YtdihoedehmfgfaaTrM
set_option linter.unusedSimpArgs false
set_option linter.unusedVariables false
namespace Go.Proofs.Ytdihoedehmfgfaa
open Go.ChangeShapes Go.WideShapes Go.ChangeAt Go.RowKit
namespace Tr
open Go.Proofs.Ytdihoedehmfgfaa.Lx (isIn nameB strs_open strs_cell contains_c)
open Go.Proofs.Ytdihoedehmfgfaa.Rec (rises i64s_open i64_cell)
theorem eOk_snoc_lt (n : Int) (es : Es) (e : Int × List Int) (i : Nat) (h : i < es.length) : eOk n (es ++ [e]) i = eOk n es i := by
  unfold eOk
  rw [ids_snoc_lt _ _ _ h, tm_snoc_lt _ _ _ h]
  cases i with
  | zero => simp
  | succ i => rw [Nat.add_sub_cancel, tm_snoc_lt _ _ _ (by omega)]
theorem id3_rises : ∀ n : Nat, n < 8 → rises (id3 n) 3 = true := by decide +kernel
theorem id3_lens (n : Nat) : (id3 n).length ≤ 3 := id3_len n 3
/-- What holds of the events all along. -/
def Fine (s : Int × Es) : Prop := ∀ i, i < s.2.length → eOk 3 s.2 i = true ∧ tm s.2 i ≤ s.1 ∧ 0 ≤ tm s.2 i ∧ (ids s.2 i).length ≤ 3 ∧ (∀ x ∈ ids s.2 i, 0 ≤ x ∧ x < 3)
theorem Fine.step {s : Int × Es} (h : Fine s) (h0 : 0 ≤ s.1) (n : Nat) : Fine (stp s n) := by
  intro i hi
  simp only [stp, List.length_append, List.length_singleton] at hi ⊢
  by_cases hlt : i < s.2.length
  · obtain ⟨h1, h2, h3, h4, h5⟩ := h i hlt
    rw [eOk_snoc_lt _ _ _ _ hlt, tm_snoc_lt _ _ _ hlt, ids_snoc_lt _ _ _ hlt]
    exact ⟨h1, by omega, h3, h4, h5⟩
  · obtain rfl : i = s.2.length := by omega
    rw [tm_snoc, ids_snoc]
    have hr := id3_rises (n % 8) (by omega)
    refine ⟨?_, by omega, by simp only; omega, id3_lens _, Rec.rises_mem hr⟩
    refine e_yes (by rw [ids_snoc]; exact hr) ?_
    by_cases hz : s.2.length = 0
    · exact Or.inl hz
    · right
      rw [tm_snoc, tm_snoc_lt _ _ _ (by omega)]
      have := (h (s.2.length - 1) (by omega)).2.1
      simp only
      omega
theorem fold_fine (ns : List Nat) : ∀ s : Int × Es, 0 ≤ s.1 → Fine s → Fine (ns.foldl stp s) := by
  induction ns with
  | nil => intro s _ h; exact h
  | cons n r ih => intro s h0 h; exact ih _ (by simp only [stp]; omega) (h.step h0 n)
theorem runM_fine (start : Int) (h0 : 0 ≤ start) (ns : List Nat) : Fine (runM start ns) := fold_fine ns _ (by simp only; omega) (fun i hi => by cases hi)
theorem pqr_ok : namesP pqr = true := by decide +kernel
theorem make_may (start : Int) (h0 : 0 ≤ start) (ns : List Nat) : mayP (makeP start ns) = true := by
  unfold mayP makeP
  rw [pqr_ok, Bool.true_and]
  unfold evsP mayTo
  rw [List.all_eq_true]
  intro i hi
  exact (runM_fine start h0 (ns.take 60) i (List.mem_range.1 hi)).1
theorem make_len (start : Int) (h0 : 0 ≤ start) (ns : List Nat) : (makeP start ns).evs.length ≤ 60 := by
  unfold makeP
  rw [(runM_facts start h0 (ns.take 60)).2.2, List.length_take]
  omega
theorem make_small (start : Int) (h0 : 0 ≤ start) (ns : List Nat) : Small (makeP start ns) := by
  refine ⟨by show pqr.length ≤ _; decide, Nat.le_trans (make_len start h0 ns) (by decide), fun i hi => Nat.le_trans (runM_fine start h0 (ns.take 60) i hi).2.2.2.1 (by decide), fun s hs => ?_⟩
  simp only [makeP, pqr, List.mem_cons, List.not_mem_nil, or_false] at hs
  rcases hs with rfl | rfl | rfl <;> decide
theorem cut_small {t : T} (h : Small t) (n : Int) : Small (cutP t n) := by
  unfold cutP
  split
  · refine ⟨h.n, by simp only [List.length_take]; have := h.e; omega, fun i hi => ?_, h.s⟩
    simp only [List.length_take] at hi
    rw [ids_take _ _ _ (by omega)]
    exact h.i i (by omega)
  · exact ⟨by decide, by decide, (fun i hi => by cases hi), (fun s hs => by cases hs)⟩
theorem evs_shape {w : World} {v : Value} {es : Es} (h : Evs w v es) : ∃ p c, v = .slice p es.length c := by
  obtain ⟨p, c, e, _⟩ := h
  exact ⟨p, c, e⟩
theorem pqr_idx : ∀ k, k < 3 → idxP pqr (pqr.getD k ⟨#[]⟩) = (k : Int) := by decide +kernel
theorem made_holds (start : Int) (h0 : 0 ≤ start) (ns : List Nat) (k j : Nat) (hk : k < (makeP start ns).evs.length) (hj : j < 3) : holdsP (makeP start ns) k (pqr.getD j ⟨#[]⟩) = decide ((j : Int) ∈ ids (makeP start ns).evs k) := by
  rw [holds_at _ _ _ (make_may start h0 ns) hk, Bool.eq_iff_iff, decide_eq_true_eq, decide_eq_true_eq]
  show idxP pqr (pqr.getD j ⟨#[]⟩) ∈ _ ↔ _
  rw [pqr_idx j hj]
theorem make_c3 (start : Int) (h0 : 0 ≤ start) (h64 : start < 18446744073709551616) (vn : Value) (ns : List Nat) (w : World) (hvn : Sl w vn (u16s ns)) (hns : ∀ n ∈ ns, n ≤ 65535) :
    Calls Try.prog 18 #[.int .u64 start, vn] w fun e w' => ∃ q c p d, e = .returned (.agg #[.slice q 3 c, .slice p (makeP start ns).evs.length d]) ∧ Sl w' (.slice q 3 c) (Lx.strs pqr) ∧ Evs w' (.slice p (makeP start ns).evs.length d) (makeP start ns).evs ∧ Nw w w' :=
  (make_c start h0 h64 vn ns w hvn hns).mono fun e w' h => by
    obtain ⟨v, rfl, ⟨v1, v2, rfl, h1, h2⟩, h3⟩ := h
    obtain ⟨q, c, rfl, _⟩ := strs_open h1
    obtain ⟨p, d, rfl⟩ := evs_shape h2
    exact ⟨q, c, p, d, rfl, h1, h2, h3⟩
theorem pqr_shape {w : World} {v : Value} (h : Sl w v (Lx.strs pqr)) : ∃ p c, v = .slice p 3 c := by
  obtain ⟨p, c, e, _⟩ := h
  exact ⟨p, c, e⟩
end Tr
end Go.Proofs.Ytdihoedehmfgfaa
