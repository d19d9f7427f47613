/- Verdicts as text, the plain side: what a whole text is read as; what is read of what was written, and written of what was read. No program in sight. -/
import Derived.Test.YtlimhggkimnddaaDoorVerA
set_option linter.unusedSimpArgs false
set_option linter.unusedVariables false
namespace Go.Proofs.YtlimhggkimnddaaDoor
namespace Vd
abbrev Res := List It × Int × Int
def bad (acc : List It) : Res := ([], (acc.length : Int) + 1, 2)
def go : List UInt8 → List It → List UInt8 → Res
  | cur, acc, [] => if cur = [] then (acc, 0, 0) else bad acc
  | cur, acc, c :: r => if c = 10 then (match item cur with | some x => go [] (acc ++ [x]) r | none => bad acc) else go (cur ++ [c]) acc r
def parse (s : List UInt8) : Res := go [] [] s
theorem go_line : ∀ (l cur : List UInt8) (acc : List It) (r : List UInt8), 10 ∉ l → go cur acc (l ++ 10 :: r) = match item (cur ++ l) with | some x => go [] (acc ++ [x]) r | none => bad acc
  | [], cur, acc, r, _ => by rw [List.nil_append, List.append_nil, go, if_pos rfl]
  | c :: l, cur, acc, r, h => by
    simp only [List.mem_cons, not_or] at h
    rw [List.cons_append, go, if_neg (fun e => h.1 e.symm), go_line l _ acc r h.2, List.append_assoc]; rfl
theorem go_last : ∀ (l cur : List UInt8) (acc : List It), 10 ∉ l → go cur acc l = if cur ++ l = [] then (acc, 0, 0) else bad acc
  | [], cur, acc, _ => by rw [go, List.append_nil]
  | c :: l, cur, acc, h => by
    simp only [List.mem_cons, not_or] at h
    rw [go, if_neg (fun e => h.1 e.symm), go_last l _ acc h.2, List.append_assoc]; rfl
theorem occ10 {s : List UInt8} {j : Nat} (h : s[j]? = some 10) : Lib.occAt s [10] j = true := by
  unfold Lib.occAt
  obtain ⟨hj, e⟩ := List.getElem?_eq_some_iff.1 h
  rw [List.drop_eq_getElem_cons hj, e]
  rfl
/-- A text's first line by strings.Cut. -/
theorem cut10 (s : List UInt8) : (Lib.cut s [10] = (s, [], false) ∧ 10 ∉ s) ∨ (∃ a b, Lib.cut s [10] = (a, b, true) ∧ s = a ++ 10 :: b ∧ 10 ∉ a) := by
  rcases cut_cases s [10] with ⟨e, h⟩ | ⟨a, b, e, hs, h⟩
  · refine Or.inl ⟨e, fun q => ?_⟩
    obtain ⟨j, hj⟩ := List.mem_iff_getElem?.1 q
    obtain ⟨hl, _⟩ := List.getElem?_eq_some_iff.1 hj
    have := h j (by omega)
    rw [occ10 hj] at this; cases this
  · refine Or.inr ⟨a, b, e, by rw [hs]; simp, fun q => ?_⟩
    obtain ⟨j, hj⟩ := List.mem_iff_getElem?.1 q
    obtain ⟨hl, _⟩ := List.getElem?_eq_some_iff.1 hj
    have h2 := h j hl
    rw [occ10 (by rw [hs, List.append_assoc, List.getElem?_append_left hl]; exact hj)] at h2; cases h2
theorem step_end {s : List UInt8} (acc : List It) (h : 10 ∉ s) (h0 : s ≠ []) : go [] acc s = bad acc := by rw [go_last s [] acc h, List.nil_append, if_neg h0]
theorem step_no {a b : List UInt8} (acc : List It) (h : 10 ∉ a) (hi : item a = none) : go [] acc (a ++ 10 :: b) = bad acc := by rw [go_line a [] acc b h, List.nil_append, hi]
theorem step_yes {a b : List UInt8} {x : It} (acc : List It) (h : 10 ∉ a) (hi : item a = some x) : go [] acc (a ++ 10 :: b) = go [] (acc ++ [x]) b := by rw [go_line a [] acc b h, List.nil_append, hi]
theorem go_len : ∀ (s cur : List UInt8) (acc : List It), (go cur acc s).1.length ≤ acc.length + s.length
  | [], cur, acc => by
    rw [go]
    split
    · simp
    · simp [bad]
  | c :: r, cur, acc => by
    rw [go]
    split
    · split
      · rename_i x _
        have := go_len r [] (acc ++ [x])
        simp only [List.length_append, List.length_cons, List.length_nil] at this ⊢
        omega
      · simp [bad]
    · have := go_len r (cur ++ [c]) acc
      simp only [List.length_cons]; omega
theorem parse_len (s : List UInt8) : (parse s).1.length ≤ s.length := by have := go_len s [] []; simpa [parse] using this
/-! ### Back and forth -/
/-- What is kept of an item that is written. -/
def norm (x : It) : Option It :=
  if told x.2.1 = true then (if x.1 = 1 then some (1, x.2.1, x.2.2.1, 0) else if x.1 = 2 ∧ told x.2.2.2 = true then some (2, x.2.1, false, x.2.2.2) else none) else none
theorem ten_dg : dg 10 = false := by decide
theorem ten_fb (b : Bool) : (10 : UInt8) ∉ 32 :: fb b := by cases b <;> decide
theorem line_norm (x : It) : (norm x = none ∧ line x = []) ∨ (∃ y, norm x = some y ∧ line x ≠ [] ∧ 10 ∉ line x ∧ item (line x) = some y) := by
  unfold norm line
  by_cases h1 : told x.2.1 = true
  · rw [if_pos h1, if_pos h1]
    have hn := num_itoa h1
    have ht : 10 ∉ Lib.itoa x.2.1 := dg61 hn 10 ten_dg
    by_cases h2 : x.1 = 1
    · rw [if_pos h2, if_pos h2]
      refine Or.inr ⟨_, rfl, by simp, ?_, (item_form _ _).2 (Or.inl ⟨_, _, x.2.2.1, hn, rfl, rfl⟩)⟩
      rw [List.mem_append]
      rintro (q | q)
      · exact ht q
      · exact ten_fb _ q
    · rw [if_neg h2, if_neg h2]
      by_cases h3 : x.1 = 2 ∧ told x.2.2.2 = true
      · rw [if_pos h3, if_pos h3]
        have hn2 := num_itoa h3.2
        have ht2 : 10 ∉ Lib.itoa x.2.2.2 := dg61 hn2 10 ten_dg
        refine Or.inr ⟨_, rfl, by simp, ?_, (item_form _ _).2 (Or.inr ⟨_, _, _, _, hn, hn2, rfl, rfl⟩)⟩
        rw [List.mem_append]
        rintro (q | q)
        · exact ht q
        · simp only [List.mem_cons] at q
          rcases q with q | q | q | q
          · cases q
          · cases q
          · cases q
          · exact ht2 q
      · rw [if_neg h3, if_neg h3]
        exact Or.inl ⟨rfl, rfl⟩
  · rw [if_neg h1, if_neg h1]
    exact Or.inl ⟨rfl, rfl⟩
theorem go_text : ∀ (l acc : List It), go [] acc (text l) = (acc ++ l.filterMap norm, 0, 0)
  | [], acc => by simp [text, go]
  | x :: r, acc => by
    have e : text (x :: r) = full x ++ text r := by simp [text]
    rw [e]
    unfold full
    rcases line_norm x with ⟨h1, h2⟩ | ⟨y, h1, h2, h3, h4⟩
    · rw [if_pos h2, List.nil_append, go_text r acc, List.filterMap_cons, h1]
    · rw [if_neg h2, List.append_assoc, show [10] ++ text r = 10 :: text r from rfl, step_yes acc h3 h4, go_text r, List.filterMap_cons, h1]
      simp
theorem parse_text (l : List It) : parse (text l) = (l.filterMap norm, 0, 0) := by unfold parse; rw [go_text, List.nil_append]
theorem fb_ne (b : Bool) : fb b ≠ [] := by cases b <;> decide
theorem line_item {s : List UInt8} {x : It} (h : item s = some x) : line x = s ∧ s ≠ [] := by
  rcases (item_form s x).1 h with ⟨d, v, b, hd, rfl, rfl⟩ | ⟨d, v, r, u, hd, hr, rfl, rfl⟩
  · refine ⟨?_, by simp⟩
    have e : line (1, v, b, 0) = Lib.itoa v ++ 32 :: fb b := by unfold line; exact (if_pos (num_told hd)).trans (if_pos rfl)
    rw [e, itoa_num hd]
  · refine ⟨?_, by simp⟩
    have e : line (2, v, false, u) = Lib.itoa v ++ 32 :: 61 :: 32 :: Lib.itoa u := by unfold line; exact (if_pos (num_told hd)).trans ((if_neg (show ¬ (2 : Int) = 1 by decide)).trans (if_pos ⟨rfl, num_told hr⟩))
    rw [e, itoa_num hd, itoa_num hr]
theorem go_back : ∀ (n : Nat) (s : List UInt8) (acc : List It), s.length ≤ n → (go [] acc s).2.2 = 0 → text (go [] acc s).1 = text acc ++ s
  | n, s, acc, hn, h => by
    rcases cut10 s with ⟨_, h1⟩ | ⟨a, b, _, hs, h1⟩
    · by_cases h0 : s = []
      · subst h0; simp [go]
      · rw [step_end acc h1 h0] at h; cases h
    · rw [hs] at h ⊢
      cases hi : item a with
      | none => rw [step_no acc h1 hi] at h; cases h
      | some x =>
        rw [step_yes acc h1 hi] at h ⊢
        have hl := congrArg List.length hs
        simp only [List.length_append, List.length_cons] at hl
        match n, hn with
        | n + 1, hn =>
          rw [go_back n b (acc ++ [x]) (by omega) h, text_snoc]
          obtain ⟨e1, e2⟩ := line_item hi
          unfold full
          rw [e1, if_neg e2]
          simp
        | 0, hn => omega
theorem text_parse {s : List UInt8} (h : (parse s).2.2 = 0) : text (parse s).1 = s := by
  have := go_back s.length s [] (Nat.le_refl _) h
  simpa [parse, text] using this
theorem go_told : ∀ (s cur : List UInt8) (acc : List It), (∀ x ∈ acc, Rg x) → ∀ x ∈ (go cur acc s).1, Rg x
  | [], cur, acc, h => by
    rw [go]
    split
    · exact h
    · intro x hx; cases hx
  | c :: r, cur, acc, h => by
    rw [go]
    split
    · split
      · rename_i y hy
        refine go_told r [] (acc ++ [y]) fun x hx => ?_
        rcases List.mem_append.1 hx with q | q
        · exact h x q
        · simp only [List.mem_singleton] at q
          subst q
          rcases (item_form _ _).1 hy with ⟨d, v, b, hd, _, rfl⟩ | ⟨d, v, r, u, hd, hr, _, rfl⟩
          · have := told_iff.1 (num_told hd)
            refine ⟨?_, ?_, ?_⟩ <;> simp only <;> omega
          · have := told_iff.1 (num_told hd)
            have := told_iff.1 (num_told hr)
            refine ⟨?_, ?_, ?_⟩ <;> simp only <;> omega
      · intro x hx; cases hx
    · exact go_told r (cur ++ [c]) acc h
theorem parse_rg (s : List UInt8) : ∀ x ∈ (parse s).1, Rg x := go_told s [] [] fun x hx => by cases hx
end Vd
end Go.Proofs.YtlimhggkimnddaaDoor
