/- The contracts of Index and Contains, of equality of events and of traces. No condition but a text's length. -/
import Derived.Test.YtdihoedehmfgfaaTrE
import Derived.Test.YtdihoedehmfgfaaTrD
set_option linter.unusedSimpArgs false
set_option linter.unusedVariables false
namespace Go.Proofs.Ytdihoedehmfgfaa
open Go.ChangeShapes Go.WideShapes Go.ChangeAt Go.RowKit
namespace Tr
open Go.Proofs.Ytdihoedehmfgfaa.Lx (isIn nameB strs_open strs_cell contains_c)
open Go.Proofs.Ytdihoedehmfgfaa.Rec (rises i64s_open i64_cell)
/-! ### Index -/
def idx : List ByteArray → ByteArray → Int → Int
  | [], _, _ => -1
  | y :: r, s, k => if y = s then k else idx r s (k + 1)
def idxP (l : List ByteArray) (s : ByteArray) : Int := idx l s 0
theorem idx_at (l : List ByteArray) (s : ByteArray) : ∀ (k : Nat) (n : Int), s ∉ l.take k → l[k]? = some s → idx l s n = n + k := by
  induction l with
  | nil => intro k n _ h; simp at h
  | cons y r ih =>
    intro k n h1 h2
    cases k with
    | zero =>
      obtain rfl : y = s := by simpa using h2
      simp [idx]
    | succ k =>
      rw [List.take_succ_cons, List.mem_cons, not_or] at h1
      rw [idx, if_neg (fun e => h1.1 e.symm), ih k (n + 1) h1.2 (by simpa using h2)]
      omega
theorem idx_no (l : List ByteArray) (s : ByteArray) : ∀ n : Int, s ∉ l → idx l s n = -1 := by
  induction l with
  | nil => intro n _; rfl
  | cons y r ih =>
    intro n h
    rw [List.mem_cons, not_or] at h
    rw [idx, if_neg (fun e => h.1 e.symm), ih _ h.2]
theorem idx_ge (l : List ByteArray) (s : ByteArray) : ∀ n : Int, 0 ≤ n → -1 ≤ idx l s n ∧ idx l s n < n + l.length ∨ idx l s n = -1 := by
  induction l with
  | nil => intro n _; exact Or.inr rfl
  | cons y r ih =>
    intro n h
    unfold idx
    split
    · left; simp; omega
    · rcases ih (n + 1) (by omega) with h1 | h1
      · left; simp; omega
      · exact Or.inr h1
theorem idxP_bd (l : List ByteArray) (s : ByteArray) : -1 ≤ idxP l s ∧ idxP l s ≤ l.length := by
  unfold idxP
  rcases idx_ge l s 0 (Int.le_refl _) with h | h
  · omega
  · rw [h]; omega
theorem index_c (v : Value) (l : List ByteArray) (s : ByteArray) (w : World) (hv : Sl w v (Lx.strs l)) : Calls Try.prog 86 #[v, .string s] w (Gives (.int .i64 (idxP l s)) w) := by
  obtain ⟨p, cap, rfl, hcap, hmx, _, hc⟩ := strs_open hv
  unfold maxLen at hmx
  have HC := hid hc
  clear hc hv
  go_enter Try.func86, Try.ntmps86
  go_wp2
  go_loopw [5, 8] (fun _ i wr => ∃ k : Nat, k ≤ l.length ∧ i = .int .i64 k ∧ Hid (s ∉ l.take k) ∧ Nw w wr) (fun _ i _ => l.length - (intOf i).toNat)
  case atStart => exact ⟨0, Nat.zero_le _, rfl, (by simp : s ∉ l.take 0), Nw.refl _⟩
  case round =>
    obtain ⟨k, hk, rfl, ht, hn⟩ := hrel
    by_cases hlt : k < l.length
    · have hdk : decide (k < l.length) = true := decide_eq_true hlt
      obtain ⟨b1, o1, rfl, hcell⟩ := strs_cell (HC.out.nw hn) k hlt
      by_cases he : l[k] = s
      · have hd : (s.toList == l[k].toList) = true := by rw [he]; exact beq_self_eq_true _
        have HG := hid (show idxP l s = k by
          have := idx_at l s k 0 ht.out (by rw [List.getElem?_eq_getElem hlt, he])
          rw [Int.zero_add] at this
          exact this)
        clear he
        generalize l[k] = y at *
        go_wp2
        go_ret
        exact Gives.i HG.out.symm hn
      · have hd : (s.toList == l[k].toList) = false := by rw [Lx.beq_str]; exact decide_eq_false (fun e => he e.symm)
        have HN := hid (Lx.not_take hlt ht.out he)
        clear he
        generalize l[k] = y at *
        go_wp2
        go_roundw
        case rel => exact ⟨k + 1, by omega, by go_num, HN, hn⟩
        case measure => simp [intOf]; omega
    · have hdk : decide (k < l.length) = false := decide_eq_false hlt
      have HN := hid (show idxP l s = -1 from idx_no l s 0 (by have := ht.out; rwa [List.take_of_length_le (by omega)] at this))
      go_wp2
      go_ret
      exact Gives.i HN.out.symm hn
theorem noti_take {l : List Int} {x : Int} {k : Nat} (hk : k < l.length) (h : x ∉ l.take k) (he : l.getD k 0 ≠ x) : x ∉ l.take (k + 1) := by
  rw [List.take_add_one, List.getElem?_eq_getElem hk]
  simp only [List.mem_append, Option.toList_some, List.mem_singleton, not_or]
  refine ⟨h, fun e => he ?_⟩
  rw [List.getD_eq_getElem?_getD, List.getElem?_eq_getElem hk, e]; rfl
/-! ### Equality of events -/
theorem same_c (u v : Value) (t s : Int) (a b : List Int) (w : World) (hu : Sl w u (i64s a)) (hv : Sl w v (i64s b)) :
    Calls Try.prog 24 #[.agg #[.int .u64 t, u], .agg #[.int .u64 s, v]] w (Gives (.bool (decide (t = s ∧ a = b))) w) := by
  obtain ⟨p, cap, rfl, hcap, hmx, _, hc⟩ := i64s_open hu
  obtain ⟨p2, cap2, rfl, hcap2, hmx2, _, hc2⟩ := i64s_open hv
  by_cases h : t = s
  · subst h
    have HF := hid (show decide (t = t ∧ a = b) = decide (a = b) by simp)
    go_enter Try.func24, Try.ntmps24
    go_wp2_with (first
      | (go_at_call 61; refine (eqi_c _ _ a b _ (hu.nw (by repeat (first | assumption | exact Nw.refl _ | refine Nw.alloc ?_ _ | refine Nw.drew ?_ | refine Nw.drewN2 ?_ _ | (refine Nw.trans ?_ (by assumption))))) (hv.nw (by repeat (first | assumption | exact Nw.refl _ | refine Nw.alloc ?_ _ | refine Nw.drew ?_ | refine Nw.drewN2 ?_ _ | (refine Nw.trans ?_ (by assumption)))))).mono ?_; rintro e w1 ⟨rfl, hn1⟩))
    go_ret
    exact Gives.b HF.out.symm (by repeat (first | assumption | exact Nw.refl _ | refine Nw.alloc ?_ _ | refine Nw.drew ?_ | refine Nw.drewN2 ?_ _ | (refine Nw.trans ?_ (by assumption))))
  · have hd : (t == s) = false := beq_eq_false_iff_ne.2 h
    have HF := hid (show decide (t = s ∧ a = b) = false from decide_eq_false (fun e => h e.1))
    go_enter Try.func24, Try.ntmps24
    go_wp2
    go_ret
    exact Gives.b HF.out.symm (by repeat (first | assumption | exact Nw.refl _ | refine Nw.alloc ?_ _ | refine Nw.drew ?_ | refine Nw.drewN2 ?_ _ | (refine Nw.trans ?_ (by assumption))))

theorem es_of_take (a b : Es) (n : Nat) (h : a.take n = b.take n) (h1 : n < a.length) (h2 : n < b.length) : (tm a n = tm b n ∧ ids a n = ids b n) ↔ a.take (n + 1) = b.take (n + 1) := by
  rw [List.take_add_one, List.take_add_one, h, List.append_cancel_left_eq]
  unfold tm ids
  simp only [List.getD_eq_getElem?_getD, List.getElem?_eq_getElem h1, List.getElem?_eq_getElem h2, Option.getD_some, Option.toList_some, List.cons.injEq, and_true]
  exact Prod.ext_iff.symm
theorem T.ext_iff (a b : T) : a = b ↔ a.names = b.names ∧ a.evs = b.evs := by cases a; cases b; simp
instance : DecidableEq T := fun a b => decidable_of_iff _ (T.ext_iff a b).symm
end Tr
end Go.Proofs.Ytdihoedehmfgfaa
