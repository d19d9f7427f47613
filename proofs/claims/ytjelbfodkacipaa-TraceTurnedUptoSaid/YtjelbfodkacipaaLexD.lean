/- Names: the contracts of lex.Name and watchglassref1.Name. No condition but a length that any text has. -/
import Derived.Test.YtjelbfodkacipaaLexC
set_option linter.unusedSimpArgs false
set_option linter.unusedVariables false
namespace Go.Proofs.Ytjelbfodkacipaa
open Go.ChangeShapes Go.WideShapes Go.ChangeAt Go.RowKit
namespace Lx
/-- May a text be a name? -/
def nameB (bs : List UInt8) : Bool := decide (0 < bs.length) && (decide (bs.length ≤ 16) && (sm (bs.getD 0 0) && (decide (fin mo bs 0 = bs.length) && !isIn ⟨bs.toArray⟩ words)))
theorem words13_in (bs : List UInt8) (h : 0 < bs.length) : isIn ⟨bs.toArray⟩ words13 = isIn ⟨bs.toArray⟩ words := by
  unfold words13 isIn
  rw [List.any_append]
  have : ([⟨#[]⟩] : List ByteArray).any (fun y => (ByteArray.mk bs.toArray).toList == y.toList) = false := by
    rw [List.any_cons, List.any_nil, Bool.or_false, beq_str]
    refine decide_eq_false fun e => ?_
    have := congrArg (fun b : ByteArray => b.data.toList.length) e
    simp at this
    subst this
    simp at h
  rw [this, Bool.or_false]
theorem words_row (w : World) (e : TypeId) : Sl (w.alloc (.cells (strs words).toArray e)) (.slice (some ⟨w.heap.size, 0, none⟩) 12 12) (strs words) := by
  exact Sl.newAt w (strs words) e (0, 0) _ _ rfl rfl (by simp [strs, words, maxLen])
set_option maxRecDepth 20000 in
set_option maxHeartbeats 800000 in
theorem name_c (bs : List UInt8) (w : World) (hb : bs.length ≤ 1000000000) : Calls Try.prog 43 #[.string ⟨bs.toArray⟩] w (Gives (.bool (nameB bs)) w) := by
  cases bs with
  | nil =>
    go_enter Try.func43, Try.ntmps43
    go_wp2
    go_ret
    exact Gives.b rfl (by repeat (first | assumption | exact Nw.refl _ | refine Nw.alloc ?_ _ | refine Nw.drew ?_ | refine Nw.drewN2 ?_ _ | (refine Nw.trans ?_ (by assumption))))
  | cons x r =>
    have hne : (x :: r).length ≠ 0 := by simp
    have hx : (x :: r)[0]? = some x := rfl
    obtain ⟨hgb, hgx⟩ := str_at hx
    have HD := hid (show (x :: r).getD 0 0 = x from rfl)
    have HE := hid (fun w => end_more (x :: r) 0 w (Nat.zero_le _) hb)
    have hie : (x :: r).isEmpty = false := rfl
    generalize x :: r = l at *
    have HN := hid (show nameB l = (decide (0 < l.length) && (decide (l.length ≤ 16) && (sm x && (decide (fin mo l 0 = l.length) && !isIn ⟨l.toArray⟩ words)))) by unfold nameB; rw [HD.out])
    by_cases h16 : l.length ≤ 16
    · have hd16 : decide ((16 : Int) < l.length) = false := decide_eq_false (by omega)
      have HS := hid (fun w => letter_c x w)
      rw [decide_eq_true (show 0 < l.length by omega), decide_eq_true h16] at HN
      have HC := hid (fun (w : World) hw => contains_c (.slice (some ⟨w.heap.size, 0, none⟩) 12 12) words ⟨l.toArray⟩ (w.alloc (.cells (strs words).toArray 9)) hw)
      have HR := hid (fun (w : World) => words_row w 9)
      generalize isIn ⟨l.toArray⟩ words = q at *
      generalize fin mo l 0 = f at *
      cases hs : sm x with
      | false =>
        rw [hs] at HS HN
        go_enter Try.func43, Try.ntmps43
        go_wp2_with (first
          | (go_at_call 67; refine (HS.out _).mono ?_; rintro e w1 ⟨rfl, hn1⟩)
          | fail)
        go_ret
        exact Gives.b HN.out.symm (by repeat (first | assumption | exact Nw.refl _ | refine Nw.alloc ?_ _ | refine Nw.drew ?_ | refine Nw.drewN2 ?_ _ | (refine Nw.trans ?_ (by assumption))))
      | true =>
        rw [hs] at HS HN
        by_cases hf : f = l.length
        · have hnq : ((f : Int) != (l.length : Int)) = false := by simp [hf]
          rw [decide_eq_true hf] at HN
          go_enter Try.func43, Try.ntmps43
          go_wp2_with (first
            | (go_at_call 67; refine (HS.out _).mono ?_; rintro e w1 ⟨rfl, hn1⟩)
            | (go_at_call 68; refine (HE.out _).mono ?_; rintro e w2 ⟨rfl, hn2⟩)
            | (go_at_call 44; refine (HC.out w2 (HR.out w2)).mono ?_; rintro e w3 ⟨rfl, hn3⟩)
            | fail)
          go_ret
          exact Gives.b (by rw [HN.out]; rfl) (hn1.trans (hn2.trans (((Nw.refl w2).alloc _).trans hn3)))
        · have hnq : ((f : Int) != (l.length : Int)) = true := by simp; omega
          rw [decide_eq_false hf] at HN
          go_enter Try.func43, Try.ntmps43
          go_wp2_with (first
            | (go_at_call 67; refine (HS.out _).mono ?_; rintro e w1 ⟨rfl, hn1⟩)
            | (go_at_call 68; refine (HE.out _).mono ?_; rintro e w2 ⟨rfl, hn2⟩)
            | fail)
          go_ret
          exact Gives.b HN.out.symm (by repeat (first | assumption | exact Nw.refl _ | refine Nw.alloc ?_ _ | refine Nw.drew ?_ | refine Nw.drewN2 ?_ _ | (refine Nw.trans ?_ (by assumption))))
    · have hd16 : decide ((16 : Int) < l.length) = true := decide_eq_true (by omega)
      have HF := hid (show nameB l = false by unfold nameB; rw [decide_eq_false h16]; simp)
      go_enter Try.func43, Try.ntmps43
      go_wp2
      go_ret
      exact Gives.b HF.out.symm (by repeat (first | assumption | exact Nw.refl _ | refine Nw.alloc ?_ _ | refine Nw.drew ?_ | refine Nw.drewN2 ?_ _ | (refine Nw.trans ?_ (by assumption))))
set_option maxRecDepth 20000 in
set_option maxHeartbeats 800000 in
theorem rname_c (bs : List UInt8) (w : World) (hb : bs.length ≤ 1000000000) : Calls Try.prog 45 #[.string ⟨bs.toArray⟩] w (Gives (.bool (nameB bs)) w) := by
  cases bs with
  | nil =>
    go_enter Try.func45, Try.ntmps45
    go_wp2
    go_ret
    exact Gives.b rfl (by repeat (first | assumption | exact Nw.refl _ | refine Nw.alloc ?_ _ | refine Nw.drew ?_ | refine Nw.drewN2 ?_ _ | (refine Nw.trans ?_ (by assumption))))
  | cons x r =>
    have hne : 0 < (x :: r).length := by simp
    have hx : (x :: r)[0]? = some x := rfl
    obtain ⟨hgb, hgx⟩ := str_at hx
    have HD := hid (show (x :: r).getD 0 0 = x from rfl)
    have HE := hid (fun w => run_words (x :: r) 0 w (Nat.zero_le _) hb)
    have hw13 := words13_in (x :: r) hne
    generalize x :: r = l at *
    have hdp : decide (0 < l.length) = true := decide_eq_true hne
    have HN := hid (show nameB l = (decide (0 < l.length) && (decide (l.length ≤ 16) && (sm x && (decide (fin mo l 0 = l.length) && !isIn ⟨l.toArray⟩ words)))) by unfold nameB; rw [HD.out])
    by_cases h16 : l.length ≤ 16
    · have hd16 : decide ((l.length : Int) ≤ 16) = true := decide_eq_true (by omega)
      have HS := hid (fun w => small_c x w)
      rw [hdp, decide_eq_true h16] at HN
      have HC := hid (fun w => reserved_c ⟨l.toArray⟩ w)
      rw [hw13] at HC
      clear hw13
      generalize isIn ⟨l.toArray⟩ words = q at *
      generalize fin mo l 0 = f at *
      cases hs : sm x with
      | false =>
        rw [hs] at HS HN
        go_enter Try.func45, Try.ntmps45
        go_wp2_with (first
          | (go_at_call 70; refine (HS.out _).mono ?_; rintro e w1 ⟨rfl, hn1⟩)
          | fail)
        go_ret
        exact Gives.b HN.out.symm (by repeat (first | assumption | exact Nw.refl _ | refine Nw.alloc ?_ _ | refine Nw.drew ?_ | refine Nw.drewN2 ?_ _ | (refine Nw.trans ?_ (by assumption))))
      | true =>
        rw [hs] at HS HN
        by_cases hf : f = l.length
        · have hnq : (((f : Int) - 0) == (l.length : Int)) = true := by simp [hf]
          rw [decide_eq_true hf] at HN
          go_enter Try.func45, Try.ntmps45
          go_wp2_with (first
            | (go_at_call 70; refine (HS.out _).mono ?_; rintro e w1 ⟨rfl, hn1⟩)
            | (go_at_call 71; refine (HE.out _).mono ?_; rintro e w2 ⟨rfl, hn2⟩)
            | (go_at_call 72; refine (HC.out _).mono ?_; rintro e w3 ⟨rfl, hn3⟩)
            | fail)
          go_ret
          exact Gives.b (by rw [HN.out]; rfl) (by repeat (first | assumption | exact Nw.refl _ | refine Nw.alloc ?_ _ | refine Nw.drew ?_ | refine Nw.drewN2 ?_ _ | (refine Nw.trans ?_ (by assumption))))
        · have hnq : (((f : Int) - 0) == (l.length : Int)) = false := by simp; omega
          rw [decide_eq_false hf] at HN
          go_enter Try.func45, Try.ntmps45
          go_wp2_with (first
            | (go_at_call 70; refine (HS.out _).mono ?_; rintro e w1 ⟨rfl, hn1⟩)
            | (go_at_call 71; refine (HE.out _).mono ?_; rintro e w2 ⟨rfl, hn2⟩)
            | fail)
          go_ret
          exact Gives.b HN.out.symm (by repeat (first | assumption | exact Nw.refl _ | refine Nw.alloc ?_ _ | refine Nw.drew ?_ | refine Nw.drewN2 ?_ _ | (refine Nw.trans ?_ (by assumption))))
    · have hd16 : decide ((l.length : Int) ≤ 16) = false := decide_eq_false (by omega)
      have HF := hid (show nameB l = false by unfold nameB; rw [decide_eq_false h16]; simp)
      go_enter Try.func45, Try.ntmps45
      go_wp2
      go_ret
      exact Gives.b HF.out.symm (by repeat (first | assumption | exact Nw.refl _ | refine Nw.alloc ?_ _ | refine Nw.drew ?_ | refine Nw.drewN2 ?_ _ | (refine Nw.trans ?_ (by assumption))))
end Lx
end Go.Proofs.Ytjelbfodkacipaa
