/- The contracts of slices.BinarySearchFunc over buckets, and of window.Add. No condition but lengths. -/
import Derived.Test.YthellicimicieaaWinP
set_option linter.unusedSimpArgs false
set_option linter.unusedVariables false
namespace Go.Proofs.Ythellicimicieaa
open Go.ChangeShapes Go.WideShapes Go.ChangeAt Go.RowKit
namespace Wn
open Ival Words
theorem add1_c (o : Int) (q : Option Addr) (n d : Nat) (c : Int) (w : World) (h0 : 0 ≤ o ∧ o ≤ 10000) (h1 : 0 ≤ c ∧ c ≤ 10000) : Calls Try.prog 66 #[.agg #[.int .i64 o, .slice q n d], .int .i64 c] w (Gives (.int .i64 (o - c)) w) := by
  go_enter Try.func66, Try.ntmps66
  go_wp2
  go_ret
  exact ⟨rfl, (by repeat (first | assumption | exact Nw.refl _ | refine Nw.alloc ?_ _ | refine Nw.drew ?_ | refine Nw.drewN2 ?_ _ | (refine Nw.trans ?_ (by assumption))))⟩
/-- Where a place is in a row of rising buckets. -/
def At (bs : Bs) (c : Int) (i : Nat) : Prop := i ≤ bs.length ∧ (∀ t, t < i → off bs t < c) ∧ ∀ t, i ≤ t → t < bs.length → c ≤ off bs t
def HandsF (w : World) (bs : Bs) (c : Int) (e : Ending) (w' : World) : Prop := ∃ i : Nat, e = .returned (.tuple #[.int .i64 (i : Int), .bool (decide (i < bs.length ∧ off bs i = c))]) ∧ At bs c i ∧ Nw w w'
theorem ris_lt {bs : Bs} (h : bs.Pairwise fun a b => a.1 < b.1) : ∀ (j i : Nat), i < j → j < bs.length → off bs i < off bs j := fun j i hij hj => by
  have := pair_off.1 h
  induction j with
  | zero => omega
  | succ j ih =>
    by_cases e : i = j
    · subst e; exact this i hj
    · exact Int.lt_trans (ih (by omega) (by omega)) (this j hj)
set_option maxRecDepth 20000 in
set_option maxHeartbeats 1600000 in
theorem bsearch_w (vl : Value) (bs : Bs) (c : Int) (w : World) (hv : Bks w vl bs) (hlen : bs.length ≤ 1000000) (hr : bs.Pairwise fun a b => a.1 < b.1) (hb : ∀ b ∈ bs, 0 ≤ b.1 ∧ b.1 ≤ 10000) (hc : 0 ≤ c ∧ c ≤ 10000) :
    Calls Try.prog 65 #[vl, .int .i64 c, .func (.func 66) #[] #[]] w (HandsF w bs c) := by
  obtain ⟨p, cap, rfl, hcap, hmx, hp0, hbc⟩ := hv
  unfold maxLen at hmx
  have HB := hid hbc
  have HRL := hid (ris_lt hr)
  have HBD := hid (fun k (hk : k < bs.length) => hb _ (off_mem hk))
  clear hbc hr hb
  go_enter Try.func65, Try.ntmps65
  go_wp2
  go_loopw [9, 10, 11] (fun i j _ wr => ∃ a b : Nat, a ≤ b ∧ b ≤ bs.length ∧ i = .int .i64 a ∧ j = .int .i64 b ∧ Hid (∀ t, t < a → off bs t < c) ∧ Hid (∀ t, b ≤ t → t < bs.length → c ≤ off bs t) ∧ Nw w wr) (fun i j _ _ => (intOf j).toNat - (intOf i).toNat)
  case atStart => exact ⟨0, bs.length, Nat.zero_le _, Nat.le_refl _, rfl, rfl, hid (fun t ht => by omega), hid (fun t h1 h2 => by omega), Nw.refl _⟩
  case round =>
    obtain ⟨a, b, hab, hbl, rfl, rfl, hlo, hhi, hnr⟩ := hrel
    by_cases hlt : a < b
    · have hdk : decide (a < b) = true := decide_eq_true hlt
      have hdk2 : decide ((a : Int) < (b : Int)) = true := decide_eq_true (by omega)
      go_upto_region 5 with fail
      rw [show ((a : Int) + (b : Int)) / 2 = (((a + b) / 2 : Nat) : Int) by omega]
      have hah : a ≤ (a + b) / 2 := by omega
      have hhb : (a + b) / 2 < b := by omega
      generalize (a + b) / 2 = h at *
      obtain ⟨b1, o1, q, c', rfl, d0, d1, _⟩ := bc_shape (HB.out.nw hnr) h (by omega)
      have hob := HBD.out h (by omega)
      have HR1 := hid (fun t (ht : t < h) => HRL.out h t ht (by omega))
      have HR2 := hid (fun t (ht : h < t) (h2 : t < bs.length) => HRL.out t h ht h2)
      have hlh : h < bs.length := by omega
      by_cases hc1 : off bs h - c < 0
      · have hd1 : decide (off bs h - c < 0) = true := decide_eq_true hc1
        have HN := hid (show ∀ t, t < h + 1 → off bs t < c from fun t ht => by
          by_cases e : t = h
          · subst e; omega
          · have := HR1.out t (by omega); omega)
        clear hc1 HR1 HR2
        generalize off bs h = oh at *
        generalize (st bs h).length = sl at *
        go_wp2_with (first
          | (go_at_call 66; refine (add1_c oh q sl c' c _ hob hc).mono ?_; rintro e w1 ⟨rfl, hn1⟩)
          | fail)
        go_roundw
        case rel => exact ⟨h + 1, b, by omega, hbl, by go_num, rfl, HN, hhi, hnr.trans hn1⟩
        case measure => simp [intOf]; omega
      · have hd1 : decide (off bs h - c < 0) = false := decide_eq_false hc1
        have HN := hid (show ∀ t, h ≤ t → t < bs.length → c ≤ off bs t from fun t ht h2 => by
          by_cases e : t = h
          · subst e; omega
          · have := HR2.out t (by omega) h2; omega)
        clear hc1 HR1 HR2
        generalize off bs h = oh at *
        generalize (st bs h).length = sl at *
        go_wp2_with (first
          | (go_at_call 66; refine (add1_c oh q sl c' c _ hob hc).mono ?_; rintro e w1 ⟨rfl, hn1⟩)
          | fail)
        go_roundw
        case rel => exact ⟨a, h, hah, by omega, rfl, rfl, hlo, HN, hnr.trans hn1⟩
        case measure => simp [intOf]; omega
    · obtain rfl : a = b := by omega
      have hdk : decide (a < a) = false := decide_eq_false (by omega)
      have hdk2 : decide ((a : Int) < (a : Int)) = false := decide_eq_false (by omega)
      have HAT := hid (show At bs c a from ⟨hbl, hlo.out, hhi.out⟩)
      clear hlo hhi hlt
      by_cases hla : a < bs.length
      · have hd1 : decide (a < bs.length) = true := decide_eq_true hla
        have hd2 : decide ((a : Int) < (bs.length : Int)) = true := decide_eq_true (by omega)
        obtain ⟨b1, o1, q, c', rfl, d0, d1, _⟩ := bc_shape (HB.out.nw hnr) a hla
        have hob := HBD.out a hla
        have HF := hid (show (decide (a < bs.length ∧ off bs a = c)) = (off bs a - c == 0) by
          rw [Bool.eq_iff_iff, decide_eq_true_eq, beq_iff_eq]; omega)
        generalize hoa : off bs a = oh at *
        have HOA := hid hoa
        clear hoa
        generalize (st bs a).length = sl at *
        go_wp2_with (first
          | (go_at_call 66; refine (add1_c oh q sl c' c _ hob hc).mono ?_; rintro e w1 ⟨rfl, hn1⟩)
          | fail)
        go_ret2
        exact ⟨a, by rw [HOA.out, HF.out]; rfl, HAT.out, hnr.trans hn1⟩
      · have hd1 : decide (a < bs.length) = false := decide_eq_false hla
        have hd2 : decide ((a : Int) < (bs.length : Int)) = false := decide_eq_false (by omega)
        have HF := hid (show (decide (a < bs.length ∧ off bs a = c)) = false from decide_eq_false (fun h => hla h.1))
        clear hla
        go_wp2
        go_ret2
        exact ⟨a, by rw [HF.out]; rfl, HAT.out, hnr⟩
theorem ins_at : ∀ (bs : Bs) (c : Int) (s : List Wd) (i : Nat), At bs c i → ins bs c s = if i < bs.length ∧ off bs i = c then bs.set i (off bs i, or (st bs i) s) else bs.take i ++ (c, s) :: bs.drop i
  | [], c, s, i, h => by
    obtain rfl : i = 0 := by have := h.1; simp at this; omega
    simp [ins]
  | (o, x) :: r, c, s, i, h => by
    unfold ins
    cases i with
    | zero =>
      have h1 := h.2.2 0 (Nat.le_refl _) (by simp)
      simp only [off, List.getD_cons_zero] at h1
      rw [List.take_zero, List.drop_zero, List.nil_append, List.set_cons_zero]
      by_cases h2 : c < o
      · rw [if_pos h2, if_neg (by simp [off]; omega)]
      · have h3 : o = c := by omega
        rw [if_neg h2, if_pos h3, if_pos ⟨by simp, by simp [off, h3]⟩]
        simp [off, st]
    | succ i =>
      have h1 := h.2.1 0 (by omega)
      simp only [off, List.getD_cons_zero] at h1
      have hr : At r c i := ⟨by have := h.1; simp at this; omega, fun t ht => by have := h.2.1 (t + 1) (by omega); rwa [off_cons] at this, fun t h2 h3 => by have := h.2.2 (t + 1) (by omega) (by simp; omega); rwa [off_cons] at this⟩
      rw [if_neg (by omega), if_neg (by omega), ins_at r c s i hr, List.take_succ_cons, List.drop_succ_cons, List.set_cons_succ, off_cons, st_cons]
      by_cases h4 : i < r.length ∧ off r i = c
      · rw [if_pos h4, if_pos ⟨by simp; exact h4.1, h4.2⟩]
      · rw [if_neg h4, if_neg (fun q => h4 ⟨by have := q.1; simp at this; exact this, q.2⟩)]
        rfl
end Wn
end Go.Proofs.Ythellicimicieaa
