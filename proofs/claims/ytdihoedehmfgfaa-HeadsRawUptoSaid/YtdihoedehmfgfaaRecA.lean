/- The contracts of record.rising, watchglassref8.Ids and of the law's Event: which ids rise, and the event of a time and bits. No condition but the lengths that any slice has. -/
import Derived.Test.YtdihoedehmfgfaaRec
import Derived.Test.YtdihoedehmfgfaaAppB
import Derived.Test.YtdihoedehmfgfaaJSq
set_option linter.unusedSimpArgs false
set_option linter.unusedVariables false
namespace Go.Proofs.Ytdihoedehmfgfaa
open Go.ChangeShapes Go.WideShapes Go.ChangeAt Go.RowKit
namespace Rec
theorem i64_cell {w : World} {p : Option Addr} {l : List Int} (h : Cells w p (i64s l)) (i : Nat) (hi : i < l.length) :
    ∃ b off, p = some ⟨b, off, none⟩ ∧ w.cell? ⟨b, off + i, none⟩ = some (.int .i64 (l.getD i 0)) := by
  obtain ⟨b, off, e, h⟩ := h i (by rw [i64s_length]; exact hi)
  refine ⟨b, off, e, ?_⟩
  rw [h]; simp [i64s, List.getD_eq_getElem?_getD, hi]
theorem i64s_open {w : World} {v : Value} {l : List Int} (h : Sl w v (i64s l)) : ∃ p cap, v = .slice p l.length cap ∧ l.length ≤ cap ∧ cap ≤ maxLen ∧ (p = none → cap = 0) ∧ Cells w p (i64s l) := h.open (i64s_length l)
theorem ok_no {l : List Int} {p : Int} {i : Nat} (h : l.getD i 0 < 0 ∨ p ≤ l.getD i 0 ∨ (0 < i ∧ l.getD i 0 ≤ l.getD (i - 1) 0)) : okB l p i = false := by
  cases hb : okB l p i with
  | false => rfl
  | true => have := (okB_iff l p i).1 hb; omega
theorem ok_yes {l : List Int} {p : Int} {i : Nat} (h0 : 0 ≤ l.getD i 0) (h1 : l.getD i 0 < p) (h2 : i = 0 ∨ l.getD (i - 1) 0 < l.getD i 0) : okB l p i = true := (okB_iff l p i).2 ⟨h0, h1, h2⟩
set_option maxRecDepth 20000 in
set_option maxHeartbeats 1600000 in
theorem rising_c (v : Value) (l : List Int) (p : Int) (w : World) (hv : Sl w v (i64s l)) : Calls Try.prog 82 #[v, .int .i64 p] w (Gives (.bool (rises l p)) w) := by
  obtain ⟨q, cap, rfl, hcap, hmx, _, hc⟩ := i64s_open hv
  unfold maxLen at hmx
  have HC := hid hc
  clear hc hv
  go_enter Try.func82, Try.ntmps82
  go_wp2
  go_loopw [5, 6, 9] (fun _ _ i wr => ∃ k : Nat, k ≤ l.length ∧ i = .int .i64 k ∧ upto l p k = true ∧ Nw w wr) (fun _ _ i _ => l.length - (intOf i).toNat)
  case atStart => exact ⟨0, Nat.zero_le _, rfl, rfl, Nw.refl _⟩
  case round =>
    obtain ⟨k, hk, rfl, hu, hn⟩ := hrel
    have HU0 := hid hu
    clear hu
    by_cases hlt : k < l.length
    · have hdk : decide (k < l.length) = true := decide_eq_true hlt
      obtain ⟨b1, o1, rfl, hcell⟩ := i64_cell (HC.out.nw hn) k hlt
      have HNO := hid (fun h => rises_no l p k hlt (ok_no h))
      have HYES := hid (fun h0 h1 h2 => (upto_succ l p k).trans (by rw [HU0.out, ok_yes h0 h1 h2]))
      by_cases h0 : l.getD k 0 < 0
      · have HF := hid (HNO.out (Or.inl h0))
        have hd0 : decide (l.getD k 0 < 0) = true := decide_eq_true h0
        clear HNO HYES
        generalize l.getD k 0 = x at *
        go_wp2
        go_ret
        exact Gives.b HF.out.symm (by repeat (first | assumption | exact Nw.refl _ | refine Nw.alloc ?_ _ | refine Nw.drew ?_ | refine Nw.drewN2 ?_ _ | (refine Nw.trans ?_ (by assumption))))
      · have hd0 : decide (l.getD k 0 < 0) = false := decide_eq_false h0
        by_cases h1 : p ≤ l.getD k 0
        · have HF := hid (HNO.out (Or.inr (Or.inl h1)))
          have hd1 : decide (p ≤ l.getD k 0) = true := decide_eq_true h1
          clear HNO HYES
          generalize l.getD k 0 = x at *
          go_wp2
          go_ret
          exact Gives.b HF.out.symm (by repeat (first | assumption | exact Nw.refl _ | refine Nw.alloc ?_ _ | refine Nw.drew ?_ | refine Nw.drewN2 ?_ _ | (refine Nw.trans ?_ (by assumption))))
        · have hd1 : decide (p ≤ l.getD k 0) = false := decide_eq_false h1
          by_cases h2 : 0 < k
          · have hd2 : decide ((0 : Int) < k) = true := decide_eq_true (by omega)
            obtain ⟨b2, o2, e2, hcell2⟩ := i64_cell (HC.out.nw hn) (k - 1) (by omega)
            cases e2
            have ek : ((k : Int) - 1).toNat = k - 1 := by omega
            by_cases h3 : l.getD k 0 ≤ l.getD (k - 1) 0
            · have HF := hid (HNO.out (Or.inr (Or.inr ⟨h2, h3⟩)))
              have hd3 : decide (l.getD k 0 ≤ l.getD (k - 1) 0) = true := decide_eq_true h3
              clear HNO HYES
              generalize l.getD k 0 = x at *
              generalize l.getD (k - 1) 0 = y at *
              go_wp2
              go_ret
              exact Gives.b HF.out.symm (by repeat (first | assumption | exact Nw.refl _ | refine Nw.alloc ?_ _ | refine Nw.drew ?_ | refine Nw.drewN2 ?_ _ | (refine Nw.trans ?_ (by assumption))))
            · have HU := hid (HYES.out (by omega) (by omega) (Or.inr (by omega)))
              have hd3 : decide (l.getD k 0 ≤ l.getD (k - 1) 0) = false := decide_eq_false h3
              clear HNO HYES
              generalize l.getD k 0 = x at *
              generalize l.getD (k - 1) 0 = y at *
              go_wp2
              go_roundw
              case rel => exact ⟨k + 1, by omega, by go_num, HU.out, hn⟩
              case measure => simp [intOf]; omega
          · have hd2 : decide ((0 : Int) < k) = false := decide_eq_false (by omega)
            have HU := hid (HYES.out (by omega) (by omega) (Or.inl (by omega)))
            clear HNO HYES
            generalize l.getD k 0 = x at *
            go_wp2
            go_roundw
            case rel => exact ⟨k + 1, by omega, by go_num, HU.out, hn⟩
            case measure => simp [intOf]; omega
    · obtain rfl : k = l.length := by omega
      have hdk : decide (l.length < l.length) = false := decide_eq_false (by omega)
      have HF := hid (show rises l p = true from HU0.out)
      go_wp2
      go_ret
      exact Gives.b HF.out.symm hn

set_option maxRecDepth 20000 in
set_option maxHeartbeats 1600000 in
theorem rids_c (v : Value) (l : List Int) (p : Int) (w : World) (hv : Sl w v (i64s l)) : Calls Try.prog 77 #[v, .int .i64 p] w (Gives (.bool (rises l p)) w) := by
  obtain ⟨q, cap, rfl, hcap, hmx, _, hc⟩ := i64s_open hv
  unfold maxLen at hmx
  have HC := hid hc
  clear hc hv
  go_enter Try.func77, Try.ntmps77
  go_wp2
  go_loopw [5, 6, 9] (fun _ _ i wr => ∃ k : Nat, k ≤ l.length ∧ i = .int .i64 k ∧ upto l p k = true ∧ Nw w wr) (fun _ _ i _ => l.length - (intOf i).toNat)
  case atStart => exact ⟨0, Nat.zero_le _, rfl, rfl, Nw.refl _⟩
  case round =>
    obtain ⟨k, hk, rfl, hu, hn⟩ := hrel
    have HU0 := hid hu
    clear hu
    by_cases hlt : k < l.length
    · have hdk : decide (k < l.length) = true := decide_eq_true hlt
      obtain ⟨b1, o1, rfl, hcell⟩ := i64_cell (HC.out.nw hn) k hlt
      have HNO := hid (fun h => rises_no l p k hlt (ok_no h))
      have HYES := hid (fun h0 h1 h2 => (upto_succ l p k).trans (by rw [HU0.out, ok_yes h0 h1 h2]))
      by_cases h0 : l.getD k 0 < 0
      · have HF := hid (HNO.out (Or.inl h0))
        have hd0 : decide (l.getD k 0 < 0) = true := decide_eq_true h0
        clear HNO HYES
        generalize l.getD k 0 = x at *
        go_wp2
        go_ret
        exact Gives.b HF.out.symm (by repeat (first | assumption | exact Nw.refl _ | refine Nw.alloc ?_ _ | refine Nw.drew ?_ | refine Nw.drewN2 ?_ _ | (refine Nw.trans ?_ (by assumption))))
      · have hd0 : decide (l.getD k 0 < 0) = false := decide_eq_false h0
        by_cases h1 : p ≤ l.getD k 0
        · have HF := hid (HNO.out (Or.inr (Or.inl h1)))
          have hd1 : decide (p ≤ l.getD k 0) = true := decide_eq_true h1
          clear HNO HYES
          generalize l.getD k 0 = x at *
          go_wp2
          go_ret
          exact Gives.b HF.out.symm (by repeat (first | assumption | exact Nw.refl _ | refine Nw.alloc ?_ _ | refine Nw.drew ?_ | refine Nw.drewN2 ?_ _ | (refine Nw.trans ?_ (by assumption))))
        · have hd1 : decide (p ≤ l.getD k 0) = false := decide_eq_false h1
          by_cases h2 : 0 < k
          · have hd2 : decide ((0 : Int) < k) = true := decide_eq_true (by omega)
            obtain ⟨b2, o2, e2, hcell2⟩ := i64_cell (HC.out.nw hn) (k - 1) (by omega)
            cases e2
            have ek : ((k : Int) - 1).toNat = k - 1 := by omega
            by_cases h3 : l.getD k 0 ≤ l.getD (k - 1) 0
            · have HF := hid (HNO.out (Or.inr (Or.inr ⟨h2, h3⟩)))
              have hd3 : decide (l.getD k 0 ≤ l.getD (k - 1) 0) = true := decide_eq_true h3
              clear HNO HYES
              generalize l.getD k 0 = x at *
              generalize l.getD (k - 1) 0 = y at *
              go_wp2
              go_ret
              exact Gives.b HF.out.symm (by repeat (first | assumption | exact Nw.refl _ | refine Nw.alloc ?_ _ | refine Nw.drew ?_ | refine Nw.drewN2 ?_ _ | (refine Nw.trans ?_ (by assumption))))
            · have HU := hid (HYES.out (by omega) (by omega) (Or.inr (by omega)))
              have hd3 : decide (l.getD k 0 ≤ l.getD (k - 1) 0) = false := decide_eq_false h3
              clear HNO HYES
              generalize l.getD k 0 = x at *
              generalize l.getD (k - 1) 0 = y at *
              go_wp2
              go_roundw
              case rel => exact ⟨k + 1, by omega, by go_num, HU.out, hn⟩
              case measure => simp [intOf]; omega
          · have hd2 : decide ((0 : Int) < k) = false := decide_eq_false (by omega)
            have HU := hid (HYES.out (by omega) (by omega) (Or.inl (by omega)))
            clear HNO HYES
            generalize l.getD k 0 = x at *
            go_wp2
            go_roundw
            case rel => exact ⟨k + 1, by omega, by go_num, HU.out, hn⟩
            case measure => simp [intOf]; omega
    · obtain rfl : k = l.length := by omega
      have hdk : decide (l.length < l.length) = false := decide_eq_false (by omega)
      have HF := hid (show rises l p = true from HU0.out)
      go_wp2
      go_ret
      exact Gives.b HF.out.symm hn

end Rec
end Go.Proofs.Ytdihoedehmfgfaa
