/- The contracts of Ids and Names of traces, both of each. No condition but a text's length. -/
import Derived.Test.YtjelbfodkacipaaTrA
import Derived.Test.YtjelbfodkacipaaRecA
set_option linter.unusedSimpArgs false
set_option linter.unusedVariables false
namespace Go.Proofs.Ytjelbfodkacipaa
open Go.ChangeShapes Go.WideShapes Go.ChangeAt Go.RowKit
namespace Rec
set_option maxRecDepth 20000 in
set_option maxHeartbeats 1600000 in
theorem tids_c (v : Value) (l : List Int) (p : Int) (w : World) (hv : Sl w v (i64s l)) : Calls Try.prog 20 #[v, .int .i64 p] w (Gives (.bool (rises l p)) w) := by
  obtain ⟨q, cap, rfl, hcap, hmx, _, hc⟩ := i64s_open hv
  unfold maxLen at hmx
  have HC := hid hc
  clear hc hv
  go_enter Try.func20, Try.ntmps20
  go_wp2
  go_loopw [5, 6, 9] (fun _ _ i wr => ∃ k : Nat, k ≤ l.length ∧ i = .int .i64 k ∧ upto l p k = true ∧ Nw w wr) (fun _ _ i _ => l.length - (intOf i).toNat)
  case atStart => exact ⟨0, Nat.zero_le _, rfl, rfl, Nw.refl _⟩
  case round =>
    obtain ⟨k, hk, rfl, hu, hn⟩ := hrel
    have HU0 := hid hu
    clear hu
    by_cases hlt : k < l.length
    · have hdk : decide (k < l.length) = true := decide_eq_true hlt
      obtain ⟨b1, o1, rfl, hcell⟩ := i64_cell (HC.out.nw hn) k hlt
      have HNO := hid (fun h => rises_no l p k hlt (ok_no h))
      have HYES := hid (fun h0 h1 h2 => (upto_succ l p k).trans (by rw [HU0.out, ok_yes h0 h1 h2]))
      by_cases h0 : l.getD k 0 < 0
      · have HF := hid (HNO.out (Or.inl h0))
        have hd0 : decide (l.getD k 0 < 0) = true := decide_eq_true h0
        clear HNO HYES
        generalize l.getD k 0 = x at *
        go_wp2
        go_ret
        exact Gives.b HF.out.symm (by repeat (first | assumption | exact Nw.refl _ | refine Nw.alloc ?_ _ | refine Nw.drew ?_ | refine Nw.drewN2 ?_ _ | (refine Nw.trans ?_ (by assumption))))
      · have hd0 : decide (l.getD k 0 < 0) = false := decide_eq_false h0
        by_cases h1 : p ≤ l.getD k 0
        · have HF := hid (HNO.out (Or.inr (Or.inl h1)))
          have hd1 : decide (p ≤ l.getD k 0) = true := decide_eq_true h1
          clear HNO HYES
          generalize l.getD k 0 = x at *
          go_wp2
          go_ret
          exact Gives.b HF.out.symm (by repeat (first | assumption | exact Nw.refl _ | refine Nw.alloc ?_ _ | refine Nw.drew ?_ | refine Nw.drewN2 ?_ _ | (refine Nw.trans ?_ (by assumption))))
        · have hd1 : decide (p ≤ l.getD k 0) = false := decide_eq_false h1
          by_cases h2 : 0 < k
          · have hd2 : decide ((0 : Int) < k) = true := decide_eq_true (by omega)
            obtain ⟨b2, o2, e2, hcell2⟩ := i64_cell (HC.out.nw hn) (k - 1) (by omega)
            cases e2
            have ek : ((k : Int) - 1).toNat = k - 1 := by omega
            by_cases h3 : l.getD k 0 ≤ l.getD (k - 1) 0
            · have HF := hid (HNO.out (Or.inr (Or.inr ⟨h2, h3⟩)))
              have hd3 : decide (l.getD k 0 ≤ l.getD (k - 1) 0) = true := decide_eq_true h3
              clear HNO HYES
              generalize l.getD k 0 = x at *
              generalize l.getD (k - 1) 0 = y at *
              go_wp2
              go_ret
              exact Gives.b HF.out.symm (by repeat (first | assumption | exact Nw.refl _ | refine Nw.alloc ?_ _ | refine Nw.drew ?_ | refine Nw.drewN2 ?_ _ | (refine Nw.trans ?_ (by assumption))))
            · have HU := hid (HYES.out (by omega) (by omega) (Or.inr (by omega)))
              have hd3 : decide (l.getD k 0 ≤ l.getD (k - 1) 0) = false := decide_eq_false h3
              clear HNO HYES
              generalize l.getD k 0 = x at *
              generalize l.getD (k - 1) 0 = y at *
              go_wp2
              go_roundw
              case rel => exact ⟨k + 1, by omega, by go_num, HU.out, hn⟩
              case measure => simp [intOf]; omega
          · have hd2 : decide ((0 : Int) < k) = false := decide_eq_false (by omega)
            have HU := hid (HYES.out (by omega) (by omega) (Or.inl (by omega)))
            clear HNO HYES
            generalize l.getD k 0 = x at *
            go_wp2
            go_roundw
            case rel => exact ⟨k + 1, by omega, by go_num, HU.out, hn⟩
            case measure => simp [intOf]; omega
    · obtain rfl : k = l.length := by omega
      have hdk : decide (l.length < l.length) = false := decide_eq_false (by omega)
      have HF := hid (show rises l p = true from HU0.out)
      go_wp2
      go_ret
      exact Gives.b HF.out.symm hn

end Rec
namespace Tr
open Go.Proofs.Ytjelbfodkacipaa.Lx (isIn nameB strs_open strs_cell contains_c)
theorem strs_take (l : List ByteArray) (k : Nat) : Lx.strs (l.take k) = (Lx.strs l).take k := by simp [Lx.strs]
theorem strs_cut {w : World} {p : Option Addr} {cap : Nat} {l : List ByteArray} (k : Nat) (hk : k ≤ l.length) (hcap : l.length ≤ cap) (hm : cap ≤ maxLen) (h0 : p = none → cap = 0) (h : Cells w p (Lx.strs l)) : Sl w (.slice p k cap) (Lx.strs (l.take k)) := by
  have hl : (Lx.strs (l.take k)).length = k := by rw [Lx.strs_length, List.length_take]; omega
  refine ⟨p, cap, by rw [hl], by rw [hl]; omega, hm, h0, ?_⟩
  rw [strs_take]; exact h.take k
theorem nm_c (s : ByteArray) (hs : s.size ≤ 1000000000) (w : World) : Calls Try.prog 43 #[.string s] w (Gives (.bool (nmB s)) w) := by
  have := Lx.name_c s.data.toList w (by rw [Array.length_toList]; exact hs)
  exact this
theorem rnm_c (s : ByteArray) (hs : s.size ≤ 1000000000) (w : World) : Calls Try.prog 45 #[.string s] w (Gives (.bool (nmB s)) w) := by
  have := Lx.rname_c s.data.toList w (by rw [Array.length_toList]; exact hs)
  exact this
set_option maxHeartbeats 1600000 in
theorem names_c (v : Value) (l : List ByteArray) (w : World) (hv : Sl w v (Lx.strs l)) (hs : ∀ s ∈ l, s.size ≤ 1000000000) : Calls Try.prog 18 #[v] w (Gives (.bool (namesP l)) w) := by
  obtain ⟨p, cap, rfl, hcap, hmx, hp0, hc⟩ := strs_open hv
  have HC := hid hc
  have hmx' := hmx
  unfold maxLen at hmx
  clear hc hv
  by_cases hbig : 64 < l.length
  · have hd : decide ((64 : Int) < l.length) = true := decide_eq_true (by omega)
    have HF := hid (show namesP l = false by unfold namesP; rw [decide_eq_false (by omega)]; rfl)
    go_enter Try.func18, Try.ntmps18
    go_wp2
    go_ret
    exact Gives.b HF.out.symm (by repeat (first | assumption | exact Nw.refl _ | refine Nw.alloc ?_ _ | refine Nw.drew ?_ | refine Nw.drewN2 ?_ _ | (refine Nw.trans ?_ (by assumption))))
  · have hd : decide ((64 : Int) < l.length) = false := decide_eq_false (by omega)
    go_enter Try.func18, Try.ntmps18
    go_wp2
    go_loopw [3, 4, 10] (fun _ _ i wr => ∃ k : Nat, k ≤ l.length ∧ i = .int .i64 k ∧ Hid (namesTo l k = true) ∧ Nw w wr) (fun _ _ i _ => l.length - (intOf i).toNat)
    case atStart => exact ⟨0, Nat.zero_le _, rfl, hid rfl, Nw.refl _⟩
    case round =>
      obtain ⟨k, hk, rfl, hu, hn⟩ := hrel
      by_cases hlt : k < l.length
      · have hdk : decide (k < l.length) = true := decide_eq_true hlt
        obtain ⟨b1, o1, rfl, hcell⟩ := strs_cell (HC.out.nw hn) k hlt
        have HSL := hid (fun w' (h : Nw wr w') => strs_cut k (by omega) hcap hmx' (fun h => by cases h) (HC.out.nw (hn.trans h)))
        have HNM := hid (fun w => nm_c l[k] (hs _ (List.getElem_mem hlt)) w)
        have eg : l.getD k ⟨#[]⟩ = l[k] := by simp [List.getD_eq_getElem?_getD, hlt]
        have HNO := hid (show nOk l k = false → namesP l = false from fun h => names_no hlt h)
        have HYE := hid (show nOk l k = true → namesTo l (k + 1) = true from fun h => by rw [namesTo, to_succ, h, Bool.and_true]; exact hu.out)
        have eo : nOk l k = (nmB l[k] && !isIn l[k] (l.take k)) := by unfold nOk; rw [eg]
        rw [eo] at HNO HYE
        clear eg eo hu
        generalize l.take k = q at *
        generalize l[k] = s at *
        by_cases h1 : nmB s = true
        · by_cases h2 : isIn s q = true
          · have HF := hid (HNO.out (by rw [h1, h2]; rfl))
            clear HNO HYE
            go_wp2_with (first
              | (go_at_call 43; refine (HNM.out _).mono ?_; rintro e w1 ⟨rfl, hn1⟩)
              | (go_at_call 44; refine (contains_c _ q _ _ (HSL.out _ (by repeat (first | assumption | exact Nw.refl _ | refine Nw.alloc ?_ _ | refine Nw.drew ?_ | refine Nw.drewN2 ?_ _ | (refine Nw.trans ?_ (by assumption)))))).mono ?_; rintro e w2 ⟨rfl, hn2⟩))
            go_ret
            exact Gives.b HF.out.symm (by repeat (first | assumption | exact Nw.refl _ | refine Nw.alloc ?_ _ | refine Nw.drew ?_ | refine Nw.drewN2 ?_ _ | (refine Nw.trans ?_ (by assumption))))
          · rw [Bool.not_eq_true] at h2
            have HF := hid (HYE.out (by rw [h1, h2]; rfl))
            clear HNO HYE
            go_wp2_with (first
              | (go_at_call 43; refine (HNM.out _).mono ?_; rintro e w1 ⟨rfl, hn1⟩)
              | (go_at_call 44; refine (contains_c _ q _ _ (HSL.out _ (by repeat (first | assumption | exact Nw.refl _ | refine Nw.alloc ?_ _ | refine Nw.drew ?_ | refine Nw.drewN2 ?_ _ | (refine Nw.trans ?_ (by assumption)))))).mono ?_; rintro e w2 ⟨rfl, hn2⟩))
            go_roundw
            case rel => exact ⟨k + 1, by omega, by go_num, HF, (by repeat (first | assumption | exact Nw.refl _ | refine Nw.alloc ?_ _ | refine Nw.drew ?_ | refine Nw.drewN2 ?_ _ | (refine Nw.trans ?_ (by assumption))))⟩
            case measure => simp [intOf]; omega
        · rw [Bool.not_eq_true] at h1
          have HF := hid (HNO.out (by rw [h1]; rfl))
          clear HNO HYE
          go_wp2_with (first
            | (go_at_call 43; refine (HNM.out _).mono ?_; rintro e w1 ⟨rfl, hn1⟩)
            | (go_at_call 44; refine (contains_c _ q _ _ (HSL.out _ (by repeat (first | assumption | exact Nw.refl _ | refine Nw.alloc ?_ _ | refine Nw.drew ?_ | refine Nw.drewN2 ?_ _ | (refine Nw.trans ?_ (by assumption)))))).mono ?_; rintro e w2 ⟨rfl, hn2⟩))
          go_ret
          exact Gives.b HF.out.symm (by repeat (first | assumption | exact Nw.refl _ | refine Nw.alloc ?_ _ | refine Nw.drew ?_ | refine Nw.drewN2 ?_ _ | (refine Nw.trans ?_ (by assumption))))
      · obtain rfl : k = l.length := by omega
        have hdk : decide (l.length < l.length) = false := decide_eq_false (by omega)
        have HF := hid (names_yes (by omega) hu.out)
        go_wp2
        go_ret
        exact Gives.b HF.out.symm hn

set_option maxHeartbeats 1600000 in
theorem rnames_c (v : Value) (l : List ByteArray) (w : World) (hv : Sl w v (Lx.strs l)) (hs : ∀ s ∈ l, s.size ≤ 1000000000) : Calls Try.prog 19 #[v] w (Gives (.bool (namesP l)) w) := by
  obtain ⟨p, cap, rfl, hcap, hmx, hp0, hc⟩ := strs_open hv
  have HC := hid hc
  have hmx' := hmx
  unfold maxLen at hmx
  clear hc hv
  by_cases hbig : 64 < l.length
  · have hd : decide ((64 : Int) < l.length) = true := decide_eq_true (by omega)
    have HF := hid (show namesP l = false by unfold namesP; rw [decide_eq_false (by omega)]; rfl)
    go_enter Try.func19, Try.ntmps19
    go_wp2
    go_ret
    exact Gives.b HF.out.symm (by repeat (first | assumption | exact Nw.refl _ | refine Nw.alloc ?_ _ | refine Nw.drew ?_ | refine Nw.drewN2 ?_ _ | (refine Nw.trans ?_ (by assumption))))
  · have hd : decide ((64 : Int) < l.length) = false := decide_eq_false (by omega)
    go_enter Try.func19, Try.ntmps19
    go_wp2
    go_loopw [3, 4, 10] (fun _ _ i wr => ∃ k : Nat, k ≤ l.length ∧ i = .int .i64 k ∧ Hid (namesTo l k = true) ∧ Nw w wr) (fun _ _ i _ => l.length - (intOf i).toNat)
    case atStart => exact ⟨0, Nat.zero_le _, rfl, hid rfl, Nw.refl _⟩
    case round =>
      obtain ⟨k, hk, rfl, hu, hn⟩ := hrel
      by_cases hlt : k < l.length
      · have hdk : decide (k < l.length) = true := decide_eq_true hlt
        obtain ⟨b1, o1, rfl, hcell⟩ := strs_cell (HC.out.nw hn) k hlt
        have HSL := hid (fun w' (h : Nw wr w') => strs_cut k (by omega) hcap hmx' (fun h => by cases h) (HC.out.nw (hn.trans h)))
        have HNM := hid (fun w => rnm_c l[k] (hs _ (List.getElem_mem hlt)) w)
        have eg : l.getD k ⟨#[]⟩ = l[k] := by simp [List.getD_eq_getElem?_getD, hlt]
        have HNO := hid (show nOk l k = false → namesP l = false from fun h => names_no hlt h)
        have HYE := hid (show nOk l k = true → namesTo l (k + 1) = true from fun h => by rw [namesTo, to_succ, h, Bool.and_true]; exact hu.out)
        have eo : nOk l k = (nmB l[k] && !isIn l[k] (l.take k)) := by unfold nOk; rw [eg]
        rw [eo] at HNO HYE
        clear eg eo hu
        generalize l.take k = q at *
        generalize l[k] = s at *
        by_cases h1 : nmB s = true
        · by_cases h2 : isIn s q = true
          · have HF := hid (HNO.out (by rw [h1, h2]; rfl))
            clear HNO HYE
            go_wp2_with (first
              | (go_at_call 45; refine (HNM.out _).mono ?_; rintro e w1 ⟨rfl, hn1⟩)
              | (go_at_call 44; refine (contains_c _ q _ _ (HSL.out _ (by repeat (first | assumption | exact Nw.refl _ | refine Nw.alloc ?_ _ | refine Nw.drew ?_ | refine Nw.drewN2 ?_ _ | (refine Nw.trans ?_ (by assumption)))))).mono ?_; rintro e w2 ⟨rfl, hn2⟩))
            go_ret
            exact Gives.b HF.out.symm (by repeat (first | assumption | exact Nw.refl _ | refine Nw.alloc ?_ _ | refine Nw.drew ?_ | refine Nw.drewN2 ?_ _ | (refine Nw.trans ?_ (by assumption))))
          · rw [Bool.not_eq_true] at h2
            have HF := hid (HYE.out (by rw [h1, h2]; rfl))
            clear HNO HYE
            go_wp2_with (first
              | (go_at_call 45; refine (HNM.out _).mono ?_; rintro e w1 ⟨rfl, hn1⟩)
              | (go_at_call 44; refine (contains_c _ q _ _ (HSL.out _ (by repeat (first | assumption | exact Nw.refl _ | refine Nw.alloc ?_ _ | refine Nw.drew ?_ | refine Nw.drewN2 ?_ _ | (refine Nw.trans ?_ (by assumption)))))).mono ?_; rintro e w2 ⟨rfl, hn2⟩))
            go_roundw
            case rel => exact ⟨k + 1, by omega, by go_num, HF, (by repeat (first | assumption | exact Nw.refl _ | refine Nw.alloc ?_ _ | refine Nw.drew ?_ | refine Nw.drewN2 ?_ _ | (refine Nw.trans ?_ (by assumption))))⟩
            case measure => simp [intOf]; omega
        · rw [Bool.not_eq_true] at h1
          have HF := hid (HNO.out (by rw [h1]; rfl))
          clear HNO HYE
          go_wp2_with (first
            | (go_at_call 45; refine (HNM.out _).mono ?_; rintro e w1 ⟨rfl, hn1⟩)
            | (go_at_call 44; refine (contains_c _ q _ _ (HSL.out _ (by repeat (first | assumption | exact Nw.refl _ | refine Nw.alloc ?_ _ | refine Nw.drew ?_ | refine Nw.drewN2 ?_ _ | (refine Nw.trans ?_ (by assumption)))))).mono ?_; rintro e w2 ⟨rfl, hn2⟩))
          go_ret
          exact Gives.b HF.out.symm (by repeat (first | assumption | exact Nw.refl _ | refine Nw.alloc ?_ _ | refine Nw.drew ?_ | refine Nw.drewN2 ?_ _ | (refine Nw.trans ?_ (by assumption))))
      · obtain rfl : k = l.length := by omega
        have hdk : decide (l.length < l.length) = false := decide_eq_false (by omega)
        have HF := hid (names_yes (by omega) hu.out)
        go_wp2
        go_ret
        exact Gives.b HF.out.symm hn

end Tr
end Go.Proofs.Ytjelbfodkacipaa
