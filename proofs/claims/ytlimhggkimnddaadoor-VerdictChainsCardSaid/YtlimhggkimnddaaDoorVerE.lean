/- The contracts of the reference's Line and Text. No condition but lengths, and that the library's table of powers of ten lies as it is laid. -/
import Derived.Test.YtlimhggkimnddaaDoorVerD
set_option linter.unusedSimpArgs false
set_option linter.unusedVariables false
namespace Go.Proofs.YtlimhggkimnddaaDoor
open Go.ChangeShapes Go.WideShapes Go.ChangeAt Go.RowKit
namespace Vd
theorem full_of {x : It} {L : List UInt8} (h : line x = L ++ [10] ∨ True) (h1 : line x = L) (h2 : L ≠ []) : full x = L ++ [10] := by unfold full; rw [h1, if_neg h2]
theorem full_nil {x : It} (h : line x = []) : full x = [] := by unfold full; rw [if_pos h]
theorem add_ne {a b : List UInt8} (h : b ≠ []) : a ++ b ≠ [] := fun e => h (List.append_eq_nil_iff.1 e).2
set_option maxHeartbeats 1600000 in
theorem rline_c (k i t : Int) (b : Bool) (w : World) (hr : Rg (k, i, b, t)) (ht : Tab w) :
    Calls Tryd.prog 21 #[itv (k, i, b, t)] w (Gives (.string ⟨(full (k, i, b, t)).toArray⟩) w) := by
  obtain ⟨_, ⟨r1, r2⟩, ⟨r3, r4⟩⟩ := hr
  simp only at r1 r2 r3 r4
  have la := Lib.itoa_length_le i (by omega) (by omega)
  have lb := Lib.itoa_length_le t (by omega) (by omega)
  have lc := fb_len b
  cases hk1 : k == 1
  · cases hk2 : k == 2
    · have h1 : told i = told i := rfl
      have h2 : told t = told t := rfl
      have HL := hid (show full (k, i, b, t) = [] by
        refine full_nil ?_
        unfold line; simp only at *; split
        · rw [if_neg (by simpa using hk1), if_neg (by rintro ⟨q, _⟩; simp [q] at hk2)]
        · rfl)
      go_enter Tryd.func21, Tryd.ntmps21
      unfold itv
      go_wp2_with (first
        | (go_at_call 30; (with_reducible refine (counted_c i _).mono ?_); rintro e w2 ⟨rfl, hn2⟩; obtain ⟨hc2, hf2, hz2⟩ := nwc hn2; simp only [h1])
        | (go_at_call 30; (with_reducible refine (counted_c t _).mono ?_); rintro e w3 ⟨rfl, hn3⟩; obtain ⟨hc3, hf3, hz3⟩ := nwc (hn2.trans hn3); simp only [h2]))
      go_ret
      refine ⟨?_, (by repeat (first | assumption | exact Nw.refl _ | refine Nw.alloc ?_ _ | refine Nw.drew ?_ | refine Nw.drewN2 ?_ _ | (refine Nw.trans ?_ (by assumption))))⟩
      rw [HL.out]; rfl
    · cases h1 : told i
      · have h2 : told t = told t := rfl
        have HL := hid (show full (k, i, b, t) = [] by
          refine full_nil ?_
          unfold line; simp only at *; rw [if_neg (by rw [h1]; decide)])
        go_enter Tryd.func21, Tryd.ntmps21
        unfold itv
        go_wp2_with (first
          | (go_at_call 30; (with_reducible refine (counted_c i _).mono ?_); rintro e w2 ⟨rfl, hn2⟩; obtain ⟨hc2, hf2, hz2⟩ := nwc hn2; simp only [h1])
          | (go_at_call 30; (with_reducible refine (counted_c t _).mono ?_); rintro e w3 ⟨rfl, hn3⟩; obtain ⟨hc3, hf3, hz3⟩ := nwc (hn2.trans hn3); simp only [h2]))
        go_ret
        refine ⟨?_, (by repeat (first | assumption | exact Nw.refl _ | refine Nw.alloc ?_ _ | refine Nw.drew ?_ | refine Nw.drewN2 ?_ _ | (refine Nw.trans ?_ (by assumption))))⟩
        rw [HL.out]; rfl
      · cases h2 : told t
        · have HL := hid (show full (k, i, b, t) = [] by
            refine full_nil ?_
            unfold line; simp only at *; rw [if_pos h1, if_neg (by simpa using hk1), if_neg (by rintro ⟨_, q⟩; simp [q] at h2)])
          go_enter Tryd.func21, Tryd.ntmps21
          unfold itv
          go_wp2_with (first
            | (go_at_call 30; (with_reducible refine (counted_c i _).mono ?_); rintro e w2 ⟨rfl, hn2⟩; obtain ⟨hc2, hf2, hz2⟩ := nwc hn2; simp only [h1])
            | (go_at_call 30; (with_reducible refine (counted_c t _).mono ?_); rintro e w3 ⟨rfl, hn3⟩; obtain ⟨hc3, hf3, hz3⟩ := nwc (hn2.trans hn3); simp only [h2]))
          go_ret
          refine ⟨?_, (by repeat (first | assumption | exact Nw.refl _ | refine Nw.alloc ?_ _ | refine Nw.drew ?_ | refine Nw.drewN2 ?_ _ | (refine Nw.trans ?_ (by assumption))))⟩
          rw [HL.out]; rfl
        · have HL := hid (show full (k, i, b, t) = Lib.itoa i ++ [32, 61, 32] ++ Lib.itoa t ++ [10] by
            refine full_of (Or.inr trivial) ?_ (fun e => by simp at e)
            unfold line; simp only at *; rw [if_pos h1, if_neg (by simpa using hk1), if_pos ⟨by simpa using hk2, h2⟩]; simp)
          go_enter Tryd.func21, Tryd.ntmps21
          unfold itv
          go_wp2_with (first
            | (go_at_call 30; (with_reducible refine (counted_c i _).mono ?_); rintro e w2 ⟨rfl, hn2⟩; obtain ⟨hc2, hf2, hz2⟩ := nwc hn2; simp only [h1])
            | (go_at_call 30; (with_reducible refine (counted_c t _).mono ?_); rintro e w3 ⟨rfl, hn3⟩; obtain ⟨hc3, hf3, hz3⟩ := nwc (hn2.trans hn3); simp only [h2]))
          refine wp_region_stairs (by kernel_rfl) (by kernel_rfl) (by kernel_rfl) ?_
          iterate 10
            refine Stairs.is ?_ ?_ ?_
            rotate_left 1
            · intro x wR hR hd K hK
              simp only [Act.put, List.setIfInBounds_toArray, List.set_cons_zero, List.set_cons_succ, Nat.reduceAdd, List.length_nil, List.length_cons, List.nil_append, List.cons_append, Say.ok] at hK ⊢
              clear hd
              change Hid _ at hK
              obtain ⟨hcR, hfR, hzR⟩ := nwc hR
              first | (refine wanted_yes ?_ ?_; rfl) | (refine wanted_no ?_ ?_; rfl)
              go_wp2_with (first | (go_at_call 26; refine (itoa_c _ _ (by omega) (by omega) (ht.nw (by repeat (first | assumption | exact Nw.refl _ | refine Nw.alloc ?_ _ | refine Nw.drew ?_ | refine Nw.drewN2 ?_ _ | (refine Nw.trans ?_ (by assumption)))))).mono ?_; rintro e w2 ⟨rfl, hn2⟩))
              all_goals (refine hK.out _ _ ?_ ?_ <;> first | (solve | (repeat (first | assumption | exact Nw.refl _ | refine Nw.alloc ?_ _ | refine Nw.drew ?_ | refine Nw.drewN2 ?_ _ | (refine Nw.trans ?_ (by assumption))))) | exact rfl)
            try simp only [Act.put, List.setIfInBounds_toArray, List.set_cons_zero, List.set_cons_succ, Nat.reduceAdd, List.length_nil, List.length_cons, List.nil_append, List.cons_append]
          refine Stairs.nil ?_
          intro x wR hR hx
          clear hx
          obtain ⟨hcR, hfR, hzR⟩ := nwc hR
          go_wp2
          go_ret
          refine ⟨?_, (by repeat (first | assumption | exact Nw.refl _ | refine Nw.alloc ?_ _ | refine Nw.drew ?_ | refine Nw.drewN2 ?_ _ | (refine Nw.trans ?_ (by assumption))))⟩
          rw [HL.out]
          exact string_eq (by simp only [bapp]; try simp)
  · cases h1 : told i
    · have h2 : told t = told t := rfl
      have HL := hid (show full (k, i, b, t) = [] by
        refine full_nil ?_
        unfold line; simp only at *; rw [if_neg (by rw [h1]; decide)])
      obtain rfl : k = 1 := by simpa using hk1
      go_enter Tryd.func21, Tryd.ntmps21
      unfold itv
      go_wp2_with (first
        | (go_at_call 30; (with_reducible refine (counted_c i _).mono ?_); rintro e w2 ⟨rfl, hn2⟩; obtain ⟨hc2, hf2, hz2⟩ := nwc hn2; simp only [h1])
        | (go_at_call 30; (with_reducible refine (counted_c t _).mono ?_); rintro e w3 ⟨rfl, hn3⟩; obtain ⟨hc3, hf3, hz3⟩ := nwc (hn2.trans hn3); simp only [h2]))
      go_ret
      refine ⟨?_, (by repeat (first | assumption | exact Nw.refl _ | refine Nw.alloc ?_ _ | refine Nw.drew ?_ | refine Nw.drewN2 ?_ _ | (refine Nw.trans ?_ (by assumption))))⟩
      rw [HL.out]; rfl
    · have h2 : told t = told t := rfl
      have HL := hid (show full (k, i, b, t) = Lib.itoa i ++ [32] ++ fb b ++ [10] by
        refine full_of (Or.inr trivial) ?_ (fun e => by simp at e)
        unfold line; simp only at *; rw [if_pos h1, if_pos (by simpa using hk1)]; simp)
      go_enter Tryd.func21, Tryd.ntmps21
      unfold itv
      go_wp2_with (go_at_call 30; (with_reducible refine (counted_c i _).mono ?_); rintro e w2 ⟨rfl, hn2⟩; obtain ⟨hc2, hf2, hz2⟩ := nwc hn2; simp only [h1])
      refine wp_region_stairs (by kernel_rfl) (by kernel_rfl) (by kernel_rfl) ?_
      iterate 10
        refine Stairs.is ?_ ?_ ?_
        rotate_left 1
        · intro x wR hR hd K hK
          simp only [Act.put, List.setIfInBounds_toArray, List.set_cons_zero, List.set_cons_succ, Nat.reduceAdd, List.length_nil, List.length_cons, List.nil_append, List.cons_append, Say.ok] at hK ⊢
          clear hd
          change Hid _ at hK
          obtain ⟨hcR, hfR, hzR⟩ := nwc hR
          first | (refine wanted_yes ?_ ?_; rfl) | (refine wanted_no ?_ ?_; rfl)
          go_wp2_with (first | (go_at_call 26; refine (itoa_c _ _ (by omega) (by omega) (ht.nw (by repeat (first | assumption | exact Nw.refl _ | refine Nw.alloc ?_ _ | refine Nw.drew ?_ | refine Nw.drewN2 ?_ _ | (refine Nw.trans ?_ (by assumption)))))).mono ?_; rintro e w2 ⟨rfl, hn2⟩) | (go_at_call 28; refine (fb_c _ _).mono ?_; rintro e w3 ⟨rfl, hn3⟩))
          all_goals (refine hK.out _ _ ?_ ?_ <;> first | (solve | (repeat (first | assumption | exact Nw.refl _ | refine Nw.alloc ?_ _ | refine Nw.drew ?_ | refine Nw.drewN2 ?_ _ | (refine Nw.trans ?_ (by assumption))))) | exact rfl)
        try simp only [Act.put, List.setIfInBounds_toArray, List.set_cons_zero, List.set_cons_succ, Nat.reduceAdd, List.length_nil, List.length_cons, List.nil_append, List.cons_append]
      refine Stairs.nil ?_
      intro x wR hR hx
      clear hx
      obtain ⟨hcR, hfR, hzR⟩ := nwc hR
      go_wp2
      go_ret
      refine ⟨?_, (by repeat (first | assumption | exact Nw.refl _ | refine Nw.alloc ?_ _ | refine Nw.drew ?_ | refine Nw.drewN2 ?_ _ | (refine Nw.trans ?_ (by assumption))))⟩
      rw [HL.out]
      exact string_eq (by simp only [bapp]; try simp)
theorem text_take (l : List It) (k : Nat) (x : It) (h : l[k]? = some x) : text (l.take (k + 1)) = text (l.take k) ++ full x := by
  rw [List.take_add_one, h, Option.toList_some, text_snoc]
set_option maxHeartbeats 800000 in
theorem rtext_c (v : Value) (l : List It) (w : World) (hv : Its w v l) (hr : ∀ x ∈ l, Rg x) (hl : l.length ≤ 2000000) (ht : Tab w) :
    Calls Tryd.prog 10 #[v] w (Gives (.string ⟨(text l).toArray⟩) w) := by
  obtain ⟨p, cap, rfl, hcap, hmx, _, hc⟩ := hv.open rfl
  have HC := hid hc
  have HR := hid hr
  clear hc hr
  go_enter Tryd.func10, Tryd.ntmps10
  go_wp2
  go_loopw [3, 5, 8] (fun s _ i wr => ∃ k : Nat, k ≤ l.length ∧ i = .int .i64 k ∧ s = .string ⟨(text (l.take k)).toArray⟩ ∧ Nw w wr) (fun _ _ i _ => l.length - (intOf i).toNat)
  case atStart => exact ⟨0, Nat.zero_le _, rfl, rfl, Nw.refl _⟩
  case round =>
    obtain ⟨k, hk, rfl, rfl, hnr⟩ := hrel
    by_cases hlt : k < l.length
    · have hdk : decide (k < l.length) = true := decide_eq_true hlt
      obtain ⟨x, hx⟩ : ∃ x, l[k]? = some x := ⟨l[k], by simp [hlt]⟩
      have HX := hid (text_take l k x hx)
      have HRX := hid (HR.out x (List.mem_of_getElem? hx))
      have htl := text_len (l.take k)
      rw [List.length_take] at htl
      have htb : (text (l.take k)).length ≤ 2000000 * 51 := by omega
      have hfl := full_len (x := x)
      clear htl
      obtain ⟨ki, ii, bb, ti⟩ := x
      obtain ⟨b0, oo, rfl, c0, c1, c2, c3⟩ := (HC.out.nw hnr) k _ hx
      clear hx
      simp only at c0 c1 c2 c3
      have hz := World.block_lt_of_cell? wr _ c0
      simp only at hz
      have HLI := hid (fun w' (h : Nw wr w') => rline_c ki ii ti bb w' HRX.out (ht.nw (hnr.trans h)))
      generalize text (l.take k) = T at *
      generalize full (ki, ii, bb, ti) = F at *
      unfold itv at HLI
      go_wp2_with (first
        | (go_at_call 21; refine (HLI.out _ (by repeat (first | assumption | exact Nw.refl _ | refine Nw.alloc ?_ _ | refine Nw.drew ?_ | refine Nw.drewN2 ?_ _ | (refine Nw.trans ?_ (by assumption))))).mono ?_; rintro e w2 ⟨rfl, hn2⟩)
        | fail)
      go_roundw
      case rel => exact ⟨k + 1, by omega, by go_num, by rw [HX.out]; simp only [bapp], (by repeat (first | assumption | exact Nw.refl _ | refine Nw.alloc ?_ _ | refine Nw.drew ?_ | refine Nw.drewN2 ?_ _ | (refine Nw.trans ?_ (by assumption))))⟩
      case measure => simp [intOf]; omega
    · obtain rfl : k = l.length := by omega
      have hdk : decide (l.length < l.length) = false := decide_eq_false (Nat.lt_irrefl _)
      go_wp2
      go_ret
      refine ⟨?_, (by repeat (first | assumption | exact Nw.refl _ | refine Nw.alloc ?_ _ | refine Nw.drew ?_ | refine Nw.drewN2 ?_ _ | (refine Nw.trans ?_ (by assumption))))⟩
      rw [List.take_length]; rfl
end Vd
end Go.Proofs.YtlimhggkimnddaaDoor
