/- VerdictBack walked. No condition but lengths, and what the library's variables hold. -/
import Derived.Test.YtlimhggkimnddaaDoorVerR
set_option linter.unusedSimpArgs false
set_option linter.unusedVariables false
namespace Go.Proofs.YtlimhggkimnddaaDoor
open Go.ChangeShapes Go.WideShapes Go.ChangeAt Go.RowKit
namespace Vd
theorem norm_take (l : List It) (k : Nat) (x : It) (hx : l[k]? = some x) : (l.take (k + 1)).filterMap norm = (l.take k).filterMap norm ++ (norm x).toList := by
  rw [List.take_add_one, hx, List.filterMap_append]
  cases h : norm x <;> simp [h]
theorem kept_len (l : List It) (k : Nat) : ((l.take k).filterMap norm).length ≤ l.length :=
  Nat.le_trans (List.length_filterMap_le _ _) (by rw [List.length_take]; omega)
theorem norm_out {k i t : Int} {b : Bool} (h : told i = false) : norm (k, i, b, t) = none := by unfold norm; rw [h]; rfl
theorem norm_1 {i t : Int} {b : Bool} (h : told i = true) : norm (1, i, b, t) = some (1, i, b, 0) := by unfold norm; rw [if_pos h, if_pos rfl]
theorem norm_2 {i t : Int} {b : Bool} (h : told i = true) (h2 : told t = true) : norm (2, i, b, t) = some (2, i, false, t) := by unfold norm; rw [if_pos h, if_neg (show ¬ (2 : Int) = 1 by decide), if_pos ⟨rfl, h2⟩]
theorem norm_3 {k i t : Int} {b : Bool} (h : k ≠ 1) (h2 : ¬ (k = 2 ∧ told t = true)) : norm (k, i, b, t) = none := by
  unfold norm
  split
  · simp only [h, h2, if_false]
  · rfl
set_option maxRecDepth 20000 in
set_option maxHeartbeats 4000000 in
theorem back_walk (v : Value) (l : List It) (s : ByteArray) (w : World) (hm : Mx w) (ht : Tab w) (hv : Its w v l) (hr : ∀ x ∈ l, Rg x) (hl : l.length ≤ 2000000) (hs : s.data.toList.length ≤ 2000000) :
    Calls Tryd.prog 6 #[v, .string s] w (Gives (.bool true) w) := by
  have HT := hid (fun w' (h : Nw w w') => text_c v l w' (hv.nw h) hr hl (ht.nw h))
  have HA := hid (fun w' (h : Nw w w') => awake_c w' (hm.nw h) (ht.nw h))
  have HP := hid (fun w' (h : Nw w w') => show Calls Tryd.prog 13 #[.string ⟨(text l).toArray⟩] w' (fun e w'' => ∃ v, e = .returned (.tuple #[v, .int .i64 0, .int .i64 0]) ∧ Its w'' v (l.filterMap norm) ∧ Nw w' w'') by
    refine (parse_c (text l) w' (hm.nw h) (by have := text_len l; omega)).mono ?_
    rintro e w'' ⟨v, he, ho, hn⟩
    rw [parse_text] at he ho
    exact ⟨v, he, ho.its, hn⟩)
  have HE := hid (fun w' va vb (h1 : Its w' va (l.filterMap norm)) (h2 : Its w' vb (l.filterMap norm)) => show Calls Tryd.prog 14 #[va, vb] w' (Gives (.bool true) w') by
    have := eqIts_c va vb _ _ w' h1 h2
    rwa [decide_eq_true rfl] at this)
  have HP2 := hid (fun w' (h : Nw w w') => show Calls Tryd.prog 13 #[.string s] w' (fun e w'' => ∃ v, e = .returned (.tuple #[v, .int .i64 (parse s.data.toList).2.1, .int .i64 (parse s.data.toList).2.2]) ∧ Its w'' v (parse s.data.toList).1 ∧ Nw w' w'') by
    refine (parse_c s.data.toList w' (hm.nw h) (by omega)).mono ?_
    rintro e w'' ⟨v, he, ho, hn⟩
    exact ⟨v, he, ho.its, hn⟩)
  have HT2 := hid (fun w' (h : Nw w w') v (hv : Its w' v (parse s.data.toList).1) (h0 : (parse s.data.toList).2.2 = 0) => show Calls Tryd.prog 9 #[v] w' (Gives (.string s) w') by
    have := text_c v _ w' hv (parse_rg _) (by have := parse_len s.data.toList; omega) (ht.nw h)
    rw [text_parse h0] at this
    exact this)
  obtain ⟨⟨pl, pz, pe⟩, hpp⟩ : ∃ p, p = parse s.data.toList := ⟨_, rfl⟩
  rw [← hpp] at HP2 HT2
  simp only at HP2 HT2
  clear hpp hs
  generalize text l = T at *
  obtain ⟨p, cap, rfl, hcap, hmx, _, hc⟩ := hv.open rfl
  have HC := hid hc
  have HR := hid hr
  clear hc hr hv
  go_enter Tryd.func6, Tryd.ntmps6
  go_wp2
  go_loopw [5, 7, 16] (fun kv _ i wr => ∃ k : Nat, k ≤ l.length ∧ i = .int .i64 k ∧ IOwn wr w.heap.size kv ((l.take k).filterMap norm) ∧ Nw w wr) (fun _ _ i _ => l.length - (intOf i).toNat)
  case atStart => exact ⟨0, Nat.zero_le _, rfl, IOwn.nil _ _, Nw.refl _⟩
  case round =>
    obtain ⟨k, hk, rfl, hown, hnr⟩ := hrel
    have hsz := hnr.size
    by_cases hlt : k < l.length
    · have hdk : decide (k < l.length) = true := decide_eq_true hlt
      obtain ⟨x, hx⟩ : ∃ x, l[k]? = some x := ⟨l[k], by simp [hlt]⟩
      have HX := hid (norm_take l k x hx)
      have hkl := kept_len l k
      obtain ⟨ki, ii, bb, ti⟩ := x
      obtain ⟨b0, oo, rfl, c0, c1, c2, c3⟩ := (HC.out.nw hnr) k _ hx
      clear hx
      simp only at c0 c1 c2 c3
      have hz := World.block_lt_of_cell? wr _ c0
      simp only at hz
      have HO := hid hown
      generalize (l.take k).filterMap norm = kp at *
      obtain ⟨qk, cqk, rfl, _⟩ := HO.out.its.open rfl
      by_cases h1 : ii < 0
      · have d1 : decide (ii < 0) = true := decide_eq_true h1
        have HN := hid (norm_out (k := ki) (b := bb) (t := ti) (show told ii = false by unfold told; simp; omega))
        clear h1
        go_wp2
        go_roundw
        case rel => exact ⟨k + 1, by omega, by go_num, by rw [HX.out, HN.out]; exact (show IOwn _ _ _ (kp ++ []) by rw [List.append_nil]; exact HO.out.nw (by repeat (first | assumption | exact Nw.refl _ | refine Nw.alloc ?_ _ | refine Nw.drew ?_ | refine Nw.drewN2 ?_ _ | (refine Nw.trans ?_ (by assumption))))), (by repeat (first | assumption | exact Nw.refl _ | refine Nw.alloc ?_ _ | refine Nw.drew ?_ | refine Nw.drewN2 ?_ _ | (refine Nw.trans ?_ (by assumption))))⟩
        case measure => simp [intOf]; omega
      have d1 : decide (ii < 0) = false := decide_eq_false h1
      by_cases h2 : 999999999999999999 < ii
      · have d2 : decide (999999999999999999 < ii) = true := decide_eq_true h2
        have HN := hid (norm_out (k := ki) (b := bb) (t := ti) (show told ii = false by unfold told; simp; omega))
        clear h1 h2
        go_wp2
        go_roundw
        case rel => exact ⟨k + 1, by omega, by go_num, by rw [HX.out, HN.out]; exact (show IOwn _ _ _ (kp ++ []) by rw [List.append_nil]; exact HO.out.nw (by repeat (first | assumption | exact Nw.refl _ | refine Nw.alloc ?_ _ | refine Nw.drew ?_ | refine Nw.drewN2 ?_ _ | (refine Nw.trans ?_ (by assumption))))), (by repeat (first | assumption | exact Nw.refl _ | refine Nw.alloc ?_ _ | refine Nw.drew ?_ | refine Nw.drewN2 ?_ _ | (refine Nw.trans ?_ (by assumption))))⟩
        case measure => simp [intOf]; omega
      have d2 : decide (999999999999999999 < ii) = false := decide_eq_false h2
      have HTI := hid (told_iff.2 ⟨(show 0 ≤ ii by omega), (show ii ≤ 999999999999999999 by omega)⟩)
      clear h1 h2
      by_cases h3 : ki = 1
      · subst h3
        have HN := hid (norm_1 (b := bb) (t := ti) HTI.out)
        go_wp2_with (first
          | (at_builtin; refine appI rfl _ _ _ rfl Tryd.underlying22 (1, ii, bb, 0) rfl (IOwn.nw HO.out ((Nw.refl wr).alloc _)) (Nat.le_trans hsz ((Nw.refl wr).alloc _).size) rfl rfl (by simp) ?_ (by omega); intro v4 w4 ho4 hm4)
          | fail)
        have hn4 : Nw w w4 := Nw.ofMods (hnr.alloc _) hm4 (fun k hk => hk)
        obtain ⟨q4, c4, e4, _⟩ := ho4.its.open rfl
        go_roundw
        case rel => exact ⟨k + 1, by omega, by go_num, by rw [HX.out, HN.out]; exact ho4, hn4⟩
        case measure => simp [intOf]; omega
      have d3 : (ki == 1) = false := beq_eq_false_iff_ne.2 h3
      by_cases h4 : ki = 2
      · subst h4
        by_cases h5 : 0 ≤ ti
        · have d5 : decide (0 ≤ ti) = true := decide_eq_true h5
          by_cases h6 : ti ≤ 999999999999999999
          · have d6 : decide (ti ≤ 999999999999999999) = true := decide_eq_true h6
            have HN := hid (norm_2 (b := bb) HTI.out (told_iff.2 ⟨h5, h6⟩))
            clear h3 h5 h6
            go_wp2_with (first
              | (at_builtin; refine appI rfl _ _ _ rfl Tryd.underlying22 (2, ii, false, ti) rfl (IOwn.nw HO.out ((Nw.refl wr).alloc _)) (Nat.le_trans hsz ((Nw.refl wr).alloc _).size) rfl rfl (by simp) ?_ (by omega); intro v4 w4 ho4 hm4)
              | fail)
            have hn4 : Nw w w4 := Nw.ofMods (hnr.alloc _) hm4 (fun k hk => hk)
            obtain ⟨q4, c4, e4, _⟩ := ho4.its.open rfl
            go_roundw
            case rel => exact ⟨k + 1, by omega, by go_num, by rw [HX.out, HN.out]; exact ho4, hn4⟩
            case measure => simp [intOf]; omega
          · have d6 : decide (ti ≤ 999999999999999999) = false := decide_eq_false h6
            have HN := hid (norm_3 (i := ii) (b := bb) (t := ti) h3 (fun q => h6 (told_iff.1 q.2).2))
            clear h3 h5 h6
            go_wp2
            go_roundw
            case rel => exact ⟨k + 1, by omega, by go_num, by rw [HX.out, HN.out]; exact (show IOwn _ _ _ (kp ++ []) by rw [List.append_nil]; exact HO.out.nw (by repeat (first | assumption | exact Nw.refl _ | refine Nw.alloc ?_ _ | refine Nw.drew ?_ | refine Nw.drewN2 ?_ _ | (refine Nw.trans ?_ (by assumption))))), (by repeat (first | assumption | exact Nw.refl _ | refine Nw.alloc ?_ _ | refine Nw.drew ?_ | refine Nw.drewN2 ?_ _ | (refine Nw.trans ?_ (by assumption))))⟩
            case measure => simp [intOf]; omega
        · have d5 : decide (0 ≤ ti) = false := decide_eq_false h5
          have HN := hid (norm_3 (i := ii) (b := bb) (t := ti) h3 (fun q => h5 (told_iff.1 q.2).1))
          clear h3 h5
          go_wp2
          go_roundw
          case rel => exact ⟨k + 1, by omega, by go_num, by rw [HX.out, HN.out]; exact (show IOwn _ _ _ (kp ++ []) by rw [List.append_nil]; exact HO.out.nw (by repeat (first | assumption | exact Nw.refl _ | refine Nw.alloc ?_ _ | refine Nw.drew ?_ | refine Nw.drewN2 ?_ _ | (refine Nw.trans ?_ (by assumption))))), (by repeat (first | assumption | exact Nw.refl _ | refine Nw.alloc ?_ _ | refine Nw.drew ?_ | refine Nw.drewN2 ?_ _ | (refine Nw.trans ?_ (by assumption))))⟩
          case measure => simp [intOf]; omega
      · have d4 : (ki == 2) = false := beq_eq_false_iff_ne.2 h4
        have HN := hid (norm_3 (i := ii) (b := bb) (t := ti) h3 (fun q => h4 q.1))
        clear h3 h4
        go_wp2
        go_roundw
        case rel => exact ⟨k + 1, by omega, by go_num, by rw [HX.out, HN.out]; exact (show IOwn _ _ _ (kp ++ []) by rw [List.append_nil]; exact HO.out.nw (by repeat (first | assumption | exact Nw.refl _ | refine Nw.alloc ?_ _ | refine Nw.drew ?_ | refine Nw.drewN2 ?_ _ | (refine Nw.trans ?_ (by assumption))))), (by repeat (first | assumption | exact Nw.refl _ | refine Nw.alloc ?_ _ | refine Nw.drew ?_ | refine Nw.drewN2 ?_ _ | (refine Nw.trans ?_ (by assumption))))⟩
        case measure => simp [intOf]; omega
    · obtain rfl : k = l.length := by omega
      have hdk : decide (l.length < l.length) = false := decide_eq_false (Nat.lt_irrefl _)
      rw [List.take_length] at hown
      have hkl := Nat.le_trans (List.length_filterMap_le norm l) (Nat.le_refl _)
      generalize l.filterMap norm = kp at *
      obtain ⟨qk, cqk, rfl, _⟩ := hown.its.open rfl
      by_cases h0 : pe = 0
      · subst h0
        have HT4 := hid (fun w' h v hv => HT2.out w' h v hv rfl)
        clear HT2
        go_wp2_with (first
          | (go_at_call 9; first | (refine HT3.mono ?_; rintro e w6 ⟨rfl, hn6⟩) | ((with_reducible refine (HT.out _ (by repeat (first | assumption | exact Nw.refl _ | refine Nw.alloc ?_ _ | refine Nw.drew ?_ | refine Nw.drewN2 ?_ _ | (refine Nw.trans ?_ (by assumption))))).mono ?_); rintro e w1 ⟨rfl, hn1⟩))
          | (go_at_call 13; first | ((with_reducible refine (HP.out _ (by repeat (first | assumption | exact Nw.refl _ | refine Nw.alloc ?_ _ | refine Nw.drew ?_ | refine Nw.drewN2 ?_ _ | (refine Nw.trans ?_ (by assumption))))).mono ?_); rintro e w2 ⟨v2, rfl, hi2, hn2⟩; have hi3 := hown.its.nw (hn1.trans hn2)) | ((with_reducible refine (HP2.out _ (by repeat (first | assumption | exact Nw.refl _ | refine Nw.alloc ?_ _ | refine Nw.drew ?_ | refine Nw.drewN2 ?_ _ | (refine Nw.trans ?_ (by assumption))))).mono ?_); rintro e w5 ⟨v5, rfl, hi5, hn5⟩; have hw5 : Nw w w5 := (by repeat (first | assumption | exact Nw.refl _ | refine Nw.alloc ?_ _ | refine Nw.drew ?_ | refine Nw.drewN2 ?_ _ | (refine Nw.trans ?_ (by assumption)))); have HT3 := HT4.out w5 hw5 v5 hi5))
          | (go_at_call 14; refine (HE.out _ _ _ hi2 hi3).mono ?_; rintro e w4 ⟨rfl, hn4⟩)
          | (go_at_call 11; refine (HA.out _ (by repeat (first | assumption | exact Nw.refl _ | refine Nw.alloc ?_ _ | refine Nw.drew ?_ | refine Nw.drewN2 ?_ _ | (refine Nw.trans ?_ (by assumption))))).mono ?_; rintro e w7 ⟨rfl, hn7⟩)
          | fail)
        go_ret
        exact ⟨rfl, (by repeat (first | assumption | exact Nw.refl _ | refine Nw.alloc ?_ _ | refine Nw.drew ?_ | refine Nw.drewN2 ?_ _ | (refine Nw.trans ?_ (by assumption))))⟩
      · have d0 : (pe != 0) = true := bne_iff_ne.2 h0
        clear h0
        go_wp2_with (first
          | (go_at_call 9; (with_reducible refine (HT.out _ (by repeat (first | assumption | exact Nw.refl _ | refine Nw.alloc ?_ _ | refine Nw.drew ?_ | refine Nw.drewN2 ?_ _ | (refine Nw.trans ?_ (by assumption))))).mono ?_); rintro e w1 ⟨rfl, hn1⟩)
          | (go_at_call 13; first | ((with_reducible refine (HP.out _ (by repeat (first | assumption | exact Nw.refl _ | refine Nw.alloc ?_ _ | refine Nw.drew ?_ | refine Nw.drewN2 ?_ _ | (refine Nw.trans ?_ (by assumption))))).mono ?_); rintro e w2 ⟨v2, rfl, hi2, hn2⟩; have hi3 := hown.its.nw (hn1.trans hn2)) | ((with_reducible refine (HP2.out _ (by repeat (first | assumption | exact Nw.refl _ | refine Nw.alloc ?_ _ | refine Nw.drew ?_ | refine Nw.drewN2 ?_ _ | (refine Nw.trans ?_ (by assumption))))).mono ?_); rintro e w5 ⟨v5, rfl, hi5, hn5⟩))
          | (go_at_call 14; refine (HE.out _ _ _ hi2 hi3).mono ?_; rintro e w4 ⟨rfl, hn4⟩)
          | (go_at_call 11; refine (HA.out _ (by repeat (first | assumption | exact Nw.refl _ | refine Nw.alloc ?_ _ | refine Nw.drew ?_ | refine Nw.drewN2 ?_ _ | (refine Nw.trans ?_ (by assumption))))).mono ?_; rintro e w7 ⟨rfl, hn7⟩)
          | fail)
        go_ret
        exact ⟨rfl, (by repeat (first | assumption | exact Nw.refl _ | refine Nw.alloc ?_ _ | refine Nw.drew ?_ | refine Nw.drewN2 ?_ _ | (refine Nw.trans ?_ (by assumption))))⟩
end Vd
end Go.Proofs.YtlimhggkimnddaaDoor
