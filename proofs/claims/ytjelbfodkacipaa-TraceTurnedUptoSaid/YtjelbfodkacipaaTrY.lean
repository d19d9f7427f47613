/- TraceTurned walked. No condition but lengths. -/
import Derived.Test.YtjelbfodkacipaaTrX
set_option linter.unusedSimpArgs false
set_option linter.unusedVariables false
namespace Go.Proofs.Ytjelbfodkacipaa
open Go.ChangeShapes Go.WideShapes Go.ChangeAt Go.RowKit
namespace Tr
open Go.Proofs.Ytjelbfodkacipaa.Lx (isIn nameB strs_open strs_cell contains_c)
open Go.Proofs.Ytjelbfodkacipaa.Rec (rises i64s_open i64_cell)
open Go.Proofs.Ytjelbfodkacipaa.Lg (EvIn_apart row_mods row_lt row_mono)
theorem four_shape {w : World} {B : Nat} {v : Value} {s : ByteArray} (h : Own w B 9 v (Lx.strs pqr ++ [.string s])) : ∃ g c, v = .slice (some ⟨g, 0, none⟩) 4 c := by
  obtain ⟨g, c, e, _⟩ := h.opened (by rw [List.length_append]; exact Nat.succ_pos _)
  exact ⟨g, c, e⟩
theorem ids_shape {w : World} {B : Nat} {v : Value} {l : List Int} {z : Int} (h : Own w B 3 v (i64s l ++ [.int .i64 z])) : ∃ q c, v = .slice q (l.length + 1) c := by
  obtain ⟨g, c, e, _⟩ := h.opened (by rw [List.length_append]; exact Nat.succ_pos _)
  exact ⟨_, c, by rw [e, List.length_append, i64s_length]; rfl⟩
theorem pqr_shapeO {w : World} {B : Nat} {v : Value} (h : Own w B 9 v (Lx.strs pqr)) : ∃ g c, v = .slice (some ⟨g, 0, none⟩) 3 c := by
  obtain ⟨g, c, e, _⟩ := h.opened (by decide)
  exact ⟨g, c, e⟩
/-- What the two copies are, behind the second one. -/
structure Two (w w0 : World) (gt gu : Nat) (vn ve un ue : Value) (es : Es) : Prop where
  t : w0.heap[gt]? = some (.cells #[vn, ve] 26 (0, 0))
  u : w0.heap[gu]? = some (.cells #[un, ue] 26 (0, 0))
  n : Own w0 w.heap.size 9 vn (Lx.strs pqr)
  e : EvAp w0 w.heap.size ve es
  un : Own w0 (gt + 1) 9 un (Lx.strs pqr)
  ue : EvAp w0 (gt + 1) ue es
  ln : ∀ k, vn.ownBlock = some k → k < gt
  le : ∀ k, ve.ownBlock = some k → k < gt
  lt : gt < gu
  nw : Nw w w0
  p : ∃ w2 : World, w2.heap.size = gt ∧ EvAp w2 w.heap.size ve es ∧ Nw w2 w0
set_option maxRecDepth 20000 in
set_option maxHeartbeats 3200000 in
theorem turned_walk (start : Int) (h0 : 0 ≤ start) (h64 : start < 18446744073709551616) (v1 : Value) (ns : List Nat) (at_ what : Nat) (time id_ : Int) (s : ByteArray) (w : World) (hv1 : Sl w v1 (u16s ns)) (hns : ∀ n ∈ ns, n ≤ 65535) (hat : at_ ≤ 255) (hwh : what ≤ 255) (hss : s.size ≤ 1000000000) :
    Calls Try.prog 5 #[.int .u64 start, v1, .int .u8 (at_ : Int), .int .u8 (what : Int), .int .u64 time, .int .i64 id_, .string s] w fun e w' => e = .returned (.bool true) ∧ Nw w w' := by
  have HM1 := hid (fun w' (h : Nw w w') => make_c3 start h0 h64 v1 ns w' (hv1.nw h) hns)
  have sa := make_small start h0 ns
  have hle := make_len start h0 ns
  have HI3 := hid (show ∀ i, i < (makeP start ns).evs.length → (ids (makeP start ns).evs i).length ≤ 3 from fun i hi => (runM_fine start h0 (ns.take 60) i hi).2.2.2.1)
  have HNA := hid (show (makeP start ns).names = pqr from rfl)
  obtain ⟨p1, k1, rfl, _, _, _, _⟩ := hv1.open (u16s_length ns)
  generalize makeP start ns = a at *
  generalize ns.length = na at *
  clear hv1 hns
  obtain ⟨names, es⟩ := a
  obtain rfl : names = pqr := HNA.out
  dsimp only at *
  go_enter Try.func5, Try.ntmps5
  go_upto_region 2 with (first
    | (go_at_call 23; refine (HM1.out _ (by repeat (first | assumption | exact Nw.refl _ | refine Nw.alloc ?_ _ | refine Nw.drew ?_ | refine Nw.drewN2 ?_ _ | (refine Nw.trans ?_ (by assumption))))).mono ?_; rintro e w1 ⟨q1, c1, q2, c2, rfl, hs1, he1, hn1⟩)
    | (go_at_call 28; refine (copy_c _ _ ⟨pqr, es⟩ _ hs1 he1 sa).mono ?_; rintro e w2 ⟨vn, ve, rfl, ho2, he2, hn2⟩; obtain ⟨g3, c3, rfl⟩ := pqr_shapeO ho2; obtain ⟨q4, c4, rfl⟩ := he2.shape rfl)
    | fail)
  have yt := heap_new w2 (.cells #[.slice (some ⟨g3, 0, none⟩) 3 c3, .slice q4 (List.length es) c4] 26)
  have hnz := (Nw.refl w2).alloc (.cells #[.slice (some ⟨g3, 0, none⟩) 3 c3, .slice q4 (List.length es) c4] 26)
  have hgt := lt_alloc w2 (.cells #[.slice (some ⟨g3, 0, none⟩) 3 c3, .slice q4 (List.length es) c4] 26)
  have hsz := size_alloc w2 (.cells #[.slice (some ⟨g3, 0, none⟩) 3 c3, .slice q4 (List.length es) c4] 26)
  have hln := fun k hk => (row_lt ho2 k hk).2
  have hle2 : ∀ k, (Value.slice q4 (List.length es) c4).ownBlock = some k → k < w2.heap.size := fun k hk => by
    obtain ⟨vs, _, h2, _⟩ := he2
    exact (row_lt h2 k hk).2
  have ho3 := ho2.nw hnz
  have he3 := he2.nw hnz
  have hw3 : Nw w _ := hn1.trans (hn2.trans hnz)
  have hB := hn1.size
  have hp : ∃ w2' : World, w2'.heap.size = w2.heap.size ∧ EvAp w2' w.heap.size (.slice q4 (List.length es) c4) es ∧ Nw w2' (w2.alloc (.cells #[.slice (some ⟨g3, 0, none⟩) 3 c3, .slice q4 (List.length es) c4] 26)) := ⟨w2, rfl, EvAp.mono he2 hB, hnz⟩
  generalize w2.alloc (.cells #[.slice (some ⟨g3, 0, none⟩) 3 c3, .slice q4 (List.length es) c4] 26) = w3 at *
  generalize w2.heap.size = gt at *
  have ho3 := Own.mono ho3 hB
  have he3 := EvAp.mono he3 hB
  clear hs1 he1 hn1 hn2 ho2 he2 hnz HM1 HNA hB
  have d0 := heap_cell yt 0
  have d1 := heap_cell yt 1
  simp only [List.getElem?_toArray, List.getElem?_cons_succ, List.getElem?_cons_zero] at d0 d1
  go_upto_region 4 with (first
    | (go_at_call 28; refine (copy_c _ _ ⟨pqr, es⟩ _ ho3.sl he3.evs sa).mono ?_; rintro e w4 ⟨un, ue, rfl, ho4, he4, hn4⟩; obtain ⟨g5, c5, rfl⟩ := pqr_shapeO ho4; obtain ⟨q6, c6, rfl⟩ := he4.shape rfl)
    | fail)
  have yu := heap_new w4 (.cells #[.slice (some ⟨g5, 0, none⟩) 3 c5, .slice q6 (List.length es) c6] 26)
  have hnz := (Nw.refl w4).alloc (.cells #[.slice (some ⟨g5, 0, none⟩) 3 c5, .slice q6 (List.length es) c6] 26)
  have hgu := hn4.size
  have yt := (hn4.trans hnz).heap yt
  have ho3 := ho3.nw (hn4.trans hnz)
  have he3 := he3.nw (hn4.trans hnz)
  have ho4 := ho4.nw hnz
  have he4 := he4.nw hnz
  have hp := (show ∃ w2' : World, w2'.heap.size = gt ∧ EvAp w2' w.heap.size (.slice q4 (List.length es) c4) es ∧ Nw w2' _ from hp.imp fun w2' h => ⟨h.1, h.2.1, h.2.2.trans (hn4.trans hnz)⟩)
  have hw5 := hw3.trans (hn4.trans hnz)
  rw [hsz] at ho4 he4
  generalize w4.alloc (.cells #[.slice (some ⟨g5, 0, none⟩) 3 c5, .slice q6 (List.length es) c6] 26) = w5 at *
  have htu : gt < w4.heap.size := by omega
  generalize w4.heap.size = gu at *
  have H : Hid (Two w w5 gt gu _ _ _ _ es) := hid ⟨yt, yu, ho3, he3, ho4, he4, hln, hle2, htu, hw5, hp⟩
  clear hp ho3 he3 ho4 he4 hln hle2 hw5 hw3 hn4 hnz hgu hsz hgt d0 d1
  have HE : Hid (List.length es ≤ 60) := hid hle
  have d0 := heap_cell yt 0
  have d1 := heap_cell yt 1
  have f0 := heap_frozen yt 0
  have f1 := heap_frozen yt 1
  have e0 := heap_cell yu 0
  have e1 := heap_cell yu 1
  simp only [List.getElem?_toArray, List.getElem?_cons_succ, List.getElem?_cons_zero] at d0 d1 e0 e1
  clear d0 d1 e0 e1
  by_cases hn : 0 < List.length es
  · have hdn : decide ((0 : Int) < List.length es) = true := decide_eq_true (by omega)
    have hdn2 : decide (0 < List.length es) = true := decide_eq_true hn
    have d1 := heap_cell yt 1
    simp only [List.getElem?_toArray, List.getElem?_cons_succ, List.getElem?_cons_zero] at d1
    go_upto_region 7 with fail
    rw [show ((at_ : Int) % (List.length es : Int)) = ((at_ % List.length es : Nat) : Int) from rfl]
    have hi : at_ % List.length es < List.length es := Nat.mod_lt _ hn
    generalize at_ % List.length es = i at *
    have d0 := heap_cell yt 0
    simp only [List.getElem?_toArray, List.getElem?_cons_succ, List.getElem?_cons_zero] at d0
    by_cases hA : what % 4 = 0
    · have hdA : ((what : Int) % 4 == 0) = true := by rw [beq_iff_eq]; omega
      have hr : at_ % 3 = 0 ∨ at_ % 3 = 1 ∨ at_ % 3 = 2 := by omega
      clear hA hwh
      rcases hr with hr | hr | hr
      · skip
        have hr3 : (at_ : Int) % 3 = 0 := by omega
        have hcell := Own.cell H.out.n rfl 0 (show 0 < (Lx.strs pqr).length by decide)
        have hfr := Own.frozen H.out.n rfl 0
        rw [show (Lx.strs pqr)[0]? = some (.string (pqr.getD 0 ⟨#[]⟩)) from rfl] at hcell
        clear hat
        go_upto_region 13 with fail
        have hm : Mods (fun k => (Value.slice (some ⟨g3, 0, none⟩) 3 c3).ownBlock = some k) w5 (w5.setCell ⟨g3, 0, none⟩ (.string s)) := Mods.setCell (S := fun k => (Value.slice (some ⟨g3, 0, none⟩) 3 c3).ownBlock = some k) (Mods.refl _ w5) (p := ⟨g3, 0, none⟩) rfl _
        have K1 : Sl (w5.setCell ⟨g3, 0, none⟩ (.string s)) (.slice (some ⟨g3, 0, none⟩) 3 c3) (Lx.strs (pqr.set 0 s)) := by
          have := Own.set H.out.n rfl 0 (.string s)
          rw [pqr_set] at this
          exact this.sl
        have HS : Small ⟨pqr.set 0 s, es⟩ := small_pqr sa _ s hss (by rw [List.length_set]; decide) (fun x hx => List.mem_or_eq_of_mem_set hx)
        have hgg : g3 < gt := H.out.ln g3 rfl
        have K2 := (H.out.e.strMods H.out.n hm).evs
        have K3 := (H.out.un.modsR hm (fun k hk q => by have h1 := Own.lt H.out.un k hk; have h2 := H.out.ln k q; omega)).sl
        have K4 := (H.out.ue.mods hm (fun k hk _ q => by have h2 := H.out.ln k q; omega)).evs
        have yt := hm.heap yt (fun q => Nat.lt_irrefl _ (H.out.ln _ q))
        have yu := hm.heap yu (fun q => Nat.lt_irrefl _ (Nat.lt_trans (H.out.ln _ q) htu))
        have hW := H.out.nw.ofMods hm (fun k q => Own.lt H.out.n k q)
        generalize w5.setCell ⟨g3, 0, none⟩ (.string s) = W at *
        have HT := hid (fun w' (h : Nw W w') => tells_c _ _ _ _ ⟨pqr.set 0 s, es⟩ ⟨pqr, es⟩ i s w' (K1.nw h) (K2.nw h) (K3.nw h) (K4.nw h) HS sa (by omega) (by omega))
        have d0 := heap_cell yt 0
        have d1 := heap_cell yt 1
        have e0 := heap_cell yu 0
        have e1 := heap_cell yu 1
        simp only [List.getElem?_toArray, List.getElem?_cons_succ, List.getElem?_cons_zero] at d0 d1 e0 e1
        clear yt yu K1 K2 K3 K4 HS
        go_wp2_with (first
          | (go_at_call 22; refine (HT.out _ (by repeat (first | assumption | exact Nw.refl _ | refine Nw.alloc ?_ _ | refine Nw.drew ?_ | refine Nw.drewN2 ?_ _ | (refine Nw.trans ?_ (by assumption))))).mono ?_; rintro e w6 ⟨rfl, hn6⟩)
          | (go_at_call 17; refine (awake_c _).mono ?_; rintro e w7 ⟨rfl, hn7⟩)
          | fail)
        go_ret
        exact ⟨rfl, hW.trans (by repeat (first | assumption | exact Nw.refl _ | refine Nw.alloc ?_ _ | refine Nw.drew ?_ | refine Nw.drewN2 ?_ _ | (refine Nw.trans ?_ (by assumption))))⟩
      · skip
        have hr3 : (at_ : Int) % 3 = 1 := by omega
        have hcell := Own.cell H.out.n rfl 1 (show 1 < (Lx.strs pqr).length by decide)
        have hfr := Own.frozen H.out.n rfl 1
        rw [show (Lx.strs pqr)[1]? = some (.string (pqr.getD 1 ⟨#[]⟩)) from rfl] at hcell
        clear hat
        go_upto_region 13 with fail
        have hm : Mods (fun k => (Value.slice (some ⟨g3, 0, none⟩) 3 c3).ownBlock = some k) w5 (w5.setCell ⟨g3, 1, none⟩ (.string s)) := Mods.setCell (S := fun k => (Value.slice (some ⟨g3, 0, none⟩) 3 c3).ownBlock = some k) (Mods.refl _ w5) (p := ⟨g3, 1, none⟩) rfl _
        have K1 : Sl (w5.setCell ⟨g3, 1, none⟩ (.string s)) (.slice (some ⟨g3, 0, none⟩) 3 c3) (Lx.strs (pqr.set 1 s)) := by
          have := Own.set H.out.n rfl 1 (.string s)
          rw [pqr_set] at this
          exact this.sl
        have HS : Small ⟨pqr.set 1 s, es⟩ := small_pqr sa _ s hss (by rw [List.length_set]; decide) (fun x hx => List.mem_or_eq_of_mem_set hx)
        have hgg : g3 < gt := H.out.ln g3 rfl
        have K2 := (H.out.e.strMods H.out.n hm).evs
        have K3 := (H.out.un.modsR hm (fun k hk q => by have h1 := Own.lt H.out.un k hk; have h2 := H.out.ln k q; omega)).sl
        have K4 := (H.out.ue.mods hm (fun k hk _ q => by have h2 := H.out.ln k q; omega)).evs
        have yt := hm.heap yt (fun q => Nat.lt_irrefl _ (H.out.ln _ q))
        have yu := hm.heap yu (fun q => Nat.lt_irrefl _ (Nat.lt_trans (H.out.ln _ q) htu))
        have hW := H.out.nw.ofMods hm (fun k q => Own.lt H.out.n k q)
        generalize w5.setCell ⟨g3, 1, none⟩ (.string s) = W at *
        have HT := hid (fun w' (h : Nw W w') => tells_c _ _ _ _ ⟨pqr.set 1 s, es⟩ ⟨pqr, es⟩ i s w' (K1.nw h) (K2.nw h) (K3.nw h) (K4.nw h) HS sa (by omega) (by omega))
        have d0 := heap_cell yt 0
        have d1 := heap_cell yt 1
        have e0 := heap_cell yu 0
        have e1 := heap_cell yu 1
        simp only [List.getElem?_toArray, List.getElem?_cons_succ, List.getElem?_cons_zero] at d0 d1 e0 e1
        clear yt yu K1 K2 K3 K4 HS
        go_wp2_with (first
          | (go_at_call 22; refine (HT.out _ (by repeat (first | assumption | exact Nw.refl _ | refine Nw.alloc ?_ _ | refine Nw.drew ?_ | refine Nw.drewN2 ?_ _ | (refine Nw.trans ?_ (by assumption))))).mono ?_; rintro e w6 ⟨rfl, hn6⟩)
          | (go_at_call 17; refine (awake_c _).mono ?_; rintro e w7 ⟨rfl, hn7⟩)
          | fail)
        go_ret
        exact ⟨rfl, hW.trans (by repeat (first | assumption | exact Nw.refl _ | refine Nw.alloc ?_ _ | refine Nw.drew ?_ | refine Nw.drewN2 ?_ _ | (refine Nw.trans ?_ (by assumption))))⟩
      · skip
        have hr3 : (at_ : Int) % 3 = 2 := by omega
        have hcell := Own.cell H.out.n rfl 2 (show 2 < (Lx.strs pqr).length by decide)
        have hfr := Own.frozen H.out.n rfl 2
        rw [show (Lx.strs pqr)[2]? = some (.string (pqr.getD 2 ⟨#[]⟩)) from rfl] at hcell
        clear hat
        go_upto_region 13 with fail
        have hm : Mods (fun k => (Value.slice (some ⟨g3, 0, none⟩) 3 c3).ownBlock = some k) w5 (w5.setCell ⟨g3, 2, none⟩ (.string s)) := Mods.setCell (S := fun k => (Value.slice (some ⟨g3, 0, none⟩) 3 c3).ownBlock = some k) (Mods.refl _ w5) (p := ⟨g3, 2, none⟩) rfl _
        have K1 : Sl (w5.setCell ⟨g3, 2, none⟩ (.string s)) (.slice (some ⟨g3, 0, none⟩) 3 c3) (Lx.strs (pqr.set 2 s)) := by
          have := Own.set H.out.n rfl 2 (.string s)
          rw [pqr_set] at this
          exact this.sl
        have HS : Small ⟨pqr.set 2 s, es⟩ := small_pqr sa _ s hss (by rw [List.length_set]; decide) (fun x hx => List.mem_or_eq_of_mem_set hx)
        have hgg : g3 < gt := H.out.ln g3 rfl
        have K2 := (H.out.e.strMods H.out.n hm).evs
        have K3 := (H.out.un.modsR hm (fun k hk q => by have h1 := Own.lt H.out.un k hk; have h2 := H.out.ln k q; omega)).sl
        have K4 := (H.out.ue.mods hm (fun k hk _ q => by have h2 := H.out.ln k q; omega)).evs
        have yt := hm.heap yt (fun q => Nat.lt_irrefl _ (H.out.ln _ q))
        have yu := hm.heap yu (fun q => Nat.lt_irrefl _ (Nat.lt_trans (H.out.ln _ q) htu))
        have hW := H.out.nw.ofMods hm (fun k q => Own.lt H.out.n k q)
        generalize w5.setCell ⟨g3, 2, none⟩ (.string s) = W at *
        have HT := hid (fun w' (h : Nw W w') => tells_c _ _ _ _ ⟨pqr.set 2 s, es⟩ ⟨pqr, es⟩ i s w' (K1.nw h) (K2.nw h) (K3.nw h) (K4.nw h) HS sa (by omega) (by omega))
        have d0 := heap_cell yt 0
        have d1 := heap_cell yt 1
        have e0 := heap_cell yu 0
        have e1 := heap_cell yu 1
        simp only [List.getElem?_toArray, List.getElem?_cons_succ, List.getElem?_cons_zero] at d0 d1 e0 e1
        clear yt yu K1 K2 K3 K4 HS
        go_wp2_with (first
          | (go_at_call 22; refine (HT.out _ (by repeat (first | assumption | exact Nw.refl _ | refine Nw.alloc ?_ _ | refine Nw.drew ?_ | refine Nw.drewN2 ?_ _ | (refine Nw.trans ?_ (by assumption))))).mono ?_; rintro e w6 ⟨rfl, hn6⟩)
          | (go_at_call 17; refine (awake_c _).mono ?_; rintro e w7 ⟨rfl, hn7⟩)
          | fail)
        go_ret
        exact ⟨rfl, hW.trans (by repeat (first | assumption | exact Nw.refl _ | refine Nw.alloc ?_ _ | refine Nw.drew ?_ | refine Nw.drewN2 ?_ _ | (refine Nw.trans ?_ (by assumption))))⟩
    · have hdA : ((what : Int) % 4 == 0) = false := beq_eq_false_iff_ne.2 (by omega)
      by_cases hB : what % 4 = 1
      · have hdB : ((what : Int) % 4 == 1) = true := by rw [beq_iff_eq]; omega
        clear hA hB hwh
        have hBs : w.heap.size ≤ (w5.alloc (.cells #[.string s] 9)).heap.size := ((H.out.nw).alloc _).size
        have hnA : Nw w5 (w5.alloc (.cells #[.string s] 9)) := (Nw.refl w5).alloc _
        have hgtA : gt < (w5.alloc (.cells #[.string s] 9)).heap.size := Nat.lt_of_lt_of_le (lt_of_heap yt) hnA.size
        go_upto_region 13 with (first
          | (at_builtin; refine app1g rfl _ _ _ rfl _ _ _ Try.underlying22 info_str rfl (by decide) hBs (H.out.n.nw hnA) rfl (Sl.new w5 [_] _ _ (by simp [maxLen])) rfl (by simp [Value.oneCell']) ?_ ?_; rotate_left; (show 3 + 1 ≤ 1099511627776; decide); intro v6 w6 hown6 hg6 hat6; obtain ⟨g6, c7, rfl⟩ := four_shape hown6; have hm6 : Mods (fun k => (Value.slice (some ⟨g3, 0, none⟩) 3 c3).ownBlock = some k) w5 w6 := Mods.grownIn (hnA.mods _) hg6 (fun k q => Or.inl q); have yt6 := hm6.heap yt (fun q => Nat.lt_irrefl _ (H.out.ln _ q)); have dt6 := heap_cell yt6 0; have ft6 := heap_frozen yt6 0; simp only [List.getElem?_toArray, List.getElem?_cons_zero] at dt6)
          | fail)
        have yu6 := hm6.heap yu (fun q => Nat.lt_irrefl _ (Nat.lt_trans (H.out.ln _ q) htu))
        have hg3 : g3 < gt := H.out.ln g3 rfl
        have hmc := mods_cell w6 gt 0 (.slice (some ⟨g6, 0, none⟩) 4 c7)
        have K1 : Sl (w6.setCell ⟨gt, 0, none⟩ (.slice (some ⟨g6, 0, none⟩) 4 c7)) (.slice (some ⟨g6, 0, none⟩) 4 c7) (Lx.strs (pqr ++ [s])) := (hown6.modsR hmc (row_not hown6 yt6 (by decide))).sl
        have HS : Small ⟨pqr ++ [s], es⟩ := small_pqr sa _ s hss (by simp; decide) (fun x hx => by simpa using hx)
        have K2 := ((H.out.e.strMods H.out.n hm6).offMods yt6 hmc).evs
        have K3 := ((H.out.un.modsR hm6 (fun k hk q => by have h1 := Own.lt H.out.un k hk; have h2 := H.out.ln k q; omega)).modsR hmc (fun k hk q => by have h1 := Own.lt H.out.un k hk; omega)).sl
        have K4 := ((H.out.ue.mods hm6 (fun k hk _ q => by have h2 := H.out.ln k q; omega)).mods hmc (fun k hk _ q => by omega)).evs
        have hgt0 : w.heap.size ≤ gt := Nat.le_trans (Own.lt H.out.n g3 rfl) (Nat.le_of_lt hg3)
        have hW := (H.out.nw.ofMods hm6 (fun k q => Own.lt H.out.n k q)).ofMods hmc (fun k q => by omega)
        have yt := heap_set yt6 0 (.slice (some ⟨g6, 0, none⟩) 4 c7)
        have yu := hmc.heap yu6 (by omega)
        generalize w6.setCell ⟨gt, 0, none⟩ (.slice (some ⟨g6, 0, none⟩) 4 c7) = W at *
        have HT := hid (fun w' (h : Nw W w') => tells_c _ _ _ _ ⟨pqr ++ [s], es⟩ ⟨pqr, es⟩ i s w' (K1.nw h) (K2.nw h) (K3.nw h) (K4.nw h) HS sa (by omega) (by omega))
        have d0 := heap_cell yt 0
        have d1 := heap_cell yt 1
        have e0 := heap_cell yu 0
        have e1 := heap_cell yu 1
        simp only [List.getElem?_toArray, List.getElem?_cons_succ, List.getElem?_cons_zero] at d0 d1 e0 e1
        clear yt yu K1 K2 K3 K4 HS
        go_wp2_with (first
          | (go_at_call 22; refine (HT.out _ (by repeat (first | assumption | exact Nw.refl _ | refine Nw.alloc ?_ _ | refine Nw.drew ?_ | refine Nw.drewN2 ?_ _ | (refine Nw.trans ?_ (by assumption))))).mono ?_; rintro e w6 ⟨rfl, hn6⟩)
          | (go_at_call 17; refine (awake_c _).mono ?_; rintro e w7 ⟨rfl, hn7⟩)
          | fail)
        go_ret
        exact ⟨rfl, hW.trans (by repeat (first | assumption | exact Nw.refl _ | refine Nw.alloc ?_ _ | refine Nw.drew ?_ | refine Nw.drewN2 ?_ _ | (refine Nw.trans ?_ (by assumption))))⟩
      · have hdB : ((what : Int) % 4 == 1) = false := beq_eq_false_iff_ne.2 (by omega)
        have hdC : ((List.length es : Int) == 0) = false := beq_eq_false_iff_ne.2 (by omega)
        by_cases hC : what % 4 = 2
        · have hdD : ((what : Int) % 4 == 2) = true := by rw [beq_iff_eq]; omega
          clear hA hB hC hwh
          obtain ⟨gE, cE, eE⟩ := H.out.e.opened hn
          cases eE
          have hcell := (H.out.e.cell0 rfl i hi).1
          have hfr := (H.out.e.cell0 rfl i hi).2 (i * 2)
          go_upto_region 13 with fail
          have K2 := H.out.e.time rfl i hi time
          have HS := small_time sa i time
          have hmc := mods_cell w5 gE (i * 2) (.int .u64 time)
          have hgE : gE < gt := H.out.le gE rfl
          have hgE0 : w.heap.size ≤ gE := by obtain ⟨vs, _, h2, _⟩ := H.out.e; exact (row_lt h2 gE rfl).1
          have K1 := (H.out.n.modsR hmc (fun k hk q => by obtain ⟨vs, _, h2, _⟩ := H.out.e; exact rows_ne h2 H.out.n (by decide) gE rfl (by rw [hk, q]))).sl
          have K3 := (H.out.un.modsR hmc (fun k hk q => by have h1 := Own.lt H.out.un k hk; omega)).sl
          have K4 := (H.out.ue.mods hmc (fun k hk _ q => by omega)).evs
          have hW := H.out.nw.ofMods hmc (fun k q => by omega)
          have yt := hmc.heap yt (by omega)
          have yu := hmc.heap yu (by omega)
          generalize w5.setCell ⟨gE, i * 2, none⟩ (.int .u64 time) = W at *
          have HT := hid (fun w' (h : Nw W w') => tells_c _ _ _ _ ⟨pqr, es.set i (time, ids es i)⟩ ⟨pqr, es⟩ i s w' (K1.nw h) (K2.nw h) (K3.nw h) (K4.nw h) HS sa (by omega) (by omega))
          have d0 := heap_cell yt 0
          have d1 := heap_cell yt 1
          have e0 := heap_cell yu 0
          have e1 := heap_cell yu 1
          simp only [List.getElem?_toArray, List.getElem?_cons_succ, List.getElem?_cons_zero] at d0 d1 e0 e1
          clear yt yu K1 K2 K3 K4 HS
          go_wp2_with (first
            | (go_at_call 22; refine (HT.out _ (by repeat (first | assumption | exact Nw.refl _ | refine Nw.alloc ?_ _ | refine Nw.drew ?_ | refine Nw.drewN2 ?_ _ | (refine Nw.trans ?_ (by assumption))))).mono ?_; rintro e w6 ⟨rfl, hn6⟩)
            | (go_at_call 17; refine (awake_c _).mono ?_; rintro e w7 ⟨rfl, hn7⟩)
            | fail)
          go_ret
          exact ⟨rfl, hW.trans (by repeat (first | assumption | exact Nw.refl _ | refine Nw.alloc ?_ _ | refine Nw.drew ?_ | refine Nw.drewN2 ?_ _ | (refine Nw.trans ?_ (by assumption))))⟩
        · have hdD : ((what : Int) % 4 == 2) = false := beq_eq_false_iff_ne.2 (by omega)
          clear hA hB hC hwh
          obtain ⟨gE, cE, eE⟩ := H.out.e.opened hn
          cases eE
          obtain ⟨w2', hs2, ⟨vs, hvl, hrow2, hall2, hapart⟩, hn2⟩ := H.out.p
          have hrow := hn2.ownsRow hrow2
          have hall := fun i hi => (hall2 i hi).nw hn2
          have HLT := hid (fun k hk => show k < gt from by rw [← hs2]; exact (row_lt (hall2 i hi) k hk).2)
          clear hrow2 hall2 hn2 hs2
          have hcell : w5.cell? ⟨gE, i * 2 + 1, none⟩ = some (vs.getD i undef) := (World.ownsRow.cellAt hrow (i * 2 + 1) (by omega)).trans (evc_at es vs i hvl hi).2
          have HK1 := hid (show i * 2 + 1 < es.length * 2 from by omega)
          have HK2 := hid ((evc_at es vs i hvl hi).2)
          have hfr := World.ownsRow.frozenAt hrow (i * 2 + 1)
          have hoi := hall i hi
          have hlen := HI3.out i hi
          have hsi := hoi.sl
          obtain ⟨q8, c8, e8, _⟩ := i64s_open hsi
          clear hsi
          have HV := hid e8
          rw [e8] at hcell hoi
          have HO := hid hoi
          have HR := hid hrow
          have HA := hid hall
          have HP := hid hapart
          clear hrow hall hapart hoi e8
          go_upto_region 6 with fail
          have hgE : gE < gt := H.out.le gE rfl
          have hBs : w.heap.size ≤ (w5.alloc (.cells #[.int .i64 id_] 3)).drew.heap.size := ((H.out.nw.alloc _).drew).size
          have hnA : Nw w5 (w5.alloc (.cells #[.int .i64 id_] 3)).drew := ((Nw.refl w5).alloc _).drew
          have h63 : (i64s (ids es i)).length + [Value.int .i64 id_].length ≤ 1099511627776 := by rw [i64s_length]; show (ids es i).length + 1 ≤ _; omega
          have hnA0 : Nw w5 (w5.alloc (.cells #[.int .i64 id_] 3)) := (Nw.refl w5).alloc _
          have hcellA := hnA0.cell hcell
          have dA1 := hnA0.cell d1
          clear hnA0
          go_region_law (refine step_app1 rfl _ _ _ rfl _ _ _ Try.underlying23 Tr.info_i64 rfl (by decide) hBs (HO.out.nw hnA) rfl ((Sl.new w5 [.int .i64 id_] 3 (0, 0) (by simp [maxLen])).nw ((Nw.refl _).drew)) rfl Nat.zero_lt_one (by simp [Value.oneCell']) h63 ?_; intro v9 w9 hown9 hg9 hat9; obtain ⟨q9, c9, rfl⟩ := ids_shape hown9; have hm9 : Mods (fun k => (Value.slice q8 (ids es i).length c8).ownBlock = some k) w5 w9 := Mods.grownIn (hnA.mods _) hg9 (fun k q => Or.inl q); have yt9 := hm9.heap yt (fun q => row_not HO.out yt (by decide) gt q rfl); have d19 := heap_cell yt9 1; have hr9 := row_mods HR.out hm9 (fun k hk q => EvIn_apart HR.out HO.out k q hk); have k9 := World.ownsRow.cellAt hr9 (i * 2 + 1) (HK1.out); rw [HK2.out] at k9; have f9 := World.ownsRow.frozenAt hr9 (i * 2 + 1); simp only [List.getElem?_toArray, List.getElem?_cons_succ, List.getElem?_cons_zero] at d19)
          all_goals
            clear hcell hfr hcellA dA1 d0 d1 f0 f1 k9 f9 d19
            have hmc := mods_cell w9 gE (i * 2 + 1) (.slice q9 ((ids es i).length + 1) c9)
            have K2 := EvAp.grown hvl HR.out HA.out HP.out rfl i hi (l := ids es i ++ [id_]) (by have := hown9; rw [show i64s (ids es i) ++ [Value.int .i64 id_] = i64s (ids es i ++ [id_]) by simp [i64s]] at this; exact this) (by rw [HV.out]; exact hm9) (fun k hk => by
              rw [HV.out]
              rcases hat9 with e | e
              · left; rw [← e]; exact hk
              · right
                rw [e] at hk
                have := hnA.size
                simp only [Option.some.injEq] at hk
                omega)
            have HS := small_ids sa i (tm es i) (ids es i ++ [id_]) (by rw [List.length_append, List.length_singleton]; omega)
            have K1 := ((H.out.n.modsR hm9 (rows_ne H.out.n HO.out (by decide))).modsR hmc (fun k hk q => rows_ne HR.out H.out.n (by decide) gE rfl (by rw [hk, q]))).sl
            have K3 := ((H.out.un.modsR hm9 (rows_ne H.out.un HO.out (by decide))).modsR hmc (fun k hk q => by have h1 := Own.lt H.out.un k hk; omega)).sl
            have K4 := ((H.out.ue.mods hm9 (fun k hk _ q => by have h2 := HLT.out k (by rw [HV.out]; exact q); omega)).mods hmc (fun k hk _ q => by omega)).evs
            have hgE0 : w.heap.size ≤ gE := (row_lt HR.out gE rfl).1
            have hW := (H.out.nw.ofMods hm9 (fun k q => Own.lt HO.out k q)).ofMods hmc (fun k q => by omega)
            have yu9 := hm9.heap yu (fun q => row_not HO.out yu (by decide) gu q rfl)
            have yt := hmc.heap yt9 (by omega)
            have yu := hmc.heap yu9 (by omega)
            clear hown9 hm9 hat9 hg9 hr9 yt9 yu9 hmc
            generalize w9.setCell ⟨gE, i * 2 + 1, none⟩ (.slice q9 ((ids es i).length + 1) c9) = W at *
            simp only [Exit.inBlock]
            have HT := hid (fun w' (h : Nw W w') => tells_c _ _ _ _ ⟨pqr, es.set i (tm es i, ids es i ++ [id_])⟩ ⟨pqr, es⟩ i s w' (K1.nw h) (K2.nw h) (K3.nw h) (K4.nw h) HS sa (by omega) (by omega))
            have d0 := heap_cell yt 0
            have d1 := heap_cell yt 1
            have e0 := heap_cell yu 0
            have e1 := heap_cell yu 1
            simp only [List.getElem?_toArray, List.getElem?_cons_succ, List.getElem?_cons_zero] at d0 d1 e0 e1
            clear yt yu K1 K2 K3 K4 HS
            go_wp2_with (first
              | (go_at_call 22; refine (HT.out _ (by repeat (first | assumption | exact Nw.refl _ | refine Nw.alloc ?_ _ | refine Nw.drew ?_ | refine Nw.drewN2 ?_ _ | (refine Nw.trans ?_ (by assumption))))).mono ?_; rintro e w6 ⟨rfl, hn6⟩)
              | (go_at_call 17; refine (awake_c _).mono ?_; rintro e w7 ⟨rfl, hn7⟩)
              | fail)
            go_ret
            exact ⟨rfl, hW.trans (by repeat (first | assumption | exact Nw.refl _ | refine Nw.alloc ?_ _ | refine Nw.drew ?_ | refine Nw.drewN2 ?_ _ | (refine Nw.trans ?_ (by assumption))))⟩
  · have hdn : decide ((0 : Int) < List.length es) = false := decide_eq_false (by omega)
    have hdn2 : decide (0 < List.length es) = false := decide_eq_false hn
    have d1 := heap_cell yt 1
    simp only [List.getElem?_toArray, List.getElem?_cons_succ, List.getElem?_cons_zero] at d1
    go_upto_region 7 with fail
    have d0 := heap_cell yt 0
    simp only [List.getElem?_toArray, List.getElem?_cons_succ, List.getElem?_cons_zero] at d0
    by_cases hA : what % 4 = 0
    · have hdA : ((what : Int) % 4 == 0) = true := by rw [beq_iff_eq]; omega
      have hr : at_ % 3 = 0 ∨ at_ % 3 = 1 ∨ at_ % 3 = 2 := by omega
      clear hA hwh
      rcases hr with hr | hr | hr
      · skip
        have hr3 : (at_ : Int) % 3 = 0 := by omega
        have hcell := Own.cell H.out.n rfl 0 (show 0 < (Lx.strs pqr).length by decide)
        have hfr := Own.frozen H.out.n rfl 0
        rw [show (Lx.strs pqr)[0]? = some (.string (pqr.getD 0 ⟨#[]⟩)) from rfl] at hcell
        clear hat
        go_upto_region 13 with fail
        have hm : Mods (fun k => (Value.slice (some ⟨g3, 0, none⟩) 3 c3).ownBlock = some k) w5 (w5.setCell ⟨g3, 0, none⟩ (.string s)) := Mods.setCell (S := fun k => (Value.slice (some ⟨g3, 0, none⟩) 3 c3).ownBlock = some k) (Mods.refl _ w5) (p := ⟨g3, 0, none⟩) rfl _
        have K1 : Sl (w5.setCell ⟨g3, 0, none⟩ (.string s)) (.slice (some ⟨g3, 0, none⟩) 3 c3) (Lx.strs (pqr.set 0 s)) := by
          have := Own.set H.out.n rfl 0 (.string s)
          rw [pqr_set] at this
          exact this.sl
        have HS : Small ⟨pqr.set 0 s, es⟩ := small_pqr sa _ s hss (by rw [List.length_set]; decide) (fun x hx => List.mem_or_eq_of_mem_set hx)
        have hgg : g3 < gt := H.out.ln g3 rfl
        have K2 := (H.out.e.strMods H.out.n hm).evs
        have K3 := (H.out.un.modsR hm (fun k hk q => by have h1 := Own.lt H.out.un k hk; have h2 := H.out.ln k q; omega)).sl
        have K4 := (H.out.ue.mods hm (fun k hk _ q => by have h2 := H.out.ln k q; omega)).evs
        have yt := hm.heap yt (fun q => Nat.lt_irrefl _ (H.out.ln _ q))
        have yu := hm.heap yu (fun q => Nat.lt_irrefl _ (Nat.lt_trans (H.out.ln _ q) htu))
        have hW := H.out.nw.ofMods hm (fun k q => Own.lt H.out.n k q)
        generalize w5.setCell ⟨g3, 0, none⟩ (.string s) = W at *
        have HT := hid (fun w' (h : Nw W w') => tells_c _ _ _ _ ⟨pqr.set 0 s, es⟩ ⟨pqr, es⟩ 0 s w' (K1.nw h) (K2.nw h) (K3.nw h) (K4.nw h) HS sa (by omega) (by omega))
        have d0 := heap_cell yt 0
        have d1 := heap_cell yt 1
        have e0 := heap_cell yu 0
        have e1 := heap_cell yu 1
        simp only [List.getElem?_toArray, List.getElem?_cons_succ, List.getElem?_cons_zero] at d0 d1 e0 e1
        clear yt yu K1 K2 K3 K4 HS
        go_wp2_with (first
          | (go_at_call 22; refine (HT.out _ (by repeat (first | assumption | exact Nw.refl _ | refine Nw.alloc ?_ _ | refine Nw.drew ?_ | refine Nw.drewN2 ?_ _ | (refine Nw.trans ?_ (by assumption))))).mono ?_; rintro e w6 ⟨rfl, hn6⟩)
          | (go_at_call 17; refine (awake_c _).mono ?_; rintro e w7 ⟨rfl, hn7⟩)
          | fail)
        go_ret
        exact ⟨rfl, hW.trans (by repeat (first | assumption | exact Nw.refl _ | refine Nw.alloc ?_ _ | refine Nw.drew ?_ | refine Nw.drewN2 ?_ _ | (refine Nw.trans ?_ (by assumption))))⟩
      · skip
        have hr3 : (at_ : Int) % 3 = 1 := by omega
        have hcell := Own.cell H.out.n rfl 1 (show 1 < (Lx.strs pqr).length by decide)
        have hfr := Own.frozen H.out.n rfl 1
        rw [show (Lx.strs pqr)[1]? = some (.string (pqr.getD 1 ⟨#[]⟩)) from rfl] at hcell
        clear hat
        go_upto_region 13 with fail
        have hm : Mods (fun k => (Value.slice (some ⟨g3, 0, none⟩) 3 c3).ownBlock = some k) w5 (w5.setCell ⟨g3, 1, none⟩ (.string s)) := Mods.setCell (S := fun k => (Value.slice (some ⟨g3, 0, none⟩) 3 c3).ownBlock = some k) (Mods.refl _ w5) (p := ⟨g3, 1, none⟩) rfl _
        have K1 : Sl (w5.setCell ⟨g3, 1, none⟩ (.string s)) (.slice (some ⟨g3, 0, none⟩) 3 c3) (Lx.strs (pqr.set 1 s)) := by
          have := Own.set H.out.n rfl 1 (.string s)
          rw [pqr_set] at this
          exact this.sl
        have HS : Small ⟨pqr.set 1 s, es⟩ := small_pqr sa _ s hss (by rw [List.length_set]; decide) (fun x hx => List.mem_or_eq_of_mem_set hx)
        have hgg : g3 < gt := H.out.ln g3 rfl
        have K2 := (H.out.e.strMods H.out.n hm).evs
        have K3 := (H.out.un.modsR hm (fun k hk q => by have h1 := Own.lt H.out.un k hk; have h2 := H.out.ln k q; omega)).sl
        have K4 := (H.out.ue.mods hm (fun k hk _ q => by have h2 := H.out.ln k q; omega)).evs
        have yt := hm.heap yt (fun q => Nat.lt_irrefl _ (H.out.ln _ q))
        have yu := hm.heap yu (fun q => Nat.lt_irrefl _ (Nat.lt_trans (H.out.ln _ q) htu))
        have hW := H.out.nw.ofMods hm (fun k q => Own.lt H.out.n k q)
        generalize w5.setCell ⟨g3, 1, none⟩ (.string s) = W at *
        have HT := hid (fun w' (h : Nw W w') => tells_c _ _ _ _ ⟨pqr.set 1 s, es⟩ ⟨pqr, es⟩ 0 s w' (K1.nw h) (K2.nw h) (K3.nw h) (K4.nw h) HS sa (by omega) (by omega))
        have d0 := heap_cell yt 0
        have d1 := heap_cell yt 1
        have e0 := heap_cell yu 0
        have e1 := heap_cell yu 1
        simp only [List.getElem?_toArray, List.getElem?_cons_succ, List.getElem?_cons_zero] at d0 d1 e0 e1
        clear yt yu K1 K2 K3 K4 HS
        go_wp2_with (first
          | (go_at_call 22; refine (HT.out _ (by repeat (first | assumption | exact Nw.refl _ | refine Nw.alloc ?_ _ | refine Nw.drew ?_ | refine Nw.drewN2 ?_ _ | (refine Nw.trans ?_ (by assumption))))).mono ?_; rintro e w6 ⟨rfl, hn6⟩)
          | (go_at_call 17; refine (awake_c _).mono ?_; rintro e w7 ⟨rfl, hn7⟩)
          | fail)
        go_ret
        exact ⟨rfl, hW.trans (by repeat (first | assumption | exact Nw.refl _ | refine Nw.alloc ?_ _ | refine Nw.drew ?_ | refine Nw.drewN2 ?_ _ | (refine Nw.trans ?_ (by assumption))))⟩
      · skip
        have hr3 : (at_ : Int) % 3 = 2 := by omega
        have hcell := Own.cell H.out.n rfl 2 (show 2 < (Lx.strs pqr).length by decide)
        have hfr := Own.frozen H.out.n rfl 2
        rw [show (Lx.strs pqr)[2]? = some (.string (pqr.getD 2 ⟨#[]⟩)) from rfl] at hcell
        clear hat
        go_upto_region 13 with fail
        have hm : Mods (fun k => (Value.slice (some ⟨g3, 0, none⟩) 3 c3).ownBlock = some k) w5 (w5.setCell ⟨g3, 2, none⟩ (.string s)) := Mods.setCell (S := fun k => (Value.slice (some ⟨g3, 0, none⟩) 3 c3).ownBlock = some k) (Mods.refl _ w5) (p := ⟨g3, 2, none⟩) rfl _
        have K1 : Sl (w5.setCell ⟨g3, 2, none⟩ (.string s)) (.slice (some ⟨g3, 0, none⟩) 3 c3) (Lx.strs (pqr.set 2 s)) := by
          have := Own.set H.out.n rfl 2 (.string s)
          rw [pqr_set] at this
          exact this.sl
        have HS : Small ⟨pqr.set 2 s, es⟩ := small_pqr sa _ s hss (by rw [List.length_set]; decide) (fun x hx => List.mem_or_eq_of_mem_set hx)
        have hgg : g3 < gt := H.out.ln g3 rfl
        have K2 := (H.out.e.strMods H.out.n hm).evs
        have K3 := (H.out.un.modsR hm (fun k hk q => by have h1 := Own.lt H.out.un k hk; have h2 := H.out.ln k q; omega)).sl
        have K4 := (H.out.ue.mods hm (fun k hk _ q => by have h2 := H.out.ln k q; omega)).evs
        have yt := hm.heap yt (fun q => Nat.lt_irrefl _ (H.out.ln _ q))
        have yu := hm.heap yu (fun q => Nat.lt_irrefl _ (Nat.lt_trans (H.out.ln _ q) htu))
        have hW := H.out.nw.ofMods hm (fun k q => Own.lt H.out.n k q)
        generalize w5.setCell ⟨g3, 2, none⟩ (.string s) = W at *
        have HT := hid (fun w' (h : Nw W w') => tells_c _ _ _ _ ⟨pqr.set 2 s, es⟩ ⟨pqr, es⟩ 0 s w' (K1.nw h) (K2.nw h) (K3.nw h) (K4.nw h) HS sa (by omega) (by omega))
        have d0 := heap_cell yt 0
        have d1 := heap_cell yt 1
        have e0 := heap_cell yu 0
        have e1 := heap_cell yu 1
        simp only [List.getElem?_toArray, List.getElem?_cons_succ, List.getElem?_cons_zero] at d0 d1 e0 e1
        clear yt yu K1 K2 K3 K4 HS
        go_wp2_with (first
          | (go_at_call 22; refine (HT.out _ (by repeat (first | assumption | exact Nw.refl _ | refine Nw.alloc ?_ _ | refine Nw.drew ?_ | refine Nw.drewN2 ?_ _ | (refine Nw.trans ?_ (by assumption))))).mono ?_; rintro e w6 ⟨rfl, hn6⟩)
          | (go_at_call 17; refine (awake_c _).mono ?_; rintro e w7 ⟨rfl, hn7⟩)
          | fail)
        go_ret
        exact ⟨rfl, hW.trans (by repeat (first | assumption | exact Nw.refl _ | refine Nw.alloc ?_ _ | refine Nw.drew ?_ | refine Nw.drewN2 ?_ _ | (refine Nw.trans ?_ (by assumption))))⟩
    · have hdA : ((what : Int) % 4 == 0) = false := beq_eq_false_iff_ne.2 (by omega)
      by_cases hB : what % 4 = 1
      · have hdB : ((what : Int) % 4 == 1) = true := by rw [beq_iff_eq]; omega
        clear hA hB hwh
        have hBs : w.heap.size ≤ (w5.alloc (.cells #[.string s] 9)).heap.size := ((H.out.nw).alloc _).size
        have hnA : Nw w5 (w5.alloc (.cells #[.string s] 9)) := (Nw.refl w5).alloc _
        have hgtA : gt < (w5.alloc (.cells #[.string s] 9)).heap.size := Nat.lt_of_lt_of_le (lt_of_heap yt) hnA.size
        go_upto_region 13 with (first
          | (at_builtin; refine app1g rfl _ _ _ rfl _ _ _ Try.underlying22 info_str rfl (by decide) hBs (H.out.n.nw hnA) rfl (Sl.new w5 [_] _ _ (by simp [maxLen])) rfl (by simp [Value.oneCell']) ?_ ?_; rotate_left; (show 3 + 1 ≤ 1099511627776; decide); intro v6 w6 hown6 hg6 hat6; obtain ⟨g6, c7, rfl⟩ := four_shape hown6; have hm6 : Mods (fun k => (Value.slice (some ⟨g3, 0, none⟩) 3 c3).ownBlock = some k) w5 w6 := Mods.grownIn (hnA.mods _) hg6 (fun k q => Or.inl q); have yt6 := hm6.heap yt (fun q => Nat.lt_irrefl _ (H.out.ln _ q)); have dt6 := heap_cell yt6 0; have ft6 := heap_frozen yt6 0; simp only [List.getElem?_toArray, List.getElem?_cons_zero] at dt6)
          | fail)
        have yu6 := hm6.heap yu (fun q => Nat.lt_irrefl _ (Nat.lt_trans (H.out.ln _ q) htu))
        have hg3 : g3 < gt := H.out.ln g3 rfl
        have hmc := mods_cell w6 gt 0 (.slice (some ⟨g6, 0, none⟩) 4 c7)
        have K1 : Sl (w6.setCell ⟨gt, 0, none⟩ (.slice (some ⟨g6, 0, none⟩) 4 c7)) (.slice (some ⟨g6, 0, none⟩) 4 c7) (Lx.strs (pqr ++ [s])) := (hown6.modsR hmc (row_not hown6 yt6 (by decide))).sl
        have HS : Small ⟨pqr ++ [s], es⟩ := small_pqr sa _ s hss (by simp; decide) (fun x hx => by simpa using hx)
        have K2 := ((H.out.e.strMods H.out.n hm6).offMods yt6 hmc).evs
        have K3 := ((H.out.un.modsR hm6 (fun k hk q => by have h1 := Own.lt H.out.un k hk; have h2 := H.out.ln k q; omega)).modsR hmc (fun k hk q => by have h1 := Own.lt H.out.un k hk; omega)).sl
        have K4 := ((H.out.ue.mods hm6 (fun k hk _ q => by have h2 := H.out.ln k q; omega)).mods hmc (fun k hk _ q => by omega)).evs
        have hgt0 : w.heap.size ≤ gt := Nat.le_trans (Own.lt H.out.n g3 rfl) (Nat.le_of_lt hg3)
        have hW := (H.out.nw.ofMods hm6 (fun k q => Own.lt H.out.n k q)).ofMods hmc (fun k q => by omega)
        have yt := heap_set yt6 0 (.slice (some ⟨g6, 0, none⟩) 4 c7)
        have yu := hmc.heap yu6 (by omega)
        generalize w6.setCell ⟨gt, 0, none⟩ (.slice (some ⟨g6, 0, none⟩) 4 c7) = W at *
        have HT := hid (fun w' (h : Nw W w') => tells_c _ _ _ _ ⟨pqr ++ [s], es⟩ ⟨pqr, es⟩ 0 s w' (K1.nw h) (K2.nw h) (K3.nw h) (K4.nw h) HS sa (by omega) (by omega))
        have d0 := heap_cell yt 0
        have d1 := heap_cell yt 1
        have e0 := heap_cell yu 0
        have e1 := heap_cell yu 1
        simp only [List.getElem?_toArray, List.getElem?_cons_succ, List.getElem?_cons_zero] at d0 d1 e0 e1
        clear yt yu K1 K2 K3 K4 HS
        go_wp2_with (first
          | (go_at_call 22; refine (HT.out _ (by repeat (first | assumption | exact Nw.refl _ | refine Nw.alloc ?_ _ | refine Nw.drew ?_ | refine Nw.drewN2 ?_ _ | (refine Nw.trans ?_ (by assumption))))).mono ?_; rintro e w6 ⟨rfl, hn6⟩)
          | (go_at_call 17; refine (awake_c _).mono ?_; rintro e w7 ⟨rfl, hn7⟩)
          | fail)
        go_ret
        exact ⟨rfl, hW.trans (by repeat (first | assumption | exact Nw.refl _ | refine Nw.alloc ?_ _ | refine Nw.drew ?_ | refine Nw.drewN2 ?_ _ | (refine Nw.trans ?_ (by assumption))))⟩
      · have hdB : ((what : Int) % 4 == 1) = false := beq_eq_false_iff_ne.2 (by omega)
        have hdC : ((List.length es : Int) == 0) = true := by rw [beq_iff_eq]; omega
        clear hA hB hwh
        have hBs : w.heap.size ≤ (w5.alloc (.cells #[.string s] 9)).heap.size := ((H.out.nw).alloc _).size
        have hnA : Nw w5 (w5.alloc (.cells #[.string s] 9)) := (Nw.refl w5).alloc _
        have hgtA : gt < (w5.alloc (.cells #[.string s] 9)).heap.size := Nat.lt_of_lt_of_le (lt_of_heap yt) hnA.size
        go_upto_region 13 with (first
          | (at_builtin; refine app1g rfl _ _ _ rfl _ _ _ Try.underlying22 info_str rfl (by decide) hBs (H.out.n.nw hnA) rfl (Sl.new w5 [_] _ _ (by simp [maxLen])) rfl (by simp [Value.oneCell']) ?_ ?_; rotate_left; (show 3 + 1 ≤ 1099511627776; decide); intro v6 w6 hown6 hg6 hat6; obtain ⟨g6, c7, rfl⟩ := four_shape hown6; have hm6 : Mods (fun k => (Value.slice (some ⟨g3, 0, none⟩) 3 c3).ownBlock = some k) w5 w6 := Mods.grownIn (hnA.mods _) hg6 (fun k q => Or.inl q); have yt6 := hm6.heap yt (fun q => Nat.lt_irrefl _ (H.out.ln _ q)); have dt6 := heap_cell yt6 0; have ft6 := heap_frozen yt6 0; simp only [List.getElem?_toArray, List.getElem?_cons_zero] at dt6)
          | fail)
        have yu6 := hm6.heap yu (fun q => Nat.lt_irrefl _ (Nat.lt_trans (H.out.ln _ q) htu))
        have hg3 : g3 < gt := H.out.ln g3 rfl
        have hmc := mods_cell w6 gt 0 (.slice (some ⟨g6, 0, none⟩) 4 c7)
        have K1 : Sl (w6.setCell ⟨gt, 0, none⟩ (.slice (some ⟨g6, 0, none⟩) 4 c7)) (.slice (some ⟨g6, 0, none⟩) 4 c7) (Lx.strs (pqr ++ [s])) := (hown6.modsR hmc (row_not hown6 yt6 (by decide))).sl
        have HS : Small ⟨pqr ++ [s], es⟩ := small_pqr sa _ s hss (by simp; decide) (fun x hx => by simpa using hx)
        have K2 := ((H.out.e.strMods H.out.n hm6).offMods yt6 hmc).evs
        have K3 := ((H.out.un.modsR hm6 (fun k hk q => by have h1 := Own.lt H.out.un k hk; have h2 := H.out.ln k q; omega)).modsR hmc (fun k hk q => by have h1 := Own.lt H.out.un k hk; omega)).sl
        have K4 := ((H.out.ue.mods hm6 (fun k hk _ q => by have h2 := H.out.ln k q; omega)).mods hmc (fun k hk _ q => by omega)).evs
        have hgt0 : w.heap.size ≤ gt := Nat.le_trans (Own.lt H.out.n g3 rfl) (Nat.le_of_lt hg3)
        have hW := (H.out.nw.ofMods hm6 (fun k q => Own.lt H.out.n k q)).ofMods hmc (fun k q => by omega)
        have yt := heap_set yt6 0 (.slice (some ⟨g6, 0, none⟩) 4 c7)
        have yu := hmc.heap yu6 (by omega)
        generalize w6.setCell ⟨gt, 0, none⟩ (.slice (some ⟨g6, 0, none⟩) 4 c7) = W at *
        have HT := hid (fun w' (h : Nw W w') => tells_c _ _ _ _ ⟨pqr ++ [s], es⟩ ⟨pqr, es⟩ 0 s w' (K1.nw h) (K2.nw h) (K3.nw h) (K4.nw h) HS sa (by omega) (by omega))
        have d0 := heap_cell yt 0
        have d1 := heap_cell yt 1
        have e0 := heap_cell yu 0
        have e1 := heap_cell yu 1
        simp only [List.getElem?_toArray, List.getElem?_cons_succ, List.getElem?_cons_zero] at d0 d1 e0 e1
        clear yt yu K1 K2 K3 K4 HS
        go_wp2_with (first
          | (go_at_call 22; refine (HT.out _ (by repeat (first | assumption | exact Nw.refl _ | refine Nw.alloc ?_ _ | refine Nw.drew ?_ | refine Nw.drewN2 ?_ _ | (refine Nw.trans ?_ (by assumption))))).mono ?_; rintro e w6 ⟨rfl, hn6⟩)
          | (go_at_call 17; refine (awake_c _).mono ?_; rintro e w7 ⟨rfl, hn7⟩)
          | fail)
        go_ret
        exact ⟨rfl, hW.trans (by repeat (first | assumption | exact Nw.refl _ | refine Nw.alloc ?_ _ | refine Nw.drew ?_ | refine Nw.drewN2 ?_ _ | (refine Nw.trans ?_ (by assumption))))⟩
end Tr
end Go.Proofs.Ytjelbfodkacipaa
