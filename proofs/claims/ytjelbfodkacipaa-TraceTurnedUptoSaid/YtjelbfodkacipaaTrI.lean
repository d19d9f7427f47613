/- The contracts of Holds, both. No condition but lengths. -/
import Derived.Test.YtjelbfodkacipaaTrH
set_option linter.unusedSimpArgs false
set_option linter.unusedVariables false
namespace Go.Proofs.Ytjelbfodkacipaa
open Go.ChangeShapes Go.WideShapes Go.ChangeAt Go.RowKit
namespace Tr
open Go.Proofs.Ytjelbfodkacipaa.Lx (isIn nameB strs_open strs_cell contains_c)
open Go.Proofs.Ytjelbfodkacipaa.Rec (rises i64s_open i64_cell)
def holdsP (t : T) (i : Int) (s : ByteArray) : Bool := mayP t && (decide (0 ≤ i) && (decide (i < t.evs.length) && decide (idxP t.names s ∈ ids t.evs i.toNat)))
theorem may_rises {t : T} (h : mayP t = true) (k : Nat) (hk : k < t.evs.length) : rises (ids t.evs k) t.names.length = true := by
  unfold mayP at h
  rw [Bool.and_eq_true] at h
  have := (List.all_eq_true.1 h.2) k (List.mem_range.2 hk)
  unfold eOk at this
  rw [Bool.and_eq_true] at this
  exact this.1
theorem may_ge {t : T} (h : mayP t = true) (k : Nat) (hk : k < t.evs.length) (x : Int) (hx : x ∈ ids t.evs k) : 0 ≤ x := (Rec.rises_mem (may_rises h k hk) x hx).1
theorem holds_at (t : T) (k : Nat) (s : ByteArray) (h : mayP t = true) (hk : k < t.evs.length) : holdsP t (k : Int) s = decide (idxP t.names s ∈ ids t.evs k) := by
  unfold holdsP
  rw [h, decide_eq_true (by omega), decide_eq_true (by omega)]
  simp
theorem holds_no (t : T) (i : Int) (s : ByteArray) (h : i < 0 ∨ (t.evs.length : Int) ≤ i ∨ mayP t = false) : holdsP t i s = false := by
  unfold holdsP
  rcases h with h | h | h
  · rw [decide_eq_false (show ¬ 0 ≤ i by omega)]; simp
  · rw [decide_eq_false (show ¬ i < t.evs.length by omega)]; simp
  · rw [h]; rfl
set_option maxRecDepth 20000 in
set_option maxHeartbeats 1600000 in
theorem holds_c (vn ve : Value) (t : T) (i : Int) (s : ByteArray) (w : World) (hvn : Sl w vn (Lx.strs t.names)) (hve : Evs w ve t.evs) (hsm : Small t) :
    Calls Try.prog 26 #[.agg #[vn, ve], .int .i64 i, .string s] w (Gives (.bool (holdsP t i s)) w) := by
  have HM := hid (fun w' (h : Nw w w') => may_c vn ve t w' (hvn.nw h) (hve.nw h) hsm.s)
  have HIX := hid (fun w' (h : Nw w w') => index_c vn t.names s w' (hvn.nw h))
  obtain ⟨pn, capn, rfl, hcapn, hmxn, _, hcn⟩ := strs_open hvn
  obtain ⟨p, cap, rfl, hcap, hmx, hp0, hec⟩ := hve
  have HE := hid hec
  unfold maxLen at hmxn hmx
  clear hec hcn hsm hvn
  have hbx := box2 w (.slice pn t.names.length capn) (.slice p t.evs.length cap) 26
  by_cases h1 : i < 0
  · have hd1 : decide (i < 0) = true := decide_eq_true h1
    have HF := hid (holds_no t i s (Or.inl h1))
    clear HIX
    go_enter Try.func26, Try.ntmps26
    go_upto_region 1 with fail
    obtain ⟨x0, x1⟩ := hbx
    have hn := (Nw.refl w).alloc (.cells #[.slice pn t.names.length capn, .slice p t.evs.length cap] 26)
    have hz0 := lt_alloc w (.cells #[.slice pn t.names.length capn, .slice p t.evs.length cap] 26)
    generalize (w.alloc (.cells #[.slice pn t.names.length capn, .slice p t.evs.length cap] 26)) = w0 at *
    go_wp2_with (first
      | (go_at_call 24; refine (HM.out _ (by repeat (first | assumption | exact Nw.refl _ | refine Nw.alloc ?_ _ | refine Nw.drew ?_ | refine Nw.drewN2 ?_ _ | (refine Nw.trans ?_ (by assumption))))).mono ?_; rintro e w1 ⟨rfl, hn1⟩; have x0 := hn1.cell x0; have x1 := hn1.cell x1; have hz1 : w.heap.size < w1.heap.size := Nat.lt_of_lt_of_le hz0 hn1.size)
      | fail)
    go_ret
    exact Gives.b HF.out.symm (by repeat (first | assumption | exact Nw.refl _ | refine Nw.alloc ?_ _ | refine Nw.drew ?_ | refine Nw.drewN2 ?_ _ | (refine Nw.trans ?_ (by assumption))))
  · by_cases h2 : (t.evs.length : Int) ≤ i
    · have hd1 : decide (i < 0) = false := decide_eq_false h1
      have hd2 : decide ((t.evs.length : Int) ≤ i) = true := decide_eq_true h2
      have HF := hid (holds_no t i s (Or.inr (Or.inl h2)))
      clear HIX h1
      go_enter Try.func26, Try.ntmps26
      go_upto_region 1 with fail
      obtain ⟨x0, x1⟩ := hbx
      have hn := (Nw.refl w).alloc (.cells #[.slice pn t.names.length capn, .slice p t.evs.length cap] 26)
      have hz0 := lt_alloc w (.cells #[.slice pn t.names.length capn, .slice p t.evs.length cap] 26)
      generalize (w.alloc (.cells #[.slice pn t.names.length capn, .slice p t.evs.length cap] 26)) = w0 at *
      go_wp2_with (first
        | (go_at_call 24; refine (HM.out _ (by repeat (first | assumption | exact Nw.refl _ | refine Nw.alloc ?_ _ | refine Nw.drew ?_ | refine Nw.drewN2 ?_ _ | (refine Nw.trans ?_ (by assumption))))).mono ?_; rintro e w1 ⟨rfl, hn1⟩; have x0 := hn1.cell x0; have x1 := hn1.cell x1; have hz1 : w.heap.size < w1.heap.size := Nat.lt_of_lt_of_le hz0 hn1.size)
        | fail)
      go_ret
      exact Gives.b HF.out.symm (by repeat (first | assumption | exact Nw.refl _ | refine Nw.alloc ?_ _ | refine Nw.drew ?_ | refine Nw.drewN2 ?_ _ | (refine Nw.trans ?_ (by assumption))))
    · obtain ⟨k, rfl⟩ : ∃ k : Nat, i = k := ⟨i.toNat, by omega⟩
      have hk : k < t.evs.length := by omega
      have hd1 : decide ((k : Int) < 0) = false := decide_eq_false h1
      have hd2 : decide ((t.evs.length : Int) ≤ k) = false := decide_eq_false h2
      have hd2n : decide (t.evs.length ≤ k) = false := decide_eq_false (by omega)
      clear h1 h2
      by_cases hM : mayP t = true
      · have HF := hid (holds_at t k s hM hk)
        go_enter Try.func26, Try.ntmps26
        go_upto_region 1 with fail
        obtain ⟨x0, x1⟩ := hbx
        have hn := (Nw.refl w).alloc (.cells #[.slice pn t.names.length capn, .slice p t.evs.length cap] 26)
        have hz0 := lt_alloc w (.cells #[.slice pn t.names.length capn, .slice p t.evs.length cap] 26)
        generalize (w.alloc (.cells #[.slice pn t.names.length capn, .slice p t.evs.length cap] 26)) = w0 at *
        obtain ⟨b1, o1, vi, rfl, c0, c1, hsl⟩ := HE.out k hk
        go_upto_region 3 with (first
          | (go_at_call 24; refine (HM.out _ (by repeat (first | assumption | exact Nw.refl _ | refine Nw.alloc ?_ _ | refine Nw.drew ?_ | refine Nw.drewN2 ?_ _ | (refine Nw.trans ?_ (by assumption))))).mono ?_; rintro e w1 ⟨rfl, hn1⟩; have x0 := hn1.cell x0; have x1 := hn1.cell x1; have hz1 : w.heap.size < w1.heap.size := Nat.lt_of_lt_of_le hz0 hn1.size)
          | fail)
        have e1 := (hn.trans hn1).cell c1
        have g1 := World.block_lt_of_cell? w1 _ e1
        simp only at g1
        clear c0 c1
        generalize ids t.evs k = l at *
        generalize idxP t.names s = ix at *
        refine wp_region_stairs (by kernel_rfl) (by kernel_rfl) (by kernel_rfl) ?_
        iterate 12
          refine Stairs.is ?_ ?_ ?_
          rotate_left 1
          · intro x wR hR hd K hK
            simp only [Act.put, List.setIfInBounds_toArray, List.set_cons_zero, List.set_cons_succ, Nat.reduceAdd, List.length_nil, List.length_cons, List.nil_append, List.cons_append, Say.ok] at hK ⊢
            clear hd
            change Hid _ at hK
            obtain ⟨hcR, hfR, hzR⟩ := nwc hR
            first | (refine wanted_yes ?_ ?_; rfl) | (refine wanted_no ?_ ?_; rfl)
            go_wp2_with (first 
          | (go_at_call 50; refine (HIX.out _ (hn.trans (hn1.trans (by repeat (first | assumption | exact Nw.refl _ | refine Nw.alloc ?_ _ | refine Nw.drew ?_ | refine Nw.drewN2 ?_ _ | (refine Nw.trans ?_ (by assumption))))))).mono ?_; rintro e w5 ⟨rfl, hn5⟩)
          | (go_at_call 27; refine (containsi_c _ l _ _ (hsl.nw (hn.trans (hn1.trans (by repeat (first | assumption | exact Nw.refl _ | refine Nw.alloc ?_ _ | refine Nw.drew ?_ | refine Nw.drewN2 ?_ _ | (refine Nw.trans ?_ (by assumption)))))))).mono ?_; rintro e w6 ⟨rfl, hn6⟩))
            all_goals (refine hK.out _ _ ?_ ?_ <;> first | (solve | (repeat (first | assumption | exact Nw.refl _ | refine Nw.alloc ?_ _ | refine Nw.drew ?_ | refine Nw.drewN2 ?_ _ | (refine Nw.trans ?_ (by assumption))))) | exact rfl)
          try simp only [Act.put, List.setIfInBounds_toArray, List.set_cons_zero, List.set_cons_succ, Nat.reduceAdd, List.length_nil, List.length_cons, List.nil_append, List.cons_append]
        refine Stairs.nil ?_
        intro x wR hR hx
        clear hx
        obtain ⟨hcR, hfR, hzR⟩ := nwc hR
        go_wp2
        go_ret
        exact Gives.b HF.out.symm (hn.trans (hn1.trans hR))
      · rw [Bool.not_eq_true] at hM
        have HF := hid (holds_no t k s (Or.inr (Or.inr hM)))
        clear HIX
        go_enter Try.func26, Try.ntmps26
        go_upto_region 1 with fail
        obtain ⟨x0, x1⟩ := hbx
        have hn := (Nw.refl w).alloc (.cells #[.slice pn t.names.length capn, .slice p t.evs.length cap] 26)
        have hz0 := lt_alloc w (.cells #[.slice pn t.names.length capn, .slice p t.evs.length cap] 26)
        generalize (w.alloc (.cells #[.slice pn t.names.length capn, .slice p t.evs.length cap] 26)) = w0 at *
        go_wp2_with (first
          | (go_at_call 24; refine (HM.out _ (by repeat (first | assumption | exact Nw.refl _ | refine Nw.alloc ?_ _ | refine Nw.drew ?_ | refine Nw.drewN2 ?_ _ | (refine Nw.trans ?_ (by assumption))))).mono ?_; rintro e w1 ⟨rfl, hn1⟩; have x0 := hn1.cell x0; have x1 := hn1.cell x1; have hz1 : w.heap.size < w1.heap.size := Nat.lt_of_lt_of_le hz0 hn1.size)
          | fail)
        go_ret
        exact Gives.b HF.out.symm (by repeat (first | assumption | exact Nw.refl _ | refine Nw.alloc ?_ _ | refine Nw.drew ?_ | refine Nw.drewN2 ?_ _ | (refine Nw.trans ?_ (by assumption))))
set_option maxRecDepth 20000 in
set_option maxHeartbeats 1600000 in
theorem rholds_c (vn ve : Value) (t : T) (i : Int) (s : ByteArray) (w : World) (hvn : Sl w vn (Lx.strs t.names)) (hve : Evs w ve t.evs) (hsm : Small t) :
    Calls Try.prog 46 #[.agg #[vn, ve], .int .i64 i, .string s] w (Gives (.bool (holdsP t i s)) w) := by
  have HM := hid (fun w' (h : Nw w w') => rmay_c vn ve t w' (hvn.nw h) (hve.nw h) hsm.s)
  have HIX := hid (fun w' (h : Nw w w') => index_c vn t.names s w' (hvn.nw h))
  obtain ⟨pn, capn, rfl, hcapn, hmxn, _, hcn⟩ := strs_open hvn
  obtain ⟨p, cap, rfl, hcap, hmx, hp0, hec⟩ := hve
  have HE := hid hec
  unfold maxLen at hmxn hmx
  clear hec hcn hsm hvn
  have hbx := box2 w (.slice pn t.names.length capn) (.slice p t.evs.length cap) 26
  by_cases hM : mayP t = true
  · by_cases h1 : i < 0
    · have hd1 : decide (i < 0) = true := decide_eq_true h1
      have HF := hid (holds_no t i s (Or.inl h1))
      clear HIX
      go_enter Try.func46, Try.ntmps46
      go_upto_region 1 with fail
      obtain ⟨x0, x1⟩ := hbx
      have hn := (Nw.refl w).alloc (.cells #[.slice pn t.names.length capn, .slice p t.evs.length cap] 26)
      have hz0 := lt_alloc w (.cells #[.slice pn t.names.length capn, .slice p t.evs.length cap] 26)
      generalize (w.alloc (.cells #[.slice pn t.names.length capn, .slice p t.evs.length cap] 26)) = w0 at *
      go_wp2_with (first
        | (go_at_call 40; refine (HM.out _ (by repeat (first | assumption | exact Nw.refl _ | refine Nw.alloc ?_ _ | refine Nw.drew ?_ | refine Nw.drewN2 ?_ _ | (refine Nw.trans ?_ (by assumption))))).mono ?_; rintro e w1 ⟨rfl, hn1⟩; have x0 := hn1.cell x0; have x1 := hn1.cell x1; have hz1 : w.heap.size < w1.heap.size := Nat.lt_of_lt_of_le hz0 hn1.size)
        | fail)
      go_ret
      exact Gives.b HF.out.symm (by repeat (first | assumption | exact Nw.refl _ | refine Nw.alloc ?_ _ | refine Nw.drew ?_ | refine Nw.drewN2 ?_ _ | (refine Nw.trans ?_ (by assumption))))
    · by_cases h2 : (t.evs.length : Int) ≤ i
      · have hd1 : decide (i < 0) = false := decide_eq_false h1
        have hd2 : decide ((t.evs.length : Int) ≤ i) = true := decide_eq_true h2
        have HF := hid (holds_no t i s (Or.inr (Or.inl h2)))
        clear HIX h1
        go_enter Try.func46, Try.ntmps46
        go_upto_region 1 with fail
        obtain ⟨x0, x1⟩ := hbx
        have hn := (Nw.refl w).alloc (.cells #[.slice pn t.names.length capn, .slice p t.evs.length cap] 26)
        have hz0 := lt_alloc w (.cells #[.slice pn t.names.length capn, .slice p t.evs.length cap] 26)
        generalize (w.alloc (.cells #[.slice pn t.names.length capn, .slice p t.evs.length cap] 26)) = w0 at *
        go_wp2_with (first
          | (go_at_call 40; refine (HM.out _ (by repeat (first | assumption | exact Nw.refl _ | refine Nw.alloc ?_ _ | refine Nw.drew ?_ | refine Nw.drewN2 ?_ _ | (refine Nw.trans ?_ (by assumption))))).mono ?_; rintro e w1 ⟨rfl, hn1⟩; have x0 := hn1.cell x0; have x1 := hn1.cell x1; have hz1 : w.heap.size < w1.heap.size := Nat.lt_of_lt_of_le hz0 hn1.size)
          | fail)
        go_ret
        exact Gives.b HF.out.symm (by repeat (first | assumption | exact Nw.refl _ | refine Nw.alloc ?_ _ | refine Nw.drew ?_ | refine Nw.drewN2 ?_ _ | (refine Nw.trans ?_ (by assumption))))
      · obtain ⟨k, rfl⟩ : ∃ k : Nat, i = k := ⟨i.toNat, by omega⟩
        have hk : k < t.evs.length := by omega
        have hd1 : decide ((k : Int) < 0) = false := decide_eq_false h1
        have hd2 : decide ((t.evs.length : Int) ≤ k) = false := decide_eq_false h2
        have hd2n : decide (t.evs.length ≤ k) = false := decide_eq_false (by omega)
        clear h1 h2
        have HF := hid (holds_at t k s hM hk)
        have HG := hid (may_ge hM k hk)
        by_cases h3 : 0 ≤ idxP t.names s
        · have hd3 : decide (0 ≤ idxP t.names s) = true := decide_eq_true h3
          clear HG
          go_enter Try.func46, Try.ntmps46
          go_upto_region 1 with fail
          obtain ⟨x0, x1⟩ := hbx
          have hn := (Nw.refl w).alloc (.cells #[.slice pn t.names.length capn, .slice p t.evs.length cap] 26)
          have hz0 := lt_alloc w (.cells #[.slice pn t.names.length capn, .slice p t.evs.length cap] 26)
          generalize (w.alloc (.cells #[.slice pn t.names.length capn, .slice p t.evs.length cap] 26)) = w0 at *
          obtain ⟨b1, o1, vi, rfl, c0, c1, hsl⟩ := HE.out k hk
          generalize ids t.evs k = l at *
          generalize idxP t.names s = ix at *
          go_wp2_with (first
            | (go_at_call 40; refine (HM.out _ (by repeat (first | assumption | exact Nw.refl _ | refine Nw.alloc ?_ _ | refine Nw.drew ?_ | refine Nw.drewN2 ?_ _ | (refine Nw.trans ?_ (by assumption))))).mono ?_; rintro e w1 ⟨rfl, hn1⟩; have x0 := hn1.cell x0; have x1 := hn1.cell x1; have hz1 : w.heap.size < w1.heap.size := Nat.lt_of_lt_of_le hz0 hn1.size)
            | (go_at_call 50; refine (HIX.out _ (by repeat (first | assumption | exact Nw.refl _ | refine Nw.alloc ?_ _ | refine Nw.drew ?_ | refine Nw.drewN2 ?_ _ | (refine Nw.trans ?_ (by assumption))))).mono ?_; rintro e w5 ⟨rfl, hn5⟩; have x0 := hn5.cell x0; have x1 := hn5.cell x1; have e1 := (hn.trans (hn1.trans hn5)).cell c1)
            | (go_at_call 27; refine (containsi_c _ l _ _ (hsl.nw (by repeat (first | assumption | exact Nw.refl _ | refine Nw.alloc ?_ _ | refine Nw.drew ?_ | refine Nw.drewN2 ?_ _ | (refine Nw.trans ?_ (by assumption)))))).mono ?_; rintro e w6 ⟨rfl, hn6⟩)
            | fail)
          go_ret
          exact Gives.b HF.out.symm (by repeat (first | assumption | exact Nw.refl _ | refine Nw.alloc ?_ _ | refine Nw.drew ?_ | refine Nw.drewN2 ?_ _ | (refine Nw.trans ?_ (by assumption))))
        · have hd3 : decide (0 ≤ idxP t.names s) = false := decide_eq_false h3
          have HF2 := hid (show holdsP t k s = false by rw [HF.out]; exact decide_eq_false fun h => h3 (HG.out _ h))
          clear HG HF h3
          go_enter Try.func46, Try.ntmps46
          go_upto_region 1 with fail
          obtain ⟨x0, x1⟩ := hbx
          have hn := (Nw.refl w).alloc (.cells #[.slice pn t.names.length capn, .slice p t.evs.length cap] 26)
          have hz0 := lt_alloc w (.cells #[.slice pn t.names.length capn, .slice p t.evs.length cap] 26)
          generalize (w.alloc (.cells #[.slice pn t.names.length capn, .slice p t.evs.length cap] 26)) = w0 at *
          obtain ⟨b1, o1, vi, rfl, c0, c1, hsl⟩ := HE.out k hk
          generalize ids t.evs k = l at *
          generalize idxP t.names s = ix at *
          go_wp2_with (first
            | (go_at_call 40; refine (HM.out _ (by repeat (first | assumption | exact Nw.refl _ | refine Nw.alloc ?_ _ | refine Nw.drew ?_ | refine Nw.drewN2 ?_ _ | (refine Nw.trans ?_ (by assumption))))).mono ?_; rintro e w1 ⟨rfl, hn1⟩; have x0 := hn1.cell x0; have x1 := hn1.cell x1; have hz1 : w.heap.size < w1.heap.size := Nat.lt_of_lt_of_le hz0 hn1.size)
            | (go_at_call 50; refine (HIX.out _ (by repeat (first | assumption | exact Nw.refl _ | refine Nw.alloc ?_ _ | refine Nw.drew ?_ | refine Nw.drewN2 ?_ _ | (refine Nw.trans ?_ (by assumption))))).mono ?_; rintro e w5 ⟨rfl, hn5⟩; have x0 := hn5.cell x0; have x1 := hn5.cell x1; have e1 := (hn.trans (hn1.trans hn5)).cell c1)
            | fail)
          go_ret
          exact Gives.b HF2.out.symm (by repeat (first | assumption | exact Nw.refl _ | refine Nw.alloc ?_ _ | refine Nw.drew ?_ | refine Nw.drewN2 ?_ _ | (refine Nw.trans ?_ (by assumption))))
  · rw [Bool.not_eq_true] at hM
    have HF := hid (holds_no t i s (Or.inr (Or.inr hM)))
    clear HIX
    go_enter Try.func46, Try.ntmps46
    go_upto_region 1 with fail
    obtain ⟨x0, x1⟩ := hbx
    have hn := (Nw.refl w).alloc (.cells #[.slice pn t.names.length capn, .slice p t.evs.length cap] 26)
    have hz0 := lt_alloc w (.cells #[.slice pn t.names.length capn, .slice p t.evs.length cap] 26)
    generalize (w.alloc (.cells #[.slice pn t.names.length capn, .slice p t.evs.length cap] 26)) = w0 at *
    go_wp2_with (first
      | (go_at_call 40; refine (HM.out _ (by repeat (first | assumption | exact Nw.refl _ | refine Nw.alloc ?_ _ | refine Nw.drew ?_ | refine Nw.drewN2 ?_ _ | (refine Nw.trans ?_ (by assumption))))).mono ?_; rintro e w1 ⟨rfl, hn1⟩; have x0 := hn1.cell x0; have x1 := hn1.cell x1; have hz1 : w.heap.size < w1.heap.size := Nat.lt_of_lt_of_le hz0 hn1.size)
      | fail)
    go_ret
    exact Gives.b HF.out.symm (by repeat (first | assumption | exact Nw.refl _ | refine Nw.alloc ?_ _ | refine Nw.drew ?_ | refine Nw.drewN2 ?_ _ | (refine Nw.trans ?_ (by assumption))))
end Tr
end Go.Proofs.Ytjelbfodkacipaa
