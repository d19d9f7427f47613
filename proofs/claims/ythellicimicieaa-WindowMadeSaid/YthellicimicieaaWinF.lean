/- The contract of window.Shift. No condition but lengths. -/
import Derived.Test.YthellicimicieaaWinD
import Derived.Maps.AppendAt
import Derived.Test.YthellicimicieaaSeqF
set_option linter.unusedSimpArgs false
set_option linter.unusedVariables false
namespace Go.Proofs.Ythellicimicieaa
open Go.ChangeShapes Go.WideShapes Go.ChangeAt Go.RowKit
/-- 's = append(s, x)', elements of several cells, s owned from B on, x a row of one element; where the new row lies. -/
theorem appat {P : Program} {w : World} {ops : Array Oper} {rest : List Oper} {o : Oper} {a : Act} {Q : Exit → Act → World → Prop} (hgd : o.guard = none) (s x : Operand) (t : TypeId) (ho : o.op = .call { callee := .builtin .append, args := #[s, x], argTypes := #[t, t] })
    (e : TypeId) (z : Value) (size bytes : Nat) (ht : P.underlying t = some (.slice e)) (hinfo : (P.info? e).map (fun i => (i.zero, i.size, i.bytes)) = some (some z, size, bytes)) (hz : z.cells.size = size) (hs0 : 0 < size) (hby : bytes ≤ 128)
    {B : Nat} (hB : B ≤ w.heap.size) {v : Value} {n : Nat} {xs : List Value} (hown : w.ownsRow B e size v n xs) (hs : a.eval s = v) {ad : Addr} {c : Nat} {news : List Value} (hx : a.eval x = .slice (some ad) 1 c) (hl : news.length = size)
    (hu : Cells w (some ad) news) (h1 : ∀ u ∈ news, u.oneCell' = true)
    (h : ∀ v' w', w'.ownsRow B e size v' (n + 1) (xs ++ news) → w.grownBy w' v.ownBlock → (v'.ownBlock = v.ownBlock ∨ v'.ownBlock = some w.heap.size) → wpList P ops Q rest (a.put o.dst v') w')
    (h63 : n + 1 ≤ 1099511627776) : wpList P ops Q (o :: rest) a w := by
  obtain ⟨i, hi, hz0, hz1, hz2⟩ := info_parts hinfo
  refine wpList_append_own_at (w := w) hgd s x t ho B e i z size bytes ht hi hz0 hz1 hz2 hz hs0 v n xs hs hown ad 1 c news hx (by omega) (fun j y hj => ?_) h1 (by unfold maxLen; omega) ?_ hB (fun v' w' h2 h3 _ h5 => h v' w' h2 h3 h5)
  · obtain ⟨hjl, rfl⟩ := List.getElem?_eq_some_iff.1 hj
    obtain ⟨b, off, e1, hcell⟩ := hu j hjl
    cases e1
    rw [addr_add]; exact hcell
  · have := Nat.mul_le_mul h63 hby; omega
namespace Wn
open Ival Words
theorem cells_newAt (w : World) (vs : List Value) (e : TypeId) (fr : Nat × Nat) (g : Nat) (hg : g = w.heap.size) : Cells (w.alloc (.cells vs.toArray e fr)) (some ⟨g, 0, none⟩) vs := by
  subst hg
  exact fun i hi => ⟨w.heap.size, 0, rfl, by rw [cell_new w vs.toArray e fr i (by simpa using hi)]; simp⟩
theorem pushes_snoc (lo hi d : Int) (bs : Bs) (k : Nat) (h : k < bs.length) : pushes lo hi d [] (bs.take (k + 1)) = push (pushes lo hi d [] (bs.take k)) (later lo hi (off bs k) d) (st bs k) := by
  unfold pushes
  rw [List.take_add_one, List.getElem?_eq_getElem h, List.foldl_append]
  simp [off, st, List.getD_eq_getElem?_getD, h]
theorem take_sm {n m : Nat} {bs : Bs} (h : Sm n m bs) (k : Nat) : Sm n m (bs.take k) := ⟨by rw [List.length_take]; have := h.n; omega, fun b hb => h.m b (List.mem_of_mem_take hb)⟩
theorem pushes_sm' {lo hi d : Int} {n m : Nat} {bs : Bs} (h : Sm n m bs) (k : Nat) : Sm n m (pushes lo hi d [] (bs.take k)) :=
  (pushes_sm (bs.take k) [] 0 (Sm.nil _ _) (take_sm h k).m).mono (by have := (take_sm h k).n; omega) (Nat.le_refl _)
/-- A call hands back a row of buckets of its own. -/
def HandsB (w : World) (bs : Bs) (e : Ending) (w' : World) : Prop := ∃ v, e = .returned v ∧ BkOwn w' w.heap.size v bs ∧ Nw w w'
def SetN (B : Nat) (s : List Wd) : Says := fun w v => ∃ q c, v = .slice q s.length c ∧ Words.Set w (.slice q s.length c) s ∧ ∀ k, (Value.slice q s.length c).ownBlock = some k → B ≤ k
theorem SetN.stab (B : Nat) (s : List Wd) : Stab (SetN B s) := fun _ _ _ ⟨q, c, e, h, h2⟩ hn => ⟨q, c, e, h.nw hn, h2⟩
theorem BkOwn.mono {w : World} {B B' : Nat} {v : Value} {bs : Bs} (h : BkOwn w B v bs) (hb : B' ≤ B) : BkOwn w B' v bs := by
  obtain ⟨vs, h1, h2, h3⟩ := h
  refine ⟨vs, h1, ⟨h2.1, ?_⟩, h3⟩
  rcases h2.2 with h4 | ⟨g, cap, cur, hv, hg, r⟩
  · exact Or.inl h4
  · exact Or.inr ⟨g, cap, cur, hv, Nat.le_trans hb hg, r⟩
theorem list_last_set (out : Bs) (x : Int × List Wd) (h : 0 < out.length) : out.set (out.length - 1) x = out.take (out.length - 1) ++ [x] := by
  have hl : (out.take (out.length - 1)).length = out.length - 1 := by rw [List.length_take]; omega
  have e : ∀ (l : Bs) (y : Int × List Wd), out = l ++ [y] → l.length = out.length - 1 → out.set (out.length - 1) x = l ++ [x] := by
    rintro l y rfl h2
    rw [← h2, List.set_append_right _ _ (Nat.le_refl _), Nat.sub_self]
    rfl
  exact e _ _ (take_last out h) hl
set_option maxRecDepth 20000 in
set_option maxHeartbeats 3200000 in
theorem shift_w (lo hi d : Int) (vl : Value) (bs : Bs) (w : World) (hv : Bks w vl bs) (hsm : Sm 1000000 1000000 bs) (hd : 0 ≤ d ∧ d ≤ 18446744073709551615) (hlo : -9223372036854775808 ≤ lo ∧ lo ≤ 9223372036854775807) :
    Calls Try.prog 17 #[span lo hi, vl, .int .u64 d] w (HandsB w (shiftP lo hi bs d)) := by
  have HM := hid (fun w' (h : Nw w w') => may_w lo hi vl bs w' (hv.nw h) hsm)
  obtain ⟨p, cap, rfl, hcap, hmx, hp0, hbc⟩ := hv
  unfold maxLen at hmx
  have HB := hid hbc
  have hln := hsm.n
  clear hbc
  by_cases hN : mayW lo hi bs = true
  · rw [hN] at HM
    have HOK := hid ((mayW_iff _ _ _).1 hN)
    have HR := hid (show shiftP lo hi bs d = pushes lo hi d [] (bs.take bs.length) by unfold shiftP; rw [if_pos hN, List.take_length])
    clear hN
    go_enter Try.func17, Try.ntmps17
    unfold span at *
    go_wp2_with (first
      | (go_at_call 33; refine (HM.out _ (by repeat (first | assumption | exact Nw.refl _ | refine Nw.alloc ?_ _ | refine Nw.drew ?_ | refine Nw.drewN2 ?_ _ | (refine Nw.trans ?_ (by assumption))))).mono ?_; rintro e w1 ⟨rfl, hn1⟩; obtain ⟨hc1, hf1, hz1⟩ := nwc hn1)
      | fail)
    have x0 := hn1.cell (box2 w (.int .i64 lo) (.int .i64 hi) 26).1
    have x1 := hn1.cell (box2 w (.int .i64 lo) (.int .i64 hi) 26).2
    have hn : Nw w w1 := (by repeat (first | assumption | exact Nw.refl _ | refine Nw.alloc ?_ _ | refine Nw.drew ?_ | refine Nw.drewN2 ?_ _ | (refine Nw.trans ?_ (by assumption))))
    have hzw := World.block_lt_of_cell? w1 _ x0
    simp only at hzw
    clear hc1 hf1 hz1 hn1
    go_loopw [7, 9, 10, 11, 18] (fun v _ _ _ i wr => ∃ k : Nat, k ≤ bs.length ∧ i = .int .i64 k ∧ BkOwn wr w1.heap.size v (pushes lo hi d [] (bs.take k)) ∧ Nw w1 wr) (fun _ _ _ _ i _ => bs.length - (intOf i).toNat)
    case atStart => exact ⟨0, Nat.zero_le _, rfl, BkOwn.nil _ _, Nw.refl _⟩
    case round =>
      obtain ⟨k, hk, rfl, ho, hnr⟩ := hrel
      have hnw := hn.trans hnr
      have y0 := hnr.cell x0
      have y1 := hnr.cell x1
      have hz := World.block_lt_of_cell? wr _ y0
      simp only at hz
      by_cases hlt : k < bs.length
      · have hdk : decide (k < bs.length) = true := decide_eq_true hlt
        obtain ⟨b1, o1, vi, rfl, c0, c1', hsl⟩ := (HB.out.nw hnw) k hlt
        obtain ⟨q, c', rfl⟩ := set_shape hsl
        have HT := hid (pushes_snoc lo hi d bs k hlt)
        have hsn := hsm.at k hlt
        have hso := (pushes_sm' (lo := lo) (hi := hi) (d := d) hsm k)
        have hob := (HOK.out.bd _ (off_mem hlt))
        dsimp only at hob
        have hcb := later_bd lo hi (off bs k) d hd.1
        have HLT := hid (fun w' => later_c lo hi (off bs k) d w' (by have := wide_bd lo hi; omega) hd hlo)
        have HPL := hid (fun w' (h : Nw wr w') => plain_c _ (st bs k) w' (hsl.nw h) (Nat.le_trans hsn (by decide)))
        have HSL := hid hsl
        clear hsl hob
        generalize st bs k = s at *
        generalize off bs k = ok at *
        generalize later lo hi ok d = c at *
        generalize pushes lo hi d [] (bs.take k) = out at *
        obtain ⟨qo, co, rfl⟩ := ho.shape rfl
        have hol := hso.n
        by_cases hc0 : c < 0
        · have hd1 : decide (c < 0) = true := decide_eq_true hc0
          have HP := hid (show push out c s = out from if_pos hc0)
          clear hc0 hcb
          go_wp2_with (first
            | (go_at_call 44; refine (HLT.out _).mono ?_; rintro e w2 ⟨rfl, hn2⟩)
            | fail)
          go_roundw
          case rel => exact ⟨k + 1, by omega, by go_num, by rw [HT.out, HP.out]; exact ho.nw (by repeat (first | assumption | exact Nw.refl _ | refine Nw.alloc ?_ _ | refine Nw.drew ?_ | refine Nw.drewN2 ?_ _ | (refine Nw.trans ?_ (by assumption)))), (by repeat (first | assumption | exact Nw.refl _ | refine Nw.alloc ?_ _ | refine Nw.drew ?_ | refine Nw.drewN2 ?_ _ | (refine Nw.trans ?_ (by assumption))))⟩
          case measure => simp [intOf]; omega
        · have hd1 : decide (c < 0) = false := decide_eq_false hc0
          go_upto_region 10 with (first
            | (go_at_call 44; refine (HLT.out _).mono ?_; rintro e w2 ⟨rfl, hn2⟩)
            | fail)
          have hnz : Nw wr w2 := (by repeat (first | assumption | exact Nw.refl _ | refine Nw.alloc ?_ _ | refine Nw.drew ?_ | refine Nw.drewN2 ?_ _ | (refine Nw.trans ?_ (by assumption))))
          have ho2 := ho.nw hnz
          obtain ⟨z0, z1⟩ := box2 wr (.int .i64 ok) (.slice q s.length c') 60
          have z0 := hn2.cell z0
          have z1 := hn2.cell z1
          have HS2 := hid (HSL.out.nw hnz)
          have HPL := hid (fun w' (h : Nw w2 w') => HPL.out w' (hnz.trans h))
          have y0 := hnz.cell y0
          have y1 := hnz.cell y1
          have hn12 := hnr.trans hnz
          clear hn2 ho c0 c1' hnr hnw hnz HSL HLT
          generalize wr.heap.size = gz at *
          obtain ⟨m, hm⟩ : ∃ m, m = out.length := ⟨_, rfl⟩
          rw [← hm] at ho2 hol ⊢
          have hmE := hid hm
          by_cases hcase : 0 < out.length ∧ off out (out.length - 1) = c
          · have HP := hid (show push out c s = out.set (out.length - 1) (off out (out.length - 1), or (st out (out.length - 1)) s) by rw [list_last_set _ _ hcase.1, hcase.2]; unfold push; rw [if_neg (by omega), if_pos hcase])
            rw [← hm] at hcase HP
            obtain ⟨hm0, hoc⟩ := hcase
            obtain ⟨g, c3, e, hgB, hgl⟩ := ho2.opened hm.symm hm0
            cases e
            obtain ⟨qs, ds, k0, k1, hss, hfz⟩ := ho2.cell hm.symm (m - 1) (by omega)
            have hfm := hfz ((m - 1) * 2 + 1)
            rw [hoc] at k0
            obtain ⟨j, rfl⟩ : ∃ j, m = j + 1 := ⟨m - 1, by omega⟩
            rw [Nat.add_sub_cancel] at *
            rw [show ((j + 1 : Nat) : Int) - 1 = (j : Int) by omega]
            have hdm : decide ((0 : Int) ≤ (j : Int)) = true := decide_eq_true (by omega)
            have hlt' : j < j + 1 := by omega
            have HOR := hid (fun w' (h : Nw w2 w') => or_c _ _ (st out j) s w' (hss.nw h) (HS2.out.nw h) (Nat.le_trans (hso.at j (by omega)) (by decide)) (Nat.le_trans hsn (by decide)))
            have HO2 := hid ho2
            clear hfz hss hm hso hsn ho2 HPL hc0 hm0 hcb
            generalize st out j = sl at *
            generalize or sl s = so at *
            have stN := SetN.stab w2.heap.size so
            have g0 := World.block_lt_of_cell? w2 _ z0
            simp only at g0
            go_upto_region 12 with fail
            refine wp_region_free 10 [] (by kernel_rfl) (by kernel_rfl) (by kernel_rfl) (by kernel_rfl) (by kernel_rfl) ?_
            dsimp only [List.take, List.drop, List.length_cons, List.length_nil, Nat.reduceAdd]
            refine StairsC.start ?_
            try simp only [List.nil_append, List.cons_append]
            iterate 9
              refine Stairs.is ?_ ?_ ?_
              rotate_left 1
              · intro x wR hR hd K hK
                simp only [Act.put, List.setIfInBounds_toArray, List.set_cons_zero, List.set_cons_succ, Say.ok] at hK ⊢
                clear hd
                change Hid _ at hK
                obtain ⟨hcR, hfR, hzR⟩ := nwc hR
                first | (refine wanted_yes ?_ ?_; rfl) | (refine wanted_no ?_ ?_; rfl)
                go_wp2_with (first | (go_at_call 36; refine (HOR.out _ (by repeat (first | assumption | exact Nw.refl _ | refine Nw.alloc ?_ _ | refine Nw.drew ?_ | refine Nw.drewN2 ?_ _ | (refine Nw.trans ?_ (by assumption))))).mono ?_; rintro e w5 ⟨v5, rfl, hs5, hk5, hn5⟩; obtain ⟨q5, c5, rfl⟩ := set_shape hs5))
                all_goals (refine hK.out _ _ ?_ ?_ <;> first | (solve | (repeat (first | assumption | exact Nw.refl _ | refine Nw.alloc ?_ _ | refine Nw.drew ?_ | refine Nw.drewN2 ?_ _ | (refine Nw.trans ?_ (by assumption))))) | exact rfl)
              try simp only [Act.put, List.setIfInBounds_toArray, List.set_cons_zero, List.set_cons_succ]
            iterate 1
              refine Stairs.that (SetN w2.heap.size so) (by first | assumption | simp) ?_ ?_
              · intro x wR hR hd K hK
                simp only [Act.put, List.setIfInBounds_toArray, List.set_cons_zero, List.set_cons_succ, Say.ok] at hK ⊢
                clear hd
                change Hid _ at hK
                obtain ⟨hcR, hfR, hzR⟩ := nwc hR
                first | (refine wanted_yes ?_ ?_; rfl) | (refine wanted_no ?_ ?_; rfl)
                go_wp2_with (first | (go_at_call 36; refine (HOR.out _ (by repeat (first | assumption | exact Nw.refl _ | refine Nw.alloc ?_ _ | refine Nw.drew ?_ | refine Nw.drewN2 ?_ _ | (refine Nw.trans ?_ (by assumption))))).mono ?_; rintro e w5 ⟨v5, rfl, hs5, hk5, hn5⟩; obtain ⟨q5, c5, rfl⟩ := set_shape hs5))
                all_goals (refine hK.out _ _ ?_ ?_ <;> first | (solve | (repeat (first | assumption | exact Nw.refl _ | refine Nw.alloc ?_ _ | refine Nw.drew ?_ | refine Nw.drewN2 ?_ _ | (refine Nw.trans ?_ (by assumption))))) | exact rfl | exact ⟨_, _, rfl, hs5, fun k hk => Nat.le_trans hR.size (hk5 k hk)⟩)
              try simp only [Act.put, List.setIfInBounds_toArray, List.set_cons_zero, List.set_cons_succ, List.length_nil, List.length_cons, List.nil_append, List.cons_append, Nat.reduceAdd]
            refine Stairs.nil ?_
            intro x wR hR hx cR hcR2 yR
            have h9 := hx 9 (by decide)
            simp only [sayAt, Say.ok] at h9
            clear hx
            obtain ⟨hcR, hfR, hzR⟩ := nwc hR
            obtain rfl : cR = 0 := by simpa using hcR2
            clear hcR2
            simp only [opsAt, rest, refill, List.range', Nat.reduceSub, Nat.reduceAdd, List.length_cons, List.length_nil, List.cons_append, List.nil_append, List.filterMap_cons, List.filterMap_nil, List.getElem?_cons_zero, List.getElem?_cons_succ, List.foldl_cons, List.foldl_nil, fill, Act.put, List.setIfInBounds_toArray, List.set_cons_zero, List.set_cons_succ]
            show wpList _ _ _ (_ :: _) _ _
            obtain ⟨q9, c9, e9, hs9, hk9⟩ := h9
            simp only [e9]
            have hput := (HO2.out.nw hR).put hmE.out.symm j (by omega) hs9 (fun k hk q => by have := hk9 k hk; omega)
            have kR := hR.cell k1
            have fR : wR.frozen? ⟨g, j * 2 + 1, none⟩ = false := by rw [hfR _ _ hgl]; exact hfm
            clear hcR hfR hzR
            go_wp2
            go_roundw
            case rel => exact ⟨k + 1, by omega, by go_num, by rw [HT.out, HP.out]; exact hput, (hn12.trans hR).setCell (p := ⟨g, j * 2 + 1, none⟩) hgB _⟩
            case measure => simp [intOf]; omega
          · have HP := hid (show push out c s = out ++ [(c, trim s)] by unfold push; rw [if_neg (by omega), if_neg hcase])
            obtain ⟨vs, hvl, hrow, hall⟩ := id ho2
            have HRW := hid hrow
            have HAL := hid hall
            have HBL := hid (fun k hk => (ho2.lt k hk).2)
            have HVL := hid hvl
            clear hrow hall hvl
            generalize hts : trim s = ts at *
            clear hts
            by_cases hm0 : 0 < m
            · have hne : off out (m - 1) ≠ c := fun q => hcase ⟨by omega, by rw [← hm]; exact q⟩
              obtain ⟨g, c3, e, hgB, hgl⟩ := ho2.opened hm.symm hm0
              cases e
              obtain ⟨qs, ds, k0, k1, hss, hfz⟩ := ho2.cell hm.symm (m - 1) (by omega)
              obtain ⟨j, rfl⟩ : ∃ j, m = j + 1 := ⟨m - 1, by omega⟩
              rw [Nat.add_sub_cancel] at *
              rw [show ((j + 1 : Nat) : Int) - 1 = (j : Int) by omega]
              have hdm : decide ((0 : Int) ≤ (j : Int)) = true := decide_eq_true (by omega)
              have hlt' : j < j + 1 := by omega
              have hdc : (off out j == c) = false := beq_eq_false_iff_ne.2 hne
              clear hne hcase hss hfz hc0 hm0 hm
              go_wp2_with (first
                | (go_at_call 46; refine (HPL.out _ (by repeat (first | assumption | exact Nw.refl _ | refine Nw.alloc ?_ _ | refine Nw.drew ?_ | refine Nw.drewN2 ?_ _ | (refine Nw.trans ?_ (by assumption))))).mono ?_; rintro e w5 ⟨v5, rfl, hs5, hk5, hn5⟩; obtain ⟨q5, c5, rfl⟩ := set_shape hs5)
                | (at_builtin; go_must (refine appat rfl _ _ _ rfl _ _ _ _ Try.underlying28 info_bucket rfl (by decide) (by decide) (Nw.size (show Nw w1 (w5.alloc (.cells #[.int .i64 c, .slice q5 ts.length c5] 60)) from (hn12.trans hn5).alloc _)) (Nw.ownsRow (show Nw w2 (w5.alloc (.cells #[.int .i64 c, .slice q5 ts.length c5] 60)) from hn5.alloc _) HRW.out) rfl rfl (show [Value.int .i64 c, Value.slice q5 ts.length c5].length = 2 from rfl) (cells_newAt w5 [_, _] _ _ _ rfl) (by simp [Value.oneCell']) ?_ ?_); rotate_left; go_must (rw [← hmE.out]; omega); intro v6 w6 hown6 hg6 hat6)
                | fail)
              have hnA : Nw w2 (w5.alloc (.cells #[.int .i64 c, .slice q5 ts.length c5] 60)) := hn5.alloc _
              have hadd := BkOwn.add HVL.out (fun i hi => ⟨(HAL.out i hi).1.nw hnA, (HAL.out i hi).2⟩) (hs5.nw ((Nw.refl w5).alloc (.cells #[.int .i64 c, .slice q5 ts.length c5] 60))) (fun _ k hk e => by have := hk5 k hk; have := HBL.out k e; omega) hown6 hg6 hat6
              have hn6 : Nw w1 w6 := (hn12.trans hnA).grown hg6 (fun k hk => (ho2.lt k hk).1)
              go_roundw
              case rel => exact ⟨k + 1, by omega, by go_num, by rw [HT.out, HP.out]; exact hadd, hn6⟩
              case measure => simp [intOf]; omega
            · obtain rfl : m = 0 := by omega
              rw [show ((0 : Nat) : Int) - 1 = -1 by omega]
              clear hcase hc0 hm0 hm
              go_wp2_with (first
                | (go_at_call 46; refine (HPL.out _ (by repeat (first | assumption | exact Nw.refl _ | refine Nw.alloc ?_ _ | refine Nw.drew ?_ | refine Nw.drewN2 ?_ _ | (refine Nw.trans ?_ (by assumption))))).mono ?_; rintro e w5 ⟨v5, rfl, hs5, hk5, hn5⟩; obtain ⟨q5, c5, rfl⟩ := set_shape hs5)
                | (at_builtin; go_must (refine appat rfl _ _ _ rfl _ _ _ _ Try.underlying28 info_bucket rfl (by decide) (by decide) (Nw.size (show Nw w1 (w5.alloc (.cells #[.int .i64 c, .slice q5 ts.length c5] 60)) from (hn12.trans hn5).alloc _)) (Nw.ownsRow (show Nw w2 (w5.alloc (.cells #[.int .i64 c, .slice q5 ts.length c5] 60)) from hn5.alloc _) HRW.out) rfl rfl (show [Value.int .i64 c, Value.slice q5 ts.length c5].length = 2 from rfl) (cells_newAt w5 [_, _] _ _ _ rfl) (by simp [Value.oneCell']) ?_ ?_); rotate_left; go_must (rw [← hmE.out]; omega); intro v6 w6 hown6 hg6 hat6)
                | fail)
              have hnA : Nw w2 (w5.alloc (.cells #[.int .i64 c, .slice q5 ts.length c5] 60)) := hn5.alloc _
              have hadd := BkOwn.add HVL.out (fun i hi => ⟨(HAL.out i hi).1.nw hnA, (HAL.out i hi).2⟩) (hs5.nw ((Nw.refl w5).alloc (.cells #[.int .i64 c, .slice q5 ts.length c5] 60))) (fun _ k hk e => by have := hk5 k hk; have := HBL.out k e; omega) hown6 hg6 hat6
              have hn6 : Nw w1 w6 := (hn12.trans hnA).grown hg6 (fun k hk => (ho2.lt k hk).1)
              go_roundw
              case rel => exact ⟨k + 1, by omega, by go_num, by rw [HT.out, HP.out]; exact hadd, hn6⟩
              case measure => simp [intOf]; omega
      · obtain rfl : k = bs.length := by omega
        have hdk : decide (bs.length < bs.length) = false := decide_eq_false (by omega)
        go_wp2
        go_ret
        exact ⟨_, rfl, by rw [HR.out]; exact ho.mono hn.size, hnw⟩
  · have HR := hid (show shiftP lo hi bs d = [] by unfold shiftP; rw [if_neg hN])
    rw [Bool.not_eq_true] at hN
    rw [hN] at HM
    go_enter Try.func17, Try.ntmps17
    unfold span at *
    go_wp2_with (first
      | (go_at_call 33; refine (HM.out _ (by repeat (first | assumption | exact Nw.refl _ | refine Nw.alloc ?_ _ | refine Nw.drew ?_ | refine Nw.drewN2 ?_ _ | (refine Nw.trans ?_ (by assumption))))).mono ?_; rintro e w1 ⟨rfl, hn1⟩; obtain ⟨hc1, hf1, hz1⟩ := nwc hn1)
      | fail)
    go_ret
    exact ⟨_, rfl, by rw [HR.out]; exact BkOwn.nil _ _, (by repeat (first | assumption | exact Nw.refl _ | refine Nw.alloc ?_ _ | refine Nw.drew ?_ | refine Nw.drewN2 ?_ _ | (refine Nw.trans ?_ (by assumption))))⟩
end Wn
end Go.Proofs.Ythellicimicieaa
