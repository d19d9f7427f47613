/- The law's did: two memories do the same calls and tell the same. No condition but lengths. -/
import Derived.Test.YthellicimicieaaMemoP
set_option linter.unusedSimpArgs false
set_option linter.unusedVariables false
namespace Go.Proofs.Ythellicimicieaa
open Go.ChangeShapes Go.WideShapes Go.ChangeAt Go.RowKit
namespace Mm
open Go.Proofs.Ythellicimicieaa.Words (Wd wd trim Set ws ws_one ws_length same same_c samewords_c rtrim_c HandsW)
theorem RI.shape {w : World} {P : Nat → Prop} {B a : Nat} {v : Value} {f : Nat → V3} {m : Me} (h : RI w P B a v f m) : ∃ p cap, v = .slice p m.l.length cap ∧ w.cell? ⟨a, 2, none⟩ = some (.slice p m.l.length cap) := by
  obtain ⟨p, cap, rfl, _⟩ := row_open h.row
  exact ⟨p, cap, rfl, heap_cell h.blk 2⟩
set_option maxRecDepth 20000 in
set_option maxHeartbeats 3200000 in
theorem did_c (W : World) (vl : Value) (l : List Ac) (w : World) (hl : Acs W vl l) (hac : ∀ i, i < l.length → AcOk (ac l i)) (P : Nat → Prop) (Bm Br am ar : Nat) (vm vr : Value) (fm fr : Nat → V3) (M : Me) (hm : MI w P Bm am vm fm M) (hr : RI w P Br ar vr fr M) (hP : ∀ k, P k → k < w.heap.size) (hPW : ∀ k, P k → W.heap.size ≤ k) (hW : Nw W w) :
    Calls Try.prog 22 #[.pointer (some ⟨am, 0, none⟩), .pointer (some ⟨ar, 0, none⟩), vl] w fun en w' => en = .returned (.bool true) ∧ DO w P Bm Br am vm ar vr (run M l) w' := by
  obtain ⟨p, cap, rfl, hcap, hmx, _, hc⟩ := hl
  unfold maxLen at hmx
  have HC := hid hc
  have HAC := hid hac
  have HRT := hid (run_take M l)
  have HST := hid (DO.start hP hm hr)
  have HRA := hid (show run M (l.take l.length) = run M l by rw [List.take_length])
  have HNW := hid (fun w' (h : Mods (fun k => Own2 am vm k ∨ Own2 ar vr k) w w') => show Nw W w' from hW.ofMods h fun k q => by
      rcases q with q | q
      · exact hPW k (hm.own2 q).1
      · exact hPW k (hr.own2 q).1)
  have hsz0 : am < w.heap.size ∧ ar < w.heap.size := ⟨hm.lt, hr.lt⟩
  clear hc hac hm hr hP hPW hW
  go_enter Try.func22, Try.ntmps22
  go_upto_region 2 with fail
  go_loopw [8, 9, 10, 11, 12, 13, 16] (fun _ _ _ _ _ _ i wr => ∃ k : Nat, k ≤ l.length ∧ i = .int .i64 k ∧ DO w P Bm Br am vm ar vr (run M (l.take k)) wr) (fun _ _ _ _ _ _ i _ => l.length - (intOf i).toNat)
  case atStart => exact ⟨0, Nat.zero_le _, rfl, HST.out⟩
  case round =>
    obtain ⟨k, hk, rfl, hdo⟩ := hrel
    by_cases hlt : k < l.length
    · have hdk : decide (k < l.length) = true := decide_eq_true hlt
      obtain ⟨P1, vm1, fm1, vr1, fr1, hmid⟩ := hdo.mid
      have hnW := HNW.out _ hmid.md
      have hlow := hmid.ext.low
      clear hdo
      obtain ⟨b, off, q, v1, v2, v3, rfl, hq, hp, c0, c1, c2, c3, c4, s1, s2, s3⟩ := HC.out k hlt
      replace c0 := hnW.cell c0
      replace c1 := hnW.cell c1
      replace c2 := hnW.cell c2
      replace c3 := hnW.cell c3
      replace c4 := hnW.cell c4
      have TT := hid (fun w' (h : Mods (fun k => Own2 am vm k ∨ Own2 ar vr k) w w') => And.intro (s1.nw (HNW.out w' h)) (And.intro (s2.nw (HNW.out w' h)) (s3.nw (HNW.out w' h))))
      replace s1 := s1.nw hnW
      replace s2 := s2.nw hnW
      replace s3 := s3.nw hnW
      have gg := World.block_lt_of_cell? wr _ c0
      simp only at gg
      have hok := HAC.out k hlt
      have hrt := HRT.out k hlt
      obtain ⟨p1, d1, rfl, _⟩ := id s1.open
      obtain ⟨p2, d2, rfl, _⟩ := id s2.open
      obtain ⟨p3, d3, rfl, _⟩ := id s3.open
      obtain ⟨qm, hqm⟩ : ∃ qm, q % 2 = qm := ⟨_, rfl⟩
      have hq2 : (q : Int) % 2 = (qm : Int) := by omega
      have hqb : qm < 2 := by omega
      rw [hqm] at hp
      clear hqm
      have HXP := hid hp
      clear hp
      generalize ac l k = x at *
      obtain ⟨xp, xs, xv, xx, xe⟩ := x
      dsimp only at HXP c4 s1 s2 s3 c1 c2 c3 TT
      obtain ⟨ls, lv, lx⟩ := hok
      dsimp only at ls lv lx
      go_upto_region 4 with fail
      obtain ⟨x0, x1, x2, x3, x4, hz, hnA⟩ := box5 wr (.int .u8 (q : Int)) (.slice p1 xs.length d1) (.slice p2 xv.length d2) (.slice p3 xx.length d3) (.bool xe) 44
      have y8 := heap_new wr (.cells #[.int .u8 (q : Int), .slice p1 xs.length d1, .slice p2 xv.length d2, .slice p3 xx.length d3, .bool xe] 44)
      generalize wr.alloc (.cells #[.int .u8 (q : Int), .slice p1 xs.length d1, .slice p2 xv.length d2, .slice p3 xx.length d3, .bool xe] 44) = w0 at *
      generalize wr.heap.size = N at *
      go_upto_region 5 with fail
      have y9 := heap_new w0 (.cells #[.slice p3 xx.length d3, .bool xe] 47)
      have hnB := (Nw.refl w0).alloc (.cells #[.slice p3 xx.length d3, .bool xe] 47)
      have lB := lt_alloc w0 (.cells #[.slice p3 xx.length d3, .bool xe] 47)
      replace y8 := hnB.heap y8
      have hnC := hnA.trans hnB
      generalize w0.alloc (.cells #[.slice p3 xx.length d3, .bool xe] 47) = w1 at *
      generalize w0.heap.size = N9 at *
      replace hmid := hmid.nw hnC
      replace s1 := s1.nw hnC
      replace s2 := s2.nw hnC
      replace s3 := s3.nw hnC
      clear x0 x1 x2 x3 x4 hnA hnB c0 c1 c2 c3 c4 gg hnC hnW
      have x0 := heap_cell y8 0
      have x1 := heap_cell y8 1
      have x2 := heap_cell y8 2
      have z0 := heap_cell y9 0
      have z1 := heap_cell y9 1
      have gx := lt_of_heap y8
      have gz := lt_of_heap y9
      simp only [List.getElem?_toArray, List.getElem?_cons_succ, List.getElem?_cons_zero] at x0 x1 x2 z0 z1
      by_cases h1 : qm = 1
      · subst h1
        obtain rfl : xp = true := HXP.out
        change run M (l.take (k + 1)) = putM (run M (l.take k)) xs xv xx xe at hrt
        have HRT2 := hid hrt
        clear hrt HXP
        generalize run M (l.take k) = Mk at *
        have HP := hid (put_c P1 Bm am vm1 fm1 Mk _ _ _ xs xv xx xe w1 hmid.mi hmid.ext.low s1 s2 s3 ls lv lx)
        go_upto_region 7 with (first
          | (go_at_call 24; refine HP.out.mono ?_; rintro en w2 ⟨rfl, hmo⟩)
          | fail)
        obtain ⟨P2, vm2, fm2, _, _, hd2, hmid2⟩ := mid_of hmid hmo
        obtain ⟨s1, s2, s3⟩ := TT.out w2 hmid2.md
        have y8' := keep_block hd2 (fun k q => (hmid.mi.own2 q).1) hlow (Nat.le_refl _) y8
        have y9' := keep_block hd2 (fun k q => (hmid.mi.own2 q).1) hlow (Nat.le_of_lt hz) y9
        have HQ := hid (rput_c P2 Br ar vr1 fr1 Mk _ _ _ xs xv xx xe w2 hmid2.ri hmid2.ext.low s1 s2 s3 ls lv lx)
        have HFN := hid (fun w' (h : RO w2 P2 Br ar vr1 (putM Mk xs xv xx xe) w') => fin_of hmid2 h)
        clear x0 x1 x2 z0 z1 gx gz y8 y9 hmo HP hmid hmid2 hd2 TT
        have x1 := heap_cell y8' 1
        have x2 := heap_cell y8' 2
        have z0 := heap_cell y9' 0
        have z1 := heap_cell y9' 1
        have gx := lt_of_heap y8'
        have gz := lt_of_heap y9'
        simp only [List.getElem?_toArray, List.getElem?_cons_succ, List.getElem?_cons_zero] at x1 x2 z0 z1
        clear y8' y9'
        go_upto_region 12 with (first
          | (go_at_call 31; refine HQ.out.mono ?_; rintro en w9 ⟨rfl, hro⟩)
          | fail)
        have hDO := HFN.out _ hro
        rw [← HRT2.out] at hDO
        clear hro HQ HFN x1 x2 z0 z1 gx gz s1 s2 s3
        obtain ⟨P9, vm9, fm9, vr9, fr9, hmid⟩ := hDO.mid
        have HLN := hid (fun w' (h : Nw w9 w') => len_c P9 Bm am vm9 fm9 _ w' (hmid.mi.nw h))
        have HC1 := hid (fun w' (h : Nw w9 w') => cells_c P9 Bm am vm9 fm9 _ w' (hmid.mi.nw h))
        have HC2 := hid (fun w' (h : Nw w9 w') => rcells_c P9 Br ar vr9 fr9 _ w' (hmid.ri.nw h))
        obtain ⟨p9, c9, rfl, e9⟩ := hmid.ri.shape
        have ga9 : ar < w9.heap.size := hmid.ri.lt
        have HDO := hid hDO
        clear hmid hDO
        generalize (run M (l.take (k + 1))).l.length = nl at *
        generalize cells (run M (l.take (k + 1))).l = nc at *
        refine wp_region_stairs (by kernel_rfl) (by kernel_rfl) (by kernel_rfl) ?_
        iterate 15
          refine Stairs.is ?_ ?_ ?_
          rotate_left 1
          · intro x wR hR hd K hK
            simp only [Act.put, List.setIfInBounds_toArray, List.set_cons_zero, List.set_cons_succ, Nat.reduceAdd, List.length_nil, List.length_cons, List.nil_append, List.cons_append, Say.ok] at hK ⊢
            clear hd
            change Hid _ at hK
            obtain ⟨hcR, hfR, hzR⟩ := nwc hR
            first | (refine wanted_yes ?_ ?_; rfl) | (refine wanted_no ?_ ?_; rfl)
            go_wp2_with (first | (go_at_call 28; refine (HLN.out _ (by repeat (first | assumption | exact Nw.refl _ | refine Nw.alloc ?_ _ | refine Nw.drew ?_ | refine Nw.drewN2 ?_ _ | (refine Nw.trans ?_ (by assumption))))).mono ?_; rintro en w5 ⟨rfl, hn5⟩) | (go_at_call 30; refine (HC1.out _ (by repeat (first | assumption | exact Nw.refl _ | refine Nw.alloc ?_ _ | refine Nw.drew ?_ | refine Nw.drewN2 ?_ _ | (refine Nw.trans ?_ (by assumption))))).mono ?_; rintro en w5 ⟨rfl, hn5⟩) | (go_at_call 48; refine (HC2.out _ (by repeat (first | assumption | exact Nw.refl _ | refine Nw.alloc ?_ _ | refine Nw.drew ?_ | refine Nw.drewN2 ?_ _ | (refine Nw.trans ?_ (by assumption))))).mono ?_; rintro en w5 ⟨rfl, hn5⟩))
            all_goals (refine hK.out _ _ ?_ ?_ <;> first | (solve | (repeat (first | assumption | exact Nw.refl _ | refine Nw.alloc ?_ _ | refine Nw.drew ?_ | refine Nw.drewN2 ?_ _ | (refine Nw.trans ?_ (by assumption))))) | exact rfl)
          try simp only [Act.put, List.setIfInBounds_toArray, List.set_cons_zero, List.set_cons_succ, Nat.reduceAdd, List.length_nil, List.length_cons, List.nil_append, List.cons_append]
        refine Stairs.nil ?_
        intro x wR hR hx
        clear hx
        obtain ⟨hcR, hfR, hzR⟩ := nwc hR
        have hDR := HDO.out.nw hR
        clear hcR hfR hzR HLN HC1 HC2 e9 ga9 HDO
        go_wp2
        go_roundw
        case rel => exact ⟨k + 1, by omega, by go_num, hDR⟩
        case measure => (simp [intOf] <;> omega)
      · obtain rfl : qm = 0 := by omega
        obtain rfl : xp = false := HXP.out
        change run M (l.take (k + 1)) = getM (run M (l.take k)) xs xv at hrt
        have HRT2 := hid hrt
        clear hrt HXP
        generalize run M (l.take k) = Mk at *
        have HP := hid (get_cp P1 Bm am vm1 fm1 Mk _ _ xs xv w1 hmid.mi hmid.ext.low s1 s2)
        obtain ⟨⟨⟨gs, ge⟩, go⟩, hgp⟩ : ∃ x, x = getP Mk xs xv := ⟨_, rfl⟩
        have HGP := hid hgp
        rw [← hgp] at HP
        clear hgp
        go_upto_region 8 with fail
        go_upto_region 9 with (first
          | (go_at_call 25; refine HP.out.mono ?_; rintro en w2 ⟨⟨u, rfl, hu, hub⟩, hmo⟩; dsimp only at hu ⊢; obtain ⟨pu, cu, rfl, _⟩ := id hu.open)
          | fail)
        obtain ⟨P2, vm2, fm2, hsub, hnew, hd2, hmid2⟩ := mid_of hmid hmo
        have n3 := (Nw.refl w2).alloc (.cells #[.slice pu gs.length cu, .bool ge] 47)
        have y10 := heap_new w2 (.cells #[.slice pu gs.length cu, .bool ge] 47)
        have l10 := hd2.size
        have y8' := n3.heap (keep_block hd2 (fun k q => (hmid.mi.own2 q).1) hlow (Nat.le_refl _) y8)
        replace hmid2 := hmid2.nw n3
        replace hu := hu.nw n3
        clear n3
        change Code.wp _ _ _ _ (w2.alloc (.cells #[.slice pu gs.length cu, .bool ge] 47))
        generalize w2.alloc (.cells #[.slice pu gs.length cu, .bool ge] 47) = w3 at *
        generalize w2.heap.size = N10 at *
        obtain ⟨s1, s2, s3⟩ := TT.out w3 hmid2.md
        have HQ := hid (rget_c P2 Br ar vr1 fr1 Mk _ _ xs xv w3 hmid2.ri hmid2.ext.low s1 s2 ls lv)
        have HFN := hid (fun w' (h : RO w3 P2 Br ar vr1 (getM Mk xs xv) w') => fin_of hmid2 h)
        have HKB := hid (fun w' (h : RO w3 P2 Br ar vr1 (getM Mk xs xv) w') => show Set w' (.slice pu gs.length cu) gs ∧ w'.heap[N10]? = some (.cells #[.slice pu gs.length cu, .bool ge] 47 (0, 0)) by
          obtain ⟨_, _, _, _, _, _, _, hd4, _⟩ := h
          exact ⟨Sl.mods hu hd4 fun _ k hk q => hub k hk (hmid.ri.own2 q).1, keep_block hd4 (fun k q => (hmid.ri.own2 q).1) hlow (by omega) y10⟩)
        rw [← HGP.out] at HQ
        clear x0 x1 x2 z0 z1 gx gz y8 y9 hmo HP hmid hmid2 hd2 TT hu hub hsub hnew s1 s2 s3
        have x1 := heap_cell y8' 1
        have x2 := heap_cell y8' 2
        have gx := lt_of_heap y8'
        simp only [List.getElem?_toArray, List.getElem?_cons_succ, List.getElem?_cons_zero] at x1 x2
        clear y8' y10
        go_upto_region 10 with (first
          | (go_at_call 32; refine HQ.out.mono ?_; rintro en w4 ⟨⟨u2, rfl, hu2⟩, hro⟩; dsimp only at hu2 ⊢; obtain ⟨pv, cv, rfl, _⟩ := id hu2.open)
          | fail)
        obtain ⟨hu, y10⟩ := HKB.out _ hro
        have hDO := HFN.out _ hro
        have n5 := (Nw.refl w4).alloc (.cells #[.slice pv gs.length cv, .bool ge] 47)
        have y12 := heap_new w4 (.cells #[.slice pv gs.length cv, .bool ge] 47)
        replace y10 := n5.heap y10
        replace hDO := hDO.nw n5
        replace hu := hu.nw n5
        replace hu2 := hu2.nw n5
        clear n5 hro HKB HFN HQ x1 x2 gx
        change Code.wp _ _ _ _ (w4.alloc (.cells #[.slice pv gs.length cv, .bool ge] 47))
        generalize w4.alloc (.cells #[.slice pv gs.length cv, .bool ge] 47) = w5 at *
        generalize w4.heap.size = N12 at *
        have HSM := hid (samem_c _ _ gs gs ge ge w5 hu hu2)
        rw [decide_eq_true rfl, beq_self_eq_true, Bool.true_and] at HSM
        have x0 := heap_cell y10 0
        have x1 := heap_cell y10 1
        have z0 := heap_cell y12 0
        have z1 := heap_cell y12 1
        have gx := lt_of_heap y10
        have gz := lt_of_heap y12
        simp only [List.getElem?_toArray, List.getElem?_cons_succ, List.getElem?_cons_zero] at x0 x1 z0 z1
        clear y10 y12 hu hu2
        rw [← HRT2.out] at hDO
        cases go with
        | true =>
          go_upto_region 12 with (first
            | (go_at_call 47; refine HSM.out.mono ?_; rintro en w9 ⟨rfl, hn9⟩)
            | fail)
          replace hDO := hDO.nw hn9
          clear hn9 HSM x0 x1 z0 z1 gx gz
          obtain ⟨P9, vm9, fm9, vr9, fr9, hmid⟩ := hDO.mid
          have HLN := hid (fun w' (h : Nw w9 w') => len_c P9 Bm am vm9 fm9 _ w' (hmid.mi.nw h))
          have HC1 := hid (fun w' (h : Nw w9 w') => cells_c P9 Bm am vm9 fm9 _ w' (hmid.mi.nw h))
          have HC2 := hid (fun w' (h : Nw w9 w') => rcells_c P9 Br ar vr9 fr9 _ w' (hmid.ri.nw h))
          obtain ⟨p9, c9, rfl, e9⟩ := hmid.ri.shape
          have ga9 : ar < w9.heap.size := hmid.ri.lt
          have HDO := hid hDO
          clear hmid hDO
          generalize (run M (l.take (k + 1))).l.length = nl at *
          generalize cells (run M (l.take (k + 1))).l = nc at *
          refine wp_region_stairs (by kernel_rfl) (by kernel_rfl) (by kernel_rfl) ?_
          iterate 15
            refine Stairs.is ?_ ?_ ?_
            rotate_left 1
            · intro x wR hR hd K hK
              simp only [Act.put, List.setIfInBounds_toArray, List.set_cons_zero, List.set_cons_succ, Nat.reduceAdd, List.length_nil, List.length_cons, List.nil_append, List.cons_append, Say.ok] at hK ⊢
              clear hd
              change Hid _ at hK
              obtain ⟨hcR, hfR, hzR⟩ := nwc hR
              first | (refine wanted_yes ?_ ?_; rfl) | (refine wanted_no ?_ ?_; rfl)
              go_wp2_with (first | (go_at_call 28; refine (HLN.out _ (by repeat (first | assumption | exact Nw.refl _ | refine Nw.alloc ?_ _ | refine Nw.drew ?_ | refine Nw.drewN2 ?_ _ | (refine Nw.trans ?_ (by assumption))))).mono ?_; rintro en w5 ⟨rfl, hn5⟩) | (go_at_call 30; refine (HC1.out _ (by repeat (first | assumption | exact Nw.refl _ | refine Nw.alloc ?_ _ | refine Nw.drew ?_ | refine Nw.drewN2 ?_ _ | (refine Nw.trans ?_ (by assumption))))).mono ?_; rintro en w5 ⟨rfl, hn5⟩) | (go_at_call 48; refine (HC2.out _ (by repeat (first | assumption | exact Nw.refl _ | refine Nw.alloc ?_ _ | refine Nw.drew ?_ | refine Nw.drewN2 ?_ _ | (refine Nw.trans ?_ (by assumption))))).mono ?_; rintro en w5 ⟨rfl, hn5⟩))
              all_goals (refine hK.out _ _ ?_ ?_ <;> first | (solve | (repeat (first | assumption | exact Nw.refl _ | refine Nw.alloc ?_ _ | refine Nw.drew ?_ | refine Nw.drewN2 ?_ _ | (refine Nw.trans ?_ (by assumption))))) | exact rfl)
            try simp only [Act.put, List.setIfInBounds_toArray, List.set_cons_zero, List.set_cons_succ, Nat.reduceAdd, List.length_nil, List.length_cons, List.nil_append, List.cons_append]
          refine Stairs.nil ?_
          intro x wR hR hx
          clear hx
          obtain ⟨hcR, hfR, hzR⟩ := nwc hR
          have hDR := HDO.out.nw hR
          clear hcR hfR hzR HLN HC1 HC2 e9 ga9 HDO
          go_wp2
          go_roundw
          case rel => exact ⟨k + 1, by omega, by go_num, hDR⟩
          case measure => (simp [intOf] <;> omega)
        | false =>
          go_upto_region 12 with (first
            | (go_at_call 47; refine HSM.out.mono ?_; rintro en w9 ⟨rfl, hn9⟩)
            | fail)
          replace hDO := hDO.nw hn9
          clear hn9 HSM x0 x1 z0 z1 gx gz
          obtain ⟨P9, vm9, fm9, vr9, fr9, hmid⟩ := hDO.mid
          have HLN := hid (fun w' (h : Nw w9 w') => len_c P9 Bm am vm9 fm9 _ w' (hmid.mi.nw h))
          have HC1 := hid (fun w' (h : Nw w9 w') => cells_c P9 Bm am vm9 fm9 _ w' (hmid.mi.nw h))
          have HC2 := hid (fun w' (h : Nw w9 w') => rcells_c P9 Br ar vr9 fr9 _ w' (hmid.ri.nw h))
          obtain ⟨p9, c9, rfl, e9⟩ := hmid.ri.shape
          have ga9 : ar < w9.heap.size := hmid.ri.lt
          have HDO := hid hDO
          clear hmid hDO
          generalize (run M (l.take (k + 1))).l.length = nl at *
          generalize cells (run M (l.take (k + 1))).l = nc at *
          refine wp_region_stairs (by kernel_rfl) (by kernel_rfl) (by kernel_rfl) ?_
          iterate 15
            refine Stairs.is ?_ ?_ ?_
            rotate_left 1
            · intro x wR hR hd K hK
              simp only [Act.put, List.setIfInBounds_toArray, List.set_cons_zero, List.set_cons_succ, Nat.reduceAdd, List.length_nil, List.length_cons, List.nil_append, List.cons_append, Say.ok] at hK ⊢
              clear hd
              change Hid _ at hK
              obtain ⟨hcR, hfR, hzR⟩ := nwc hR
              first | (refine wanted_yes ?_ ?_; rfl) | (refine wanted_no ?_ ?_; rfl)
              go_wp2_with (first | (go_at_call 28; refine (HLN.out _ (by repeat (first | assumption | exact Nw.refl _ | refine Nw.alloc ?_ _ | refine Nw.drew ?_ | refine Nw.drewN2 ?_ _ | (refine Nw.trans ?_ (by assumption))))).mono ?_; rintro en w5 ⟨rfl, hn5⟩) | (go_at_call 30; refine (HC1.out _ (by repeat (first | assumption | exact Nw.refl _ | refine Nw.alloc ?_ _ | refine Nw.drew ?_ | refine Nw.drewN2 ?_ _ | (refine Nw.trans ?_ (by assumption))))).mono ?_; rintro en w5 ⟨rfl, hn5⟩) | (go_at_call 48; refine (HC2.out _ (by repeat (first | assumption | exact Nw.refl _ | refine Nw.alloc ?_ _ | refine Nw.drew ?_ | refine Nw.drewN2 ?_ _ | (refine Nw.trans ?_ (by assumption))))).mono ?_; rintro en w5 ⟨rfl, hn5⟩))
              all_goals (refine hK.out _ _ ?_ ?_ <;> first | (solve | (repeat (first | assumption | exact Nw.refl _ | refine Nw.alloc ?_ _ | refine Nw.drew ?_ | refine Nw.drewN2 ?_ _ | (refine Nw.trans ?_ (by assumption))))) | exact rfl)
            try simp only [Act.put, List.setIfInBounds_toArray, List.set_cons_zero, List.set_cons_succ, Nat.reduceAdd, List.length_nil, List.length_cons, List.nil_append, List.cons_append]
          refine Stairs.nil ?_
          intro x wR hR hx
          clear hx
          obtain ⟨hcR, hfR, hzR⟩ := nwc hR
          have hDR := HDO.out.nw hR
          clear hcR hfR hzR HLN HC1 HC2 e9 ga9 HDO
          go_wp2
          go_roundw
          case rel => exact ⟨k + 1, by omega, by go_num, hDR⟩
          case measure => (simp [intOf] <;> omega)
    · obtain rfl : k = l.length := by omega
      have hdk : decide (l.length < l.length) = false := decide_eq_false (by omega)
      rw [HRA.out] at hdo
      go_wp2
      go_ret
      exact ⟨rfl, hdo⟩
end Mm
end Go.Proofs.Ythellicimicieaa
