/- MemoLast walked. No condition. -/
import Derived.Test.YthellicimicieaaMemoR
import Derived.Deep.CutRange
set_option linter.unusedSimpArgs false
set_option linter.unusedVariables false
namespace Go.Proofs.Ythellicimicieaa
open Go.ChangeShapes Go.WideShapes Go.ChangeAt Go.RowKit
namespace Mm
open Go.Proofs.Ythellicimicieaa.Words (Wd wd trim Set ws ws_one ws_length same same_c samewords_c rtrim_c HandsW)
theorem lastK_bd (A : List Ac) (s v : List Wd) : ∀ i, -1 ≤ lastK A s v i ∧ lastK A s v i < (i : Int)
  | 0 => by unfold lastK; omega
  | i + 1 => by
    have := lastK_bd A s v i
    unfold lastK
    split <;> omega
def TrS (s : List Wd) : Says := fun w v => Set w v s
theorem TrS.stab (s : List Wd) : Stab (TrS s) := fun _ _ _ h hn => Set.nw h hn
attribute [simp] TrS.stab
set_option maxRecDepth 20000 in
set_option maxHeartbeats 40000000 in
theorem last_walk (room : Int) (vl : Value) (l : List Ac) (w : World) (hl : Acs w vl l) : Calls Try.prog 5 #[.int .i64 room, vl] w fun en w' => en = .returned (.bool true) ∧ Nw w w' := by
  have HG := hid (great_c vl l w hl)
  obtain ⟨p, cap, rfl, hcap, hmx, hp0, hc⟩ := hl
  unfold maxLen at hmx
  have HC := hid hc
  clear hc
  go_enter Try.func5, Try.ntmps5
  go_upto_region 3 with (first
    | (go_at_call 19; refine HG.out.mono ?_; rintro en w1 ⟨hn1, h1⟩; rcases h1 with ⟨rfl, hf⟩ | ⟨rfl, hf⟩)
    | (go_at_call 20; refine (awake_c _).mono ?_; rintro en w8 ⟨rfl, hn8⟩)
    | fail)
  rotate_left
  · go_ret
    exact ⟨rfl, hn1.trans hn8⟩
  have HN := hid (new_st w w1 room hn1)
  have HFT := hid hf
  have hl3 := hf.1
  clear HG hf
  obtain ⟨r0, r1, r2⟩ := rm_bd room
  have HRM := hid r2
  generalize hn : rm room = n at *
  clear r2 hn
  go_upto_region 4 with (first
    | (go_at_call 21; refine HN.out.mono ?_; rintro en w2 ⟨a, rfl, hs2⟩)
    | fail)
  clear HN hn1
  go_upto_region 7 with fail
  go_loopw [6, 7, 8, 9, 10, 11, 12, 23] (fun _ _ _ _ _ _ _ i wr => ∃ (k : Nat) (m : Me), k ≤ l.length ∧ i = .int .i64 k ∧ St w a m wr ∧ Hid (Inv n l k m)) (fun _ _ _ _ _ _ _ i _ => l.length - (intOf i).toNat)
  case atStart => exact ⟨0, _, Nat.zero_le _, rfl, hs2, hid (inv_new r0 r1 l)⟩
  case round =>
    obtain ⟨k, m, hk, rfl, hst, hiv⟩ := hrel
    by_cases hlt : k < l.length
    · have hdk : decide (k < l.length) = true := decide_eq_true hlt
      obtain ⟨P, B, vm, fm, hmi, hlow, hPW, hnW⟩ := hst
      obtain ⟨b, off, q, v1, v2, v3, rfl, hq, hp, c0, c1, c2, c3, c4, s1, s2, s3⟩ := HC.out k hlt
      replace c0 := hnW.cell c0
      replace c1 := hnW.cell c1
      replace c2 := hnW.cell c2
      replace c3 := hnW.cell c3
      replace c4 := hnW.cell c4
      have gg := World.block_lt_of_cell? wr _ c0
      simp only at gg
      have hok := HFT.out.ok k hlt
      obtain ⟨p1, d1, rfl, _⟩ := id s1.open
      obtain ⟨p2, d2, rfl, _⟩ := id s2.open
      obtain ⟨p3, d3, rfl, _⟩ := id s3.open
      obtain ⟨qm, hqm⟩ : ∃ qm, q % 2 = qm := ⟨_, rfl⟩
      have hq2 : (q : Int) % 2 = (qm : Int) := by omega
      have hqb : qm < 2 := by omega
      rw [hqm] at hp
      clear hqm
      have HXP := hid hp
      clear hp
      have HX := hid (show ac l k = ac l k from rfl)
      obtain ⟨X, hX⟩ : ∃ X, X = ac l k := ⟨_, rfl⟩
      have HXE := hid hX
      rw [← hX] at s1 s2 s3 c1 c2 c3 c4 hok HXP
      clear hX HX
      obtain ⟨xp, xs, xv, xx, xe⟩ := X
      dsimp only at HXP c4 s1 s2 s3 c1 c2 c3
      obtain ⟨ls, lv, lx⟩ := hok
      dsimp only at ls lv lx
      have S1 := hid s1
      have S2 := hid s2
      go_upto_region 9 with fail
      obtain ⟨x0, x1, x2, x3, x4, hz, hnA⟩ := box5 wr (.int .u8 (q : Int)) (.slice p1 xs.length d1) (.slice p2 xv.length d2) (.slice p3 xx.length d3) (.bool xe) 44
      have y7 := heap_new wr (.cells #[.int .u8 (q : Int), .slice p1 xs.length d1, .slice p2 xv.length d2, .slice p3 xx.length d3, .bool xe] 44)
      generalize wr.alloc (.cells #[.int .u8 (q : Int), .slice p1 xs.length d1, .slice p2 xv.length d2, .slice p3 xx.length d3, .bool xe] 44) = w3 at *
      have hmi3 := hmi.nw hnA
      have hN3 := lt_of_heap y7
      have hWN := hnW.size
      have hnW3 := hnW.trans hnA
      have hnP : ¬ P wr.heap.size := fun q => by have := hlow _ q; omega
      have hlow3 : ∀ k, P k → k < w3.heap.size := fun k q => by have := hlow k q; omega
      generalize wr.heap.size = N at *
      clear c0 c1 c2 c3 c4 hnA gg hnW hmi hlow
      replace s1 := s1.nw hnW3
      replace s2 := s2.nw hnW3
      replace s3 := s3.nw hnW3
      have HP := hid (fun (_ : xp = true) => put_c P B a vm fm m _ _ _ xs xv xx xe w3 hmi3 hlow3 s1 s2 s3 ls lv lx)
      go_upto_if 31 with fail
      go_cut [7] from 24 to 150 (fun v7 wx => v7 = .pointer (some ⟨N, 0, none⟩) ∧ ∃ (m1 : Me) (P4 : Nat → Prop) (vm4 : Value) (fm4 : Nat → V3), MI wx P4 B a vm4 fm4 m1 ∧ (∀ k, P4 k → k < wx.heap.size) ∧ ¬ P4 N ∧ (∀ k, P4 k → w.heap.size ≤ k) ∧ Nw w wx ∧ wx.heap[N]? = some (.cells #[.int .u8 (q : Int), .slice p1 xs.length d1, .slice p2 xv.length d2, .slice p3 xx.length d3, .bool xe] 44 (0, 0)) ∧ Hid (Inv n l (k + 1) m1) ∧ Hid (xp = true → getP m1 xs xv = ((trim xx, xe), true)))
      case first =>
        by_cases hq1 : qm = 1
        · subst hq1
          obtain rfl : xp = true := HXP.out
          have HP2 := hid (HP.out rfl)
          have hiv2 := inv_put hiv.out (by rw [← HXE.out]) (by rw [← HXE.out]; exact ⟨ls, lv, lx⟩)
          rw [← HXE.out] at hiv2
          have hgp := getP_put hiv.out.ok hiv.out.uniq xs xv xx xe
          change Inv n l (k + 1) (putM m xs xv xx xe) at hiv2
          generalize putM m xs xv xx xe = m1 at *
          have HIV := hid hiv2
          have HGP := hid (fun (_ : true = true) => hgp)
          clear hiv2 hgp HP hqb
          go_wp2_with (first
            | (go_at_call 24; refine HP2.out.mono ?_; rintro en w4 ⟨rfl, hmo⟩)
            | fail)
          go_meet
          obtain ⟨P4, vm4, fm4, e1, e2, e3, hmi4, hd4, _⟩ := hmo
          exact ⟨rfl, m1, P4, vm4, fm4, hmi4, e3, fun q => by rcases e2 N q with q | q; exact hnP q; omega, fun k q => by rcases e2 k q with q | q; exact hPW k q; exact Nat.le_trans hnW3.size q, hnW3.ofMods hd4 fun k q => hPW k (hmi3.own2 q).1, hd4.heap y7 (fun q => hnP (hmi3.own2 (k := N) q).1), HIV, HGP⟩
        · obtain rfl : qm = 0 := by omega
          obtain rfl : xp = false := HXP.out
          have HIV := hid (inv_skip hiv.out (by rw [← HXE.out]))
          clear HP hqb
          go_wp2
          go_meet
          exact ⟨rfl, m, P, vm, fm, hmi3, hlow3, hnP, hPW, hnW3, y7, HIV, hid (fun h => absurd h (by decide))⟩
      case rest =>
        obtain ⟨rfl, m1, P4, vm4, fm4, hmi4, e3, hnP4, hPW4, hnW4, y74, HIV, HGP⟩ := hcut
        have s1 := S1.out.nw hnW4
        have s2 := S2.out.nw hnW4
        clear x0 x1 x2 x3 x4 hmi3 HP hiv hnP hPW hnW3 y7 hlow3 s3 hN3
        generalize wc = w4 at *
        have hst4 : St w a m1 w4 := ⟨P4, B, vm4, fm4, hmi4, e3, hPW4, hnW4⟩
        have HGT := hid (get_cp P4 B a vm4 fm4 m1 _ _ xs xv w4 hmi4 e3 s1 s2)
        have HML := hid (show m1.l.length ≤ k + 1 ∧ m1.l.length ≤ n from ⟨HIV.out.len, by have := HIV.out.ok.len; have := HIV.out.room; omega⟩)
        have HTO := hid (fun h => inv_told HIV.out xs xv h)
        have HNO := hid (fun h => getP_no (m := m1) (s := xs) (v := xv) h)
        obtain ⟨⟨⟨gs, ge⟩, go⟩, hgp⟩ : ∃ x, x = getP m1 xs xv := ⟨_, rfl⟩
        rw [← hgp] at HGT HGP HTO HNO
        clear hgp
        have x1 := heap_cell y74 1
        have x2 := heap_cell y74 2
        have gx := lt_of_heap y74
        simp only [List.getElem?_toArray, List.getElem?_cons_succ, List.getElem?_cons_zero] at x1 x2
        go_upto_region 12 with (first
          | (go_at_call 25; refine HGT.out.mono ?_; rintro en w5 ⟨⟨u, rfl, hu, hub⟩, hmo5⟩; dsimp only at hu ⊢; obtain ⟨pu, cu, rfl, _⟩ := id hu.open)
          | fail)
        have hst5 := st_of hmi4 hPW4 hnW4 hmo5
        have y75 : w5.heap[N]? = some (.cells #[.int .u8 (q : Int), .slice p1 xs.length d1, .slice p2 xv.length d2, .slice p3 xx.length d3, .bool xe] 44 (0, 0)) := by
          obtain ⟨_, _, _, _, _, _, _, hd5, _⟩ := hmo5
          exact hd5.heap y74 (fun q => hnP4 (hmi4.own2 (k := N) q).1)
        have n6 := (Nw.refl w5).alloc (.cells #[.slice pu gs.length cu, .bool ge] 47)
        have y8 := heap_new w5 (.cells #[.slice pu gs.length cu, .bool ge] 47)
        replace y75 := n6.heap y75
        replace hst5 := hst5.nw n6
        replace hu := hu.nw n6
        clear x1 x2 gx hmi4 hPW4 hnW4 hmo5 y74 hst4 hub n6 HGT hnP4 e3 s1 s2
        change Code.wp _ _ _ _ (w5.alloc (.cells #[.slice pu gs.length cu, .bool ge] 47))
        generalize w5.alloc (.cells #[.slice pu gs.length cu, .bool ge] 47) = w6 at *
        generalize w5.heap.size = N8 at *
        have HW6 := hid hst5.base
        have hk1c : k + 1 ≤ cap := by omega
        have HTC := hid (fun w' (h : Nw w6 w') => rtrim_c (.slice p1 xs.length d1) xs w' (S1.out.nw (HW6.out.trans h)) (by omega))
        have HTD := hid (fun w' (h : Nw w6 w') => rtrim_c (.slice p2 xv.length d2) xv w' (S2.out.nw (HW6.out.trans h)) (by omega))
        go_upto_region 14 with fail
        go_loopw [10, 11, 12, 57] (fun la _ _ i wr => ∃ j : Nat, j ≤ k + 1 ∧ i = .int .i64 j ∧ la = .int .i64 (lastK l xs xv j) ∧ Nw w6 wr) (fun _ _ _ i _ => k + 1 - (intOf i).toNat)
        case atStart => exact ⟨0, Nat.zero_le _, rfl, rfl, Nw.refl _⟩
        case round =>
          obtain ⟨j, hj, rfl, rfl, hn⟩ := hrel
          obtain ⟨lb1, lb2⟩ := lastK_bd l xs xv j
          by_cases hltj : j < k + 1
          · have hdj : decide ((j : Int) < (k : Int) + 1) = true := decide_eq_true (by omega)
            have hnWj := HW6.out.trans hn
            obtain ⟨b', off', q', w1', w2', w3', e', hq', hp', c0, c1, c2, c3, c4, s1, s2, s3⟩ := HC.out j (by omega)
            cases e'
            replace c0 := hnWj.cell c0
            replace c1 := hnWj.cell c1
            replace c2 := hnWj.cell c2
            replace c3 := hnWj.cell c3
            replace c4 := hnWj.cell c4
            have gg := World.block_lt_of_cell? wr _ c0
            simp only at gg
            obtain ⟨la1, la2, la3⟩ := HFT.out.2 j (by omega)
            obtain ⟨p5, d5, rfl, _⟩ := id s1.open
            obtain ⟨p6, d6, rfl, _⟩ := id s2.open
            obtain ⟨p7, d7, rfl, _⟩ := id s3.open
            obtain ⟨qn, hqn⟩ : ∃ qn, q' % 2 = qn := ⟨_, rfl⟩
            have hq2' : (q' : Int) % 2 = (qn : Int) := by omega
            have hqb' : qn < 2 := by omega
            rw [hqn] at hp'
            clear hqn
            have HIS := hid (show isL l xs xv j = (decide (qn = 1) && (decide (trim (ac l j).s = trim xs) && decide (trim (ac l j).v = trim xv))) by rw [← hp']; rfl)
            have HLK := hid (show lastK l xs xv (j + 1) = if isL l xs xv j = true then (j : Int) else lastK l xs xv j from rfl)
            have HTA := hid (fun w' (h : Nw w6 w') => rtrim_c (.slice p5 (ac l j).s.length d5) (ac l j).s w' (s1.nw (HW6.out.trans h)) (by omega))
            have HTB := hid (fun w' (h : Nw w6 w') => rtrim_c (.slice p6 (ac l j).v.length d6) (ac l j).v w' (s2.nw (HW6.out.trans h)) (by omega))
            clear hp' s1 s2 s3
            generalize (ac l j).s = ys at *
            generalize (ac l j).v = yv at *
            generalize (ac l j).x.length = ylx at *
            generalize (ac l j).e = ye at *
            have HS1 := hid (fun w' u1 u2 (h1 : Set w' u1 (trim ys)) (h2 : Set w' u2 (trim xs)) => samewords_c u1 u2 _ _ w' h1 h2)
            have HS2 := hid (fun w' u1 u2 (h1 : Set w' u1 (trim yv)) (h2 : Set w' u2 (trim xv)) => samewords_c u1 u2 _ _ w' h1 h2)
            generalize decide (trim ys = trim xs) = b1 at *
            generalize decide (trim yv = trim xv) = b2 at *
            generalize lastK l xs xv j = LK at *
            go_upto_region 16 with fail
            obtain ⟨z0, z1, z2, z3, z4, hzz, hnA⟩ := box5 wr (.int .u8 (q' : Int)) (.slice p5 ys.length d5) (.slice p6 yv.length d6) (.slice p7 ylx d7) (.bool ye) 44
            generalize wr.alloc (.cells #[.int .u8 (q' : Int), .slice p5 ys.length d5, .slice p6 yv.length d6, .slice p7 ylx d7, .bool ye] 44) = w7 at *
            have hn7 := hn.trans hnA
            have y77 := hn7.heap y75
            have u1 := heap_cell y77 1
            have u2 := heap_cell y77 2
            have gu := lt_of_heap y77
            simp only [List.getElem?_toArray, List.getElem?_cons_succ, List.getElem?_cons_zero] at u1 u2
            generalize wr.heap.size = N12 at *
            clear c0 c1 c2 c3 c4 gg hnA hn hnWj y77
            clear HTO HNO HGP HIV HML hst5 hu y8 y75 HXP HXE HRM HC HFT S1 S2 ls lv lx lb1 lb2 la1 la2 la3 hqb hq2
            have HJL := hid hltj
            clear hltj hj
            by_cases hqq : qn = 1
            · subst hqq
              clear hqb'
              cases b1 with
              | false =>
                obtain HF := hid (show lastK l xs xv (j + 1) = LK by rw [HLK.out, HIS.out]; rfl)
                as_aux_lemma =>
                  refine wp_region_stairs (by kernel_rfl) (by kernel_rfl) (by kernel_rfl) ?_
                  iterate 2
                    refine Stairs.is ?_ ?_ ?_
                    rotate_left 1
                    · intro x wR hR hd K hK
                      simp only [Act.put, List.setIfInBounds_toArray, List.set_cons_zero, List.set_cons_succ, Nat.reduceAdd, List.length_nil, List.length_cons, List.nil_append, List.cons_append, Say.ok] at hK ⊢
                      clear hd
                      change Hid _ at hK
                      obtain ⟨hcR, hfR, hzR⟩ := nwc hR
                      first | (refine wanted_yes ?_ ?_; rfl) | (refine wanted_no ?_ ?_; rfl)
                      first | (refine hK.out _ _ ?_ ?_ <;> first | (solve | (repeat (first | assumption | exact Nw.refl _ | refine Nw.alloc ?_ _ | refine Nw.drew ?_ | refine Nw.drewN2 ?_ _ | (refine Nw.trans ?_ (by assumption))))) | ((conv => lhs; whnf) <;> exact rfl) | exact rfl | exact congrArg (Value.int .u8) hq2 | exact congrArg (Value.int .u8) hq2' | exact hs5 | exact congrArg Value.bool hd0 | exact congrArg Value.bool (by simp)) | (go_step; first | (refine hK.out _ _ ?_ ?_ <;> first | (solve | (repeat (first | assumption | exact Nw.refl _ | refine Nw.alloc ?_ _ | refine Nw.drew ?_ | refine Nw.drewN2 ?_ _ | (refine Nw.trans ?_ (by assumption))))) | ((conv => lhs; whnf) <;> exact rfl) | exact rfl | exact congrArg (Value.int .u8) hq2 | exact congrArg (Value.int .u8) hq2' | exact hs5 | exact congrArg Value.bool hd0 | exact congrArg Value.bool (by simp)) | ((first | (go_at_call_of 27 (Value.slice p5 ys.length d5); refine (HTA.out _ (hn7.trans (by repeat (first | assumption | exact Nw.refl _ | refine Nw.alloc ?_ _ | refine Nw.drew ?_ | refine Nw.drewN2 ?_ _ | (refine Nw.trans ?_ (by assumption)))))).mono ?_; rintro en w5' ⟨v5, rfl, hs5, hf5, hn5⟩) | (go_at_call_of 27 (Value.slice p6 yv.length d6); refine (HTB.out _ (hn7.trans (by repeat (first | assumption | exact Nw.refl _ | refine Nw.alloc ?_ _ | refine Nw.drew ?_ | refine Nw.drewN2 ?_ _ | (refine Nw.trans ?_ (by assumption)))))).mono ?_; rintro en w5' ⟨v5, rfl, hs5, hf5, hn5⟩) | (go_at_call_of 27 (Value.slice p1 xs.length d1); refine (HTC.out _ (hn7.trans (by repeat (first | assumption | exact Nw.refl _ | refine Nw.alloc ?_ _ | refine Nw.drew ?_ | refine Nw.drewN2 ?_ _ | (refine Nw.trans ?_ (by assumption)))))).mono ?_; rintro en w5' ⟨v5, rfl, hs5, hf5, hn5⟩) | (go_at_call 27; refine (HTD.out _ (hn7.trans (by repeat (first | assumption | exact Nw.refl _ | refine Nw.alloc ?_ _ | refine Nw.drew ?_ | refine Nw.drewN2 ?_ _ | (refine Nw.trans ?_ (by assumption)))))).mono ?_; rintro en w5' ⟨v5, rfl, hs5, hf5, hn5⟩) | (go_at_call_of 26 (x 7); refine (HS1.out _ _ _ (by first | exact hd | exact hd.1 | exact hd.2 | exact hd.2.1 | exact hd.2.2) (by first | exact hd | exact hd.1 | exact hd.2 | exact hd.2.1 | exact hd.2.2)).mono ?_; rintro en w5' ⟨rfl, hn5⟩) | (go_at_call 26; refine (HS2.out _ _ _ (by first | exact hd | exact hd.1 | exact hd.2 | exact hd.2.1 | exact hd.2.2) (by first | exact hd | exact hd.1 | exact hd.2 | exact hd.2.1 | exact hd.2.2)).mono ?_; rintro en w5' ⟨rfl, hn5⟩)); (refine hK.out _ _ ?_ ?_ <;> first | (solve | (repeat (first | assumption | exact Nw.refl _ | refine Nw.alloc ?_ _ | refine Nw.drew ?_ | refine Nw.drewN2 ?_ _ | (refine Nw.trans ?_ (by assumption))))) | ((conv => lhs; whnf) <;> exact rfl) | exact rfl | exact congrArg (Value.int .u8) hq2 | exact congrArg (Value.int .u8) hq2' | exact hs5 | exact congrArg Value.bool hd0 | exact congrArg Value.bool (by simp))))
                    try simp only [Act.put, List.setIfInBounds_toArray, List.set_cons_zero, List.set_cons_succ, Nat.reduceAdd, List.length_nil, List.length_cons, List.nil_append, List.cons_append]
                  iterate 1
                    refine Stairs.is (.int .u8 1) ?_ ?_
                    · intro x wR hR hd K hK
                      simp only [Act.put, List.setIfInBounds_toArray, List.set_cons_zero, List.set_cons_succ, Nat.reduceAdd, List.length_nil, List.length_cons, List.nil_append, List.cons_append, Say.ok] at hK ⊢
                      clear hd
                      change Hid _ at hK
                      obtain ⟨hcR, hfR, hzR⟩ := nwc hR
                      first | (refine wanted_yes ?_ ?_; rfl) | (refine wanted_no ?_ ?_; rfl)
                      first | (refine hK.out _ _ ?_ ?_ <;> first | (solve | (repeat (first | assumption | exact Nw.refl _ | refine Nw.alloc ?_ _ | refine Nw.drew ?_ | refine Nw.drewN2 ?_ _ | (refine Nw.trans ?_ (by assumption))))) | ((conv => lhs; whnf) <;> exact rfl) | exact rfl | exact congrArg (Value.int .u8) hq2 | exact congrArg (Value.int .u8) hq2' | exact hs5 | exact congrArg Value.bool hd0 | exact congrArg Value.bool (by simp)) | (go_step; first | (refine hK.out _ _ ?_ ?_ <;> first | (solve | (repeat (first | assumption | exact Nw.refl _ | refine Nw.alloc ?_ _ | refine Nw.drew ?_ | refine Nw.drewN2 ?_ _ | (refine Nw.trans ?_ (by assumption))))) | ((conv => lhs; whnf) <;> exact rfl) | exact rfl | exact congrArg (Value.int .u8) hq2 | exact congrArg (Value.int .u8) hq2' | exact hs5 | exact congrArg Value.bool hd0 | exact congrArg Value.bool (by simp)) | ((first | (go_at_call_of 27 (Value.slice p5 ys.length d5); refine (HTA.out _ (hn7.trans (by repeat (first | assumption | exact Nw.refl _ | refine Nw.alloc ?_ _ | refine Nw.drew ?_ | refine Nw.drewN2 ?_ _ | (refine Nw.trans ?_ (by assumption)))))).mono ?_; rintro en w5' ⟨v5, rfl, hs5, hf5, hn5⟩) | (go_at_call_of 27 (Value.slice p6 yv.length d6); refine (HTB.out _ (hn7.trans (by repeat (first | assumption | exact Nw.refl _ | refine Nw.alloc ?_ _ | refine Nw.drew ?_ | refine Nw.drewN2 ?_ _ | (refine Nw.trans ?_ (by assumption)))))).mono ?_; rintro en w5' ⟨v5, rfl, hs5, hf5, hn5⟩) | (go_at_call_of 27 (Value.slice p1 xs.length d1); refine (HTC.out _ (hn7.trans (by repeat (first | assumption | exact Nw.refl _ | refine Nw.alloc ?_ _ | refine Nw.drew ?_ | refine Nw.drewN2 ?_ _ | (refine Nw.trans ?_ (by assumption)))))).mono ?_; rintro en w5' ⟨v5, rfl, hs5, hf5, hn5⟩) | (go_at_call 27; refine (HTD.out _ (hn7.trans (by repeat (first | assumption | exact Nw.refl _ | refine Nw.alloc ?_ _ | refine Nw.drew ?_ | refine Nw.drewN2 ?_ _ | (refine Nw.trans ?_ (by assumption)))))).mono ?_; rintro en w5' ⟨v5, rfl, hs5, hf5, hn5⟩) | (go_at_call_of 26 (x 7); refine (HS1.out _ _ _ (by first | exact hd | exact hd.1 | exact hd.2 | exact hd.2.1 | exact hd.2.2) (by first | exact hd | exact hd.1 | exact hd.2 | exact hd.2.1 | exact hd.2.2)).mono ?_; rintro en w5' ⟨rfl, hn5⟩) | (go_at_call 26; refine (HS2.out _ _ _ (by first | exact hd | exact hd.1 | exact hd.2 | exact hd.2.1 | exact hd.2.2) (by first | exact hd | exact hd.1 | exact hd.2 | exact hd.2.1 | exact hd.2.2)).mono ?_; rintro en w5' ⟨rfl, hn5⟩)); (refine hK.out _ _ ?_ ?_ <;> first | (solve | (repeat (first | assumption | exact Nw.refl _ | refine Nw.alloc ?_ _ | refine Nw.drew ?_ | refine Nw.drewN2 ?_ _ | (refine Nw.trans ?_ (by assumption))))) | ((conv => lhs; whnf) <;> exact rfl) | exact rfl | exact congrArg (Value.int .u8) hq2 | exact congrArg (Value.int .u8) hq2' | exact hs5 | exact congrArg Value.bool hd0 | exact congrArg Value.bool (by simp))))
                    try simp only [Act.put, List.setIfInBounds_toArray, List.set_cons_zero, List.set_cons_succ, Nat.reduceAdd, List.length_nil, List.length_cons, List.nil_append, List.cons_append]
                  iterate 4
                    refine Stairs.is ?_ ?_ ?_
                    rotate_left 1
                    · intro x wR hR hd K hK
                      simp only [Act.put, List.setIfInBounds_toArray, List.set_cons_zero, List.set_cons_succ, Nat.reduceAdd, List.length_nil, List.length_cons, List.nil_append, List.cons_append, Say.ok] at hK ⊢
                      clear hd
                      change Hid _ at hK
                      obtain ⟨hcR, hfR, hzR⟩ := nwc hR
                      first | (refine wanted_yes ?_ ?_; rfl) | (refine wanted_no ?_ ?_; rfl)
                      first | (refine hK.out _ _ ?_ ?_ <;> first | (solve | (repeat (first | assumption | exact Nw.refl _ | refine Nw.alloc ?_ _ | refine Nw.drew ?_ | refine Nw.drewN2 ?_ _ | (refine Nw.trans ?_ (by assumption))))) | ((conv => lhs; whnf) <;> exact rfl) | exact rfl | exact congrArg (Value.int .u8) hq2 | exact congrArg (Value.int .u8) hq2' | exact hs5 | exact congrArg Value.bool hd0 | exact congrArg Value.bool (by simp)) | (go_step; first | (refine hK.out _ _ ?_ ?_ <;> first | (solve | (repeat (first | assumption | exact Nw.refl _ | refine Nw.alloc ?_ _ | refine Nw.drew ?_ | refine Nw.drewN2 ?_ _ | (refine Nw.trans ?_ (by assumption))))) | ((conv => lhs; whnf) <;> exact rfl) | exact rfl | exact congrArg (Value.int .u8) hq2 | exact congrArg (Value.int .u8) hq2' | exact hs5 | exact congrArg Value.bool hd0 | exact congrArg Value.bool (by simp)) | ((first | (go_at_call_of 27 (Value.slice p5 ys.length d5); refine (HTA.out _ (hn7.trans (by repeat (first | assumption | exact Nw.refl _ | refine Nw.alloc ?_ _ | refine Nw.drew ?_ | refine Nw.drewN2 ?_ _ | (refine Nw.trans ?_ (by assumption)))))).mono ?_; rintro en w5' ⟨v5, rfl, hs5, hf5, hn5⟩) | (go_at_call_of 27 (Value.slice p6 yv.length d6); refine (HTB.out _ (hn7.trans (by repeat (first | assumption | exact Nw.refl _ | refine Nw.alloc ?_ _ | refine Nw.drew ?_ | refine Nw.drewN2 ?_ _ | (refine Nw.trans ?_ (by assumption)))))).mono ?_; rintro en w5' ⟨v5, rfl, hs5, hf5, hn5⟩) | (go_at_call_of 27 (Value.slice p1 xs.length d1); refine (HTC.out _ (hn7.trans (by repeat (first | assumption | exact Nw.refl _ | refine Nw.alloc ?_ _ | refine Nw.drew ?_ | refine Nw.drewN2 ?_ _ | (refine Nw.trans ?_ (by assumption)))))).mono ?_; rintro en w5' ⟨v5, rfl, hs5, hf5, hn5⟩) | (go_at_call 27; refine (HTD.out _ (hn7.trans (by repeat (first | assumption | exact Nw.refl _ | refine Nw.alloc ?_ _ | refine Nw.drew ?_ | refine Nw.drewN2 ?_ _ | (refine Nw.trans ?_ (by assumption)))))).mono ?_; rintro en w5' ⟨v5, rfl, hs5, hf5, hn5⟩) | (go_at_call_of 26 (x 7); refine (HS1.out _ _ _ (by first | exact hd | exact hd.1 | exact hd.2 | exact hd.2.1 | exact hd.2.2) (by first | exact hd | exact hd.1 | exact hd.2 | exact hd.2.1 | exact hd.2.2)).mono ?_; rintro en w5' ⟨rfl, hn5⟩) | (go_at_call 26; refine (HS2.out _ _ _ (by first | exact hd | exact hd.1 | exact hd.2 | exact hd.2.1 | exact hd.2.2) (by first | exact hd | exact hd.1 | exact hd.2 | exact hd.2.1 | exact hd.2.2)).mono ?_; rintro en w5' ⟨rfl, hn5⟩)); (refine hK.out _ _ ?_ ?_ <;> first | (solve | (repeat (first | assumption | exact Nw.refl _ | refine Nw.alloc ?_ _ | refine Nw.drew ?_ | refine Nw.drewN2 ?_ _ | (refine Nw.trans ?_ (by assumption))))) | ((conv => lhs; whnf) <;> exact rfl) | exact rfl | exact congrArg (Value.int .u8) hq2 | exact congrArg (Value.int .u8) hq2' | exact hs5 | exact congrArg Value.bool hd0 | exact congrArg Value.bool (by simp))))
                    try simp only [Act.put, List.setIfInBounds_toArray, List.set_cons_zero, List.set_cons_succ, Nat.reduceAdd, List.length_nil, List.length_cons, List.nil_append, List.cons_append]
                  iterate 1
                    refine Stairs.that (TrS (trim ys)) (by first | assumption | simp) ?_ ?_
                    · intro x wR hR hd K hK
                      simp only [Act.put, List.setIfInBounds_toArray, List.set_cons_zero, List.set_cons_succ, Nat.reduceAdd, List.length_nil, List.length_cons, List.nil_append, List.cons_append, Say.ok] at hK ⊢
                      clear hd
                      change Hid _ at hK
                      obtain ⟨hcR, hfR, hzR⟩ := nwc hR
                      first | (refine wanted_yes ?_ ?_; rfl) | (refine wanted_no ?_ ?_; rfl)
                      first | (refine hK.out _ _ ?_ ?_ <;> first | (solve | (repeat (first | assumption | exact Nw.refl _ | refine Nw.alloc ?_ _ | refine Nw.drew ?_ | refine Nw.drewN2 ?_ _ | (refine Nw.trans ?_ (by assumption))))) | ((conv => lhs; whnf) <;> exact rfl) | exact rfl | exact congrArg (Value.int .u8) hq2 | exact congrArg (Value.int .u8) hq2' | exact hs5 | exact congrArg Value.bool hd0 | exact congrArg Value.bool (by simp)) | (go_step; first | (refine hK.out _ _ ?_ ?_ <;> first | (solve | (repeat (first | assumption | exact Nw.refl _ | refine Nw.alloc ?_ _ | refine Nw.drew ?_ | refine Nw.drewN2 ?_ _ | (refine Nw.trans ?_ (by assumption))))) | ((conv => lhs; whnf) <;> exact rfl) | exact rfl | exact congrArg (Value.int .u8) hq2 | exact congrArg (Value.int .u8) hq2' | exact hs5 | exact congrArg Value.bool hd0 | exact congrArg Value.bool (by simp)) | ((first | (go_at_call_of 27 (Value.slice p5 ys.length d5); refine (HTA.out _ (hn7.trans (by repeat (first | assumption | exact Nw.refl _ | refine Nw.alloc ?_ _ | refine Nw.drew ?_ | refine Nw.drewN2 ?_ _ | (refine Nw.trans ?_ (by assumption)))))).mono ?_; rintro en w5' ⟨v5, rfl, hs5, hf5, hn5⟩) | (go_at_call_of 27 (Value.slice p6 yv.length d6); refine (HTB.out _ (hn7.trans (by repeat (first | assumption | exact Nw.refl _ | refine Nw.alloc ?_ _ | refine Nw.drew ?_ | refine Nw.drewN2 ?_ _ | (refine Nw.trans ?_ (by assumption)))))).mono ?_; rintro en w5' ⟨v5, rfl, hs5, hf5, hn5⟩) | (go_at_call_of 27 (Value.slice p1 xs.length d1); refine (HTC.out _ (hn7.trans (by repeat (first | assumption | exact Nw.refl _ | refine Nw.alloc ?_ _ | refine Nw.drew ?_ | refine Nw.drewN2 ?_ _ | (refine Nw.trans ?_ (by assumption)))))).mono ?_; rintro en w5' ⟨v5, rfl, hs5, hf5, hn5⟩) | (go_at_call 27; refine (HTD.out _ (hn7.trans (by repeat (first | assumption | exact Nw.refl _ | refine Nw.alloc ?_ _ | refine Nw.drew ?_ | refine Nw.drewN2 ?_ _ | (refine Nw.trans ?_ (by assumption)))))).mono ?_; rintro en w5' ⟨v5, rfl, hs5, hf5, hn5⟩) | (go_at_call_of 26 (x 7); refine (HS1.out _ _ _ (by first | exact hd | exact hd.1 | exact hd.2 | exact hd.2.1 | exact hd.2.2) (by first | exact hd | exact hd.1 | exact hd.2 | exact hd.2.1 | exact hd.2.2)).mono ?_; rintro en w5' ⟨rfl, hn5⟩) | (go_at_call 26; refine (HS2.out _ _ _ (by first | exact hd | exact hd.1 | exact hd.2 | exact hd.2.1 | exact hd.2.2) (by first | exact hd | exact hd.1 | exact hd.2 | exact hd.2.1 | exact hd.2.2)).mono ?_; rintro en w5' ⟨rfl, hn5⟩)); (refine hK.out _ _ ?_ ?_ <;> first | (solve | (repeat (first | assumption | exact Nw.refl _ | refine Nw.alloc ?_ _ | refine Nw.drew ?_ | refine Nw.drewN2 ?_ _ | (refine Nw.trans ?_ (by assumption))))) | ((conv => lhs; whnf) <;> exact rfl) | exact rfl | exact congrArg (Value.int .u8) hq2 | exact congrArg (Value.int .u8) hq2' | exact hs5 | exact congrArg Value.bool hd0 | exact congrArg Value.bool (by simp))))
                    try simp only [Act.put, List.setIfInBounds_toArray, List.set_cons_zero, List.set_cons_succ, Nat.reduceAdd, List.length_nil, List.length_cons, List.nil_append, List.cons_append]
                  iterate 2
                    refine Stairs.is ?_ ?_ ?_
                    rotate_left 1
                    · intro x wR hR hd K hK
                      simp only [Act.put, List.setIfInBounds_toArray, List.set_cons_zero, List.set_cons_succ, Nat.reduceAdd, List.length_nil, List.length_cons, List.nil_append, List.cons_append, Say.ok] at hK ⊢
                      clear hd
                      change Hid _ at hK
                      obtain ⟨hcR, hfR, hzR⟩ := nwc hR
                      first | (refine wanted_yes ?_ ?_; rfl) | (refine wanted_no ?_ ?_; rfl)
                      first | (refine hK.out _ _ ?_ ?_ <;> first | (solve | (repeat (first | assumption | exact Nw.refl _ | refine Nw.alloc ?_ _ | refine Nw.drew ?_ | refine Nw.drewN2 ?_ _ | (refine Nw.trans ?_ (by assumption))))) | ((conv => lhs; whnf) <;> exact rfl) | exact rfl | exact congrArg (Value.int .u8) hq2 | exact congrArg (Value.int .u8) hq2' | exact hs5 | exact congrArg Value.bool hd0 | exact congrArg Value.bool (by simp)) | (go_step; first | (refine hK.out _ _ ?_ ?_ <;> first | (solve | (repeat (first | assumption | exact Nw.refl _ | refine Nw.alloc ?_ _ | refine Nw.drew ?_ | refine Nw.drewN2 ?_ _ | (refine Nw.trans ?_ (by assumption))))) | ((conv => lhs; whnf) <;> exact rfl) | exact rfl | exact congrArg (Value.int .u8) hq2 | exact congrArg (Value.int .u8) hq2' | exact hs5 | exact congrArg Value.bool hd0 | exact congrArg Value.bool (by simp)) | ((first | (go_at_call_of 27 (Value.slice p5 ys.length d5); refine (HTA.out _ (hn7.trans (by repeat (first | assumption | exact Nw.refl _ | refine Nw.alloc ?_ _ | refine Nw.drew ?_ | refine Nw.drewN2 ?_ _ | (refine Nw.trans ?_ (by assumption)))))).mono ?_; rintro en w5' ⟨v5, rfl, hs5, hf5, hn5⟩) | (go_at_call_of 27 (Value.slice p6 yv.length d6); refine (HTB.out _ (hn7.trans (by repeat (first | assumption | exact Nw.refl _ | refine Nw.alloc ?_ _ | refine Nw.drew ?_ | refine Nw.drewN2 ?_ _ | (refine Nw.trans ?_ (by assumption)))))).mono ?_; rintro en w5' ⟨v5, rfl, hs5, hf5, hn5⟩) | (go_at_call_of 27 (Value.slice p1 xs.length d1); refine (HTC.out _ (hn7.trans (by repeat (first | assumption | exact Nw.refl _ | refine Nw.alloc ?_ _ | refine Nw.drew ?_ | refine Nw.drewN2 ?_ _ | (refine Nw.trans ?_ (by assumption)))))).mono ?_; rintro en w5' ⟨v5, rfl, hs5, hf5, hn5⟩) | (go_at_call 27; refine (HTD.out _ (hn7.trans (by repeat (first | assumption | exact Nw.refl _ | refine Nw.alloc ?_ _ | refine Nw.drew ?_ | refine Nw.drewN2 ?_ _ | (refine Nw.trans ?_ (by assumption)))))).mono ?_; rintro en w5' ⟨v5, rfl, hs5, hf5, hn5⟩) | (go_at_call_of 26 (x 7); refine (HS1.out _ _ _ (by first | exact hd | exact hd.1 | exact hd.2 | exact hd.2.1 | exact hd.2.2) (by first | exact hd | exact hd.1 | exact hd.2 | exact hd.2.1 | exact hd.2.2)).mono ?_; rintro en w5' ⟨rfl, hn5⟩) | (go_at_call 26; refine (HS2.out _ _ _ (by first | exact hd | exact hd.1 | exact hd.2 | exact hd.2.1 | exact hd.2.2) (by first | exact hd | exact hd.1 | exact hd.2 | exact hd.2.1 | exact hd.2.2)).mono ?_; rintro en w5' ⟨rfl, hn5⟩)); (refine hK.out _ _ ?_ ?_ <;> first | (solve | (repeat (first | assumption | exact Nw.refl _ | refine Nw.alloc ?_ _ | refine Nw.drew ?_ | refine Nw.drewN2 ?_ _ | (refine Nw.trans ?_ (by assumption))))) | ((conv => lhs; whnf) <;> exact rfl) | exact rfl | exact congrArg (Value.int .u8) hq2 | exact congrArg (Value.int .u8) hq2' | exact hs5 | exact congrArg Value.bool hd0 | exact congrArg Value.bool (by simp))))
                    try simp only [Act.put, List.setIfInBounds_toArray, List.set_cons_zero, List.set_cons_succ, Nat.reduceAdd, List.length_nil, List.length_cons, List.nil_append, List.cons_append]
                  iterate 1
                    refine Stairs.that (TrS (trim xs)) (by first | assumption | simp) ?_ ?_
                    · intro x wR hR hd K hK
                      simp only [Act.put, List.setIfInBounds_toArray, List.set_cons_zero, List.set_cons_succ, Nat.reduceAdd, List.length_nil, List.length_cons, List.nil_append, List.cons_append, Say.ok] at hK ⊢
                      clear hd
                      change Hid _ at hK
                      obtain ⟨hcR, hfR, hzR⟩ := nwc hR
                      first | (refine wanted_yes ?_ ?_; rfl) | (refine wanted_no ?_ ?_; rfl)
                      first | (refine hK.out _ _ ?_ ?_ <;> first | (solve | (repeat (first | assumption | exact Nw.refl _ | refine Nw.alloc ?_ _ | refine Nw.drew ?_ | refine Nw.drewN2 ?_ _ | (refine Nw.trans ?_ (by assumption))))) | ((conv => lhs; whnf) <;> exact rfl) | exact rfl | exact congrArg (Value.int .u8) hq2 | exact congrArg (Value.int .u8) hq2' | exact hs5 | exact congrArg Value.bool hd0 | exact congrArg Value.bool (by simp)) | (go_step; first | (refine hK.out _ _ ?_ ?_ <;> first | (solve | (repeat (first | assumption | exact Nw.refl _ | refine Nw.alloc ?_ _ | refine Nw.drew ?_ | refine Nw.drewN2 ?_ _ | (refine Nw.trans ?_ (by assumption))))) | ((conv => lhs; whnf) <;> exact rfl) | exact rfl | exact congrArg (Value.int .u8) hq2 | exact congrArg (Value.int .u8) hq2' | exact hs5 | exact congrArg Value.bool hd0 | exact congrArg Value.bool (by simp)) | ((first | (go_at_call_of 27 (Value.slice p5 ys.length d5); refine (HTA.out _ (hn7.trans (by repeat (first | assumption | exact Nw.refl _ | refine Nw.alloc ?_ _ | refine Nw.drew ?_ | refine Nw.drewN2 ?_ _ | (refine Nw.trans ?_ (by assumption)))))).mono ?_; rintro en w5' ⟨v5, rfl, hs5, hf5, hn5⟩) | (go_at_call_of 27 (Value.slice p6 yv.length d6); refine (HTB.out _ (hn7.trans (by repeat (first | assumption | exact Nw.refl _ | refine Nw.alloc ?_ _ | refine Nw.drew ?_ | refine Nw.drewN2 ?_ _ | (refine Nw.trans ?_ (by assumption)))))).mono ?_; rintro en w5' ⟨v5, rfl, hs5, hf5, hn5⟩) | (go_at_call_of 27 (Value.slice p1 xs.length d1); refine (HTC.out _ (hn7.trans (by repeat (first | assumption | exact Nw.refl _ | refine Nw.alloc ?_ _ | refine Nw.drew ?_ | refine Nw.drewN2 ?_ _ | (refine Nw.trans ?_ (by assumption)))))).mono ?_; rintro en w5' ⟨v5, rfl, hs5, hf5, hn5⟩) | (go_at_call 27; refine (HTD.out _ (hn7.trans (by repeat (first | assumption | exact Nw.refl _ | refine Nw.alloc ?_ _ | refine Nw.drew ?_ | refine Nw.drewN2 ?_ _ | (refine Nw.trans ?_ (by assumption)))))).mono ?_; rintro en w5' ⟨v5, rfl, hs5, hf5, hn5⟩) | (go_at_call_of 26 (x 7); refine (HS1.out _ _ _ (by first | exact hd | exact hd.1 | exact hd.2 | exact hd.2.1 | exact hd.2.2) (by first | exact hd | exact hd.1 | exact hd.2 | exact hd.2.1 | exact hd.2.2)).mono ?_; rintro en w5' ⟨rfl, hn5⟩) | (go_at_call 26; refine (HS2.out _ _ _ (by first | exact hd | exact hd.1 | exact hd.2 | exact hd.2.1 | exact hd.2.2) (by first | exact hd | exact hd.1 | exact hd.2 | exact hd.2.1 | exact hd.2.2)).mono ?_; rintro en w5' ⟨rfl, hn5⟩)); (refine hK.out _ _ ?_ ?_ <;> first | (solve | (repeat (first | assumption | exact Nw.refl _ | refine Nw.alloc ?_ _ | refine Nw.drew ?_ | refine Nw.drewN2 ?_ _ | (refine Nw.trans ?_ (by assumption))))) | ((conv => lhs; whnf) <;> exact rfl) | exact rfl | exact congrArg (Value.int .u8) hq2 | exact congrArg (Value.int .u8) hq2' | exact hs5 | exact congrArg Value.bool hd0 | exact congrArg Value.bool (by simp))))
                    try simp only [Act.put, List.setIfInBounds_toArray, List.set_cons_zero, List.set_cons_succ, Nat.reduceAdd, List.length_nil, List.length_cons, List.nil_append, List.cons_append]
                  iterate 1
                    refine Stairs.is ?_ ?_ ?_
                    rotate_left 1
                    · intro x wR hR hd K hK
                      simp only [Act.put, List.setIfInBounds_toArray, List.set_cons_zero, List.set_cons_succ, Nat.reduceAdd, List.length_nil, List.length_cons, List.nil_append, List.cons_append, Say.ok] at hK ⊢
                      try simp [Region.binds, sayAt, List.getD_cons_zero, List.getD_cons_succ, Say.ok, Vl] at hd
                      change Hid _ at hK
                      obtain ⟨hcR, hfR, hzR⟩ := nwc hR
                      first | (refine wanted_yes ?_ ?_; rfl) | (refine wanted_no ?_ ?_; rfl)
                      first | (refine hK.out _ _ ?_ ?_ <;> first | (solve | (repeat (first | assumption | exact Nw.refl _ | refine Nw.alloc ?_ _ | refine Nw.drew ?_ | refine Nw.drewN2 ?_ _ | (refine Nw.trans ?_ (by assumption))))) | ((conv => lhs; whnf) <;> exact rfl) | exact rfl | exact congrArg (Value.int .u8) hq2 | exact congrArg (Value.int .u8) hq2' | exact hs5 | exact congrArg Value.bool hd0 | exact congrArg Value.bool (by simp)) | (go_step; first | (refine hK.out _ _ ?_ ?_ <;> first | (solve | (repeat (first | assumption | exact Nw.refl _ | refine Nw.alloc ?_ _ | refine Nw.drew ?_ | refine Nw.drewN2 ?_ _ | (refine Nw.trans ?_ (by assumption))))) | ((conv => lhs; whnf) <;> exact rfl) | exact rfl | exact congrArg (Value.int .u8) hq2 | exact congrArg (Value.int .u8) hq2' | exact hs5 | exact congrArg Value.bool hd0 | exact congrArg Value.bool (by simp)) | ((first | (go_at_call_of 27 (Value.slice p5 ys.length d5); refine (HTA.out _ (hn7.trans (by repeat (first | assumption | exact Nw.refl _ | refine Nw.alloc ?_ _ | refine Nw.drew ?_ | refine Nw.drewN2 ?_ _ | (refine Nw.trans ?_ (by assumption)))))).mono ?_; rintro en w5' ⟨v5, rfl, hs5, hf5, hn5⟩) | (go_at_call_of 27 (Value.slice p6 yv.length d6); refine (HTB.out _ (hn7.trans (by repeat (first | assumption | exact Nw.refl _ | refine Nw.alloc ?_ _ | refine Nw.drew ?_ | refine Nw.drewN2 ?_ _ | (refine Nw.trans ?_ (by assumption)))))).mono ?_; rintro en w5' ⟨v5, rfl, hs5, hf5, hn5⟩) | (go_at_call_of 27 (Value.slice p1 xs.length d1); refine (HTC.out _ (hn7.trans (by repeat (first | assumption | exact Nw.refl _ | refine Nw.alloc ?_ _ | refine Nw.drew ?_ | refine Nw.drewN2 ?_ _ | (refine Nw.trans ?_ (by assumption)))))).mono ?_; rintro en w5' ⟨v5, rfl, hs5, hf5, hn5⟩) | (go_at_call 27; refine (HTD.out _ (hn7.trans (by repeat (first | assumption | exact Nw.refl _ | refine Nw.alloc ?_ _ | refine Nw.drew ?_ | refine Nw.drewN2 ?_ _ | (refine Nw.trans ?_ (by assumption)))))).mono ?_; rintro en w5' ⟨v5, rfl, hs5, hf5, hn5⟩) | (go_at_call_of 26 (x 7); refine (HS1.out _ _ _ (by first | exact hd | exact hd.1 | exact hd.2 | exact hd.2.1 | exact hd.2.2) (by first | exact hd | exact hd.1 | exact hd.2 | exact hd.2.1 | exact hd.2.2)).mono ?_; rintro en w5' ⟨rfl, hn5⟩) | (go_at_call 26; refine (HS2.out _ _ _ (by first | exact hd | exact hd.1 | exact hd.2 | exact hd.2.1 | exact hd.2.2) (by first | exact hd | exact hd.1 | exact hd.2 | exact hd.2.1 | exact hd.2.2)).mono ?_; rintro en w5' ⟨rfl, hn5⟩)); (refine hK.out _ _ ?_ ?_ <;> first | (solve | (repeat (first | assumption | exact Nw.refl _ | refine Nw.alloc ?_ _ | refine Nw.drew ?_ | refine Nw.drewN2 ?_ _ | (refine Nw.trans ?_ (by assumption))))) | ((conv => lhs; whnf) <;> exact rfl) | exact rfl | exact congrArg (Value.int .u8) hq2 | exact congrArg (Value.int .u8) hq2' | exact hs5 | exact congrArg Value.bool hd0 | exact congrArg Value.bool (by simp))))
                    try simp only [Act.put, List.setIfInBounds_toArray, List.set_cons_zero, List.set_cons_succ, Nat.reduceAdd, List.length_nil, List.length_cons, List.nil_append, List.cons_append]
                  iterate 10
                    refine Stairs.is ?_ ?_ ?_
                    rotate_left 1
                    · intro x wR hR hd K hK
                      simp only [Act.put, List.setIfInBounds_toArray, List.set_cons_zero, List.set_cons_succ, Nat.reduceAdd, List.length_nil, List.length_cons, List.nil_append, List.cons_append, Say.ok] at hK ⊢
                      clear hd
                      change Hid _ at hK
                      obtain ⟨hcR, hfR, hzR⟩ := nwc hR
                      first | (refine wanted_yes ?_ ?_; rfl) | (refine wanted_no ?_ ?_; rfl)
                      first | (refine hK.out _ _ ?_ ?_ <;> first | (solve | (repeat (first | assumption | exact Nw.refl _ | refine Nw.alloc ?_ _ | refine Nw.drew ?_ | refine Nw.drewN2 ?_ _ | (refine Nw.trans ?_ (by assumption))))) | ((conv => lhs; whnf) <;> exact rfl) | exact rfl | exact congrArg (Value.int .u8) hq2 | exact congrArg (Value.int .u8) hq2' | exact hs5 | exact congrArg Value.bool hd0 | exact congrArg Value.bool (by simp)) | (go_step; first | (refine hK.out _ _ ?_ ?_ <;> first | (solve | (repeat (first | assumption | exact Nw.refl _ | refine Nw.alloc ?_ _ | refine Nw.drew ?_ | refine Nw.drewN2 ?_ _ | (refine Nw.trans ?_ (by assumption))))) | ((conv => lhs; whnf) <;> exact rfl) | exact rfl | exact congrArg (Value.int .u8) hq2 | exact congrArg (Value.int .u8) hq2' | exact hs5 | exact congrArg Value.bool hd0 | exact congrArg Value.bool (by simp)) | ((first | (go_at_call_of 27 (Value.slice p5 ys.length d5); refine (HTA.out _ (hn7.trans (by repeat (first | assumption | exact Nw.refl _ | refine Nw.alloc ?_ _ | refine Nw.drew ?_ | refine Nw.drewN2 ?_ _ | (refine Nw.trans ?_ (by assumption)))))).mono ?_; rintro en w5' ⟨v5, rfl, hs5, hf5, hn5⟩) | (go_at_call_of 27 (Value.slice p6 yv.length d6); refine (HTB.out _ (hn7.trans (by repeat (first | assumption | exact Nw.refl _ | refine Nw.alloc ?_ _ | refine Nw.drew ?_ | refine Nw.drewN2 ?_ _ | (refine Nw.trans ?_ (by assumption)))))).mono ?_; rintro en w5' ⟨v5, rfl, hs5, hf5, hn5⟩) | (go_at_call_of 27 (Value.slice p1 xs.length d1); refine (HTC.out _ (hn7.trans (by repeat (first | assumption | exact Nw.refl _ | refine Nw.alloc ?_ _ | refine Nw.drew ?_ | refine Nw.drewN2 ?_ _ | (refine Nw.trans ?_ (by assumption)))))).mono ?_; rintro en w5' ⟨v5, rfl, hs5, hf5, hn5⟩) | (go_at_call 27; refine (HTD.out _ (hn7.trans (by repeat (first | assumption | exact Nw.refl _ | refine Nw.alloc ?_ _ | refine Nw.drew ?_ | refine Nw.drewN2 ?_ _ | (refine Nw.trans ?_ (by assumption)))))).mono ?_; rintro en w5' ⟨v5, rfl, hs5, hf5, hn5⟩) | (go_at_call_of 26 (x 7); refine (HS1.out _ _ _ (by first | exact hd | exact hd.1 | exact hd.2 | exact hd.2.1 | exact hd.2.2) (by first | exact hd | exact hd.1 | exact hd.2 | exact hd.2.1 | exact hd.2.2)).mono ?_; rintro en w5' ⟨rfl, hn5⟩) | (go_at_call 26; refine (HS2.out _ _ _ (by first | exact hd | exact hd.1 | exact hd.2 | exact hd.2.1 | exact hd.2.2) (by first | exact hd | exact hd.1 | exact hd.2 | exact hd.2.1 | exact hd.2.2)).mono ?_; rintro en w5' ⟨rfl, hn5⟩)); (refine hK.out _ _ ?_ ?_ <;> first | (solve | (repeat (first | assumption | exact Nw.refl _ | refine Nw.alloc ?_ _ | refine Nw.drew ?_ | refine Nw.drewN2 ?_ _ | (refine Nw.trans ?_ (by assumption))))) | ((conv => lhs; whnf) <;> exact rfl) | exact rfl | exact congrArg (Value.int .u8) hq2 | exact congrArg (Value.int .u8) hq2' | exact hs5 | exact congrArg Value.bool hd0 | exact congrArg Value.bool (by simp))))
                    try simp only [Act.put, List.setIfInBounds_toArray, List.set_cons_zero, List.set_cons_succ, Nat.reduceAdd, List.length_nil, List.length_cons, List.nil_append, List.cons_append]
                  refine Stairs.nil ?_
                  intro x wR hR hx
                  clear hx
                  obtain ⟨hcR, hfR, hzR⟩ := nwc hR
                  replace hn7 := hn7.trans hR
                  clear hcR hfR hzR z0 z1 z2 z3 z4 u1 u2 gu hR
                  have hltj := HJL.out
                  go_wp2
                  go_roundw
                  case rel => exact ⟨j + 1, by omega, by go_num, by rw [HF.out], hn7⟩
                  case measure => (simp [intOf] <;> omega)
              | true =>
                cases b2 with
                | false =>
                  obtain HF := hid (show lastK l xs xv (j + 1) = LK by rw [HLK.out, HIS.out]; rfl)
                  as_aux_lemma =>
                    refine wp_region_stairs (by kernel_rfl) (by kernel_rfl) (by kernel_rfl) ?_
                    iterate 2
                      refine Stairs.is ?_ ?_ ?_
                      rotate_left 1
                      · intro x wR hR hd K hK
                        simp only [Act.put, List.setIfInBounds_toArray, List.set_cons_zero, List.set_cons_succ, Nat.reduceAdd, List.length_nil, List.length_cons, List.nil_append, List.cons_append, Say.ok] at hK ⊢
                        clear hd
                        change Hid _ at hK
                        obtain ⟨hcR, hfR, hzR⟩ := nwc hR
                        first | (refine wanted_yes ?_ ?_; rfl) | (refine wanted_no ?_ ?_; rfl)
                        first | (refine hK.out _ _ ?_ ?_ <;> first | (solve | (repeat (first | assumption | exact Nw.refl _ | refine Nw.alloc ?_ _ | refine Nw.drew ?_ | refine Nw.drewN2 ?_ _ | (refine Nw.trans ?_ (by assumption))))) | ((conv => lhs; whnf) <;> exact rfl) | exact rfl | exact congrArg (Value.int .u8) hq2 | exact congrArg (Value.int .u8) hq2' | exact hs5 | exact congrArg Value.bool hd0 | exact congrArg Value.bool (by simp)) | (go_step; first | (refine hK.out _ _ ?_ ?_ <;> first | (solve | (repeat (first | assumption | exact Nw.refl _ | refine Nw.alloc ?_ _ | refine Nw.drew ?_ | refine Nw.drewN2 ?_ _ | (refine Nw.trans ?_ (by assumption))))) | ((conv => lhs; whnf) <;> exact rfl) | exact rfl | exact congrArg (Value.int .u8) hq2 | exact congrArg (Value.int .u8) hq2' | exact hs5 | exact congrArg Value.bool hd0 | exact congrArg Value.bool (by simp)) | ((first | (go_at_call_of 27 (Value.slice p5 ys.length d5); refine (HTA.out _ (hn7.trans (by repeat (first | assumption | exact Nw.refl _ | refine Nw.alloc ?_ _ | refine Nw.drew ?_ | refine Nw.drewN2 ?_ _ | (refine Nw.trans ?_ (by assumption)))))).mono ?_; rintro en w5' ⟨v5, rfl, hs5, hf5, hn5⟩) | (go_at_call_of 27 (Value.slice p6 yv.length d6); refine (HTB.out _ (hn7.trans (by repeat (first | assumption | exact Nw.refl _ | refine Nw.alloc ?_ _ | refine Nw.drew ?_ | refine Nw.drewN2 ?_ _ | (refine Nw.trans ?_ (by assumption)))))).mono ?_; rintro en w5' ⟨v5, rfl, hs5, hf5, hn5⟩) | (go_at_call_of 27 (Value.slice p1 xs.length d1); refine (HTC.out _ (hn7.trans (by repeat (first | assumption | exact Nw.refl _ | refine Nw.alloc ?_ _ | refine Nw.drew ?_ | refine Nw.drewN2 ?_ _ | (refine Nw.trans ?_ (by assumption)))))).mono ?_; rintro en w5' ⟨v5, rfl, hs5, hf5, hn5⟩) | (go_at_call 27; refine (HTD.out _ (hn7.trans (by repeat (first | assumption | exact Nw.refl _ | refine Nw.alloc ?_ _ | refine Nw.drew ?_ | refine Nw.drewN2 ?_ _ | (refine Nw.trans ?_ (by assumption)))))).mono ?_; rintro en w5' ⟨v5, rfl, hs5, hf5, hn5⟩) | (go_at_call_of 26 (x 7); refine (HS1.out _ _ _ (by first | exact hd | exact hd.1 | exact hd.2 | exact hd.2.1 | exact hd.2.2) (by first | exact hd | exact hd.1 | exact hd.2 | exact hd.2.1 | exact hd.2.2)).mono ?_; rintro en w5' ⟨rfl, hn5⟩) | (go_at_call 26; refine (HS2.out _ _ _ (by first | exact hd | exact hd.1 | exact hd.2 | exact hd.2.1 | exact hd.2.2) (by first | exact hd | exact hd.1 | exact hd.2 | exact hd.2.1 | exact hd.2.2)).mono ?_; rintro en w5' ⟨rfl, hn5⟩)); (refine hK.out _ _ ?_ ?_ <;> first | (solve | (repeat (first | assumption | exact Nw.refl _ | refine Nw.alloc ?_ _ | refine Nw.drew ?_ | refine Nw.drewN2 ?_ _ | (refine Nw.trans ?_ (by assumption))))) | ((conv => lhs; whnf) <;> exact rfl) | exact rfl | exact congrArg (Value.int .u8) hq2 | exact congrArg (Value.int .u8) hq2' | exact hs5 | exact congrArg Value.bool hd0 | exact congrArg Value.bool (by simp))))
                      try simp only [Act.put, List.setIfInBounds_toArray, List.set_cons_zero, List.set_cons_succ, Nat.reduceAdd, List.length_nil, List.length_cons, List.nil_append, List.cons_append]
                    iterate 1
                      refine Stairs.is (.int .u8 1) ?_ ?_
                      · intro x wR hR hd K hK
                        simp only [Act.put, List.setIfInBounds_toArray, List.set_cons_zero, List.set_cons_succ, Nat.reduceAdd, List.length_nil, List.length_cons, List.nil_append, List.cons_append, Say.ok] at hK ⊢
                        clear hd
                        change Hid _ at hK
                        obtain ⟨hcR, hfR, hzR⟩ := nwc hR
                        first | (refine wanted_yes ?_ ?_; rfl) | (refine wanted_no ?_ ?_; rfl)
                        first | (refine hK.out _ _ ?_ ?_ <;> first | (solve | (repeat (first | assumption | exact Nw.refl _ | refine Nw.alloc ?_ _ | refine Nw.drew ?_ | refine Nw.drewN2 ?_ _ | (refine Nw.trans ?_ (by assumption))))) | ((conv => lhs; whnf) <;> exact rfl) | exact rfl | exact congrArg (Value.int .u8) hq2 | exact congrArg (Value.int .u8) hq2' | exact hs5 | exact congrArg Value.bool hd0 | exact congrArg Value.bool (by simp)) | (go_step; first | (refine hK.out _ _ ?_ ?_ <;> first | (solve | (repeat (first | assumption | exact Nw.refl _ | refine Nw.alloc ?_ _ | refine Nw.drew ?_ | refine Nw.drewN2 ?_ _ | (refine Nw.trans ?_ (by assumption))))) | ((conv => lhs; whnf) <;> exact rfl) | exact rfl | exact congrArg (Value.int .u8) hq2 | exact congrArg (Value.int .u8) hq2' | exact hs5 | exact congrArg Value.bool hd0 | exact congrArg Value.bool (by simp)) | ((first | (go_at_call_of 27 (Value.slice p5 ys.length d5); refine (HTA.out _ (hn7.trans (by repeat (first | assumption | exact Nw.refl _ | refine Nw.alloc ?_ _ | refine Nw.drew ?_ | refine Nw.drewN2 ?_ _ | (refine Nw.trans ?_ (by assumption)))))).mono ?_; rintro en w5' ⟨v5, rfl, hs5, hf5, hn5⟩) | (go_at_call_of 27 (Value.slice p6 yv.length d6); refine (HTB.out _ (hn7.trans (by repeat (first | assumption | exact Nw.refl _ | refine Nw.alloc ?_ _ | refine Nw.drew ?_ | refine Nw.drewN2 ?_ _ | (refine Nw.trans ?_ (by assumption)))))).mono ?_; rintro en w5' ⟨v5, rfl, hs5, hf5, hn5⟩) | (go_at_call_of 27 (Value.slice p1 xs.length d1); refine (HTC.out _ (hn7.trans (by repeat (first | assumption | exact Nw.refl _ | refine Nw.alloc ?_ _ | refine Nw.drew ?_ | refine Nw.drewN2 ?_ _ | (refine Nw.trans ?_ (by assumption)))))).mono ?_; rintro en w5' ⟨v5, rfl, hs5, hf5, hn5⟩) | (go_at_call 27; refine (HTD.out _ (hn7.trans (by repeat (first | assumption | exact Nw.refl _ | refine Nw.alloc ?_ _ | refine Nw.drew ?_ | refine Nw.drewN2 ?_ _ | (refine Nw.trans ?_ (by assumption)))))).mono ?_; rintro en w5' ⟨v5, rfl, hs5, hf5, hn5⟩) | (go_at_call_of 26 (x 7); refine (HS1.out _ _ _ (by first | exact hd | exact hd.1 | exact hd.2 | exact hd.2.1 | exact hd.2.2) (by first | exact hd | exact hd.1 | exact hd.2 | exact hd.2.1 | exact hd.2.2)).mono ?_; rintro en w5' ⟨rfl, hn5⟩) | (go_at_call 26; refine (HS2.out _ _ _ (by first | exact hd | exact hd.1 | exact hd.2 | exact hd.2.1 | exact hd.2.2) (by first | exact hd | exact hd.1 | exact hd.2 | exact hd.2.1 | exact hd.2.2)).mono ?_; rintro en w5' ⟨rfl, hn5⟩)); (refine hK.out _ _ ?_ ?_ <;> first | (solve | (repeat (first | assumption | exact Nw.refl _ | refine Nw.alloc ?_ _ | refine Nw.drew ?_ | refine Nw.drewN2 ?_ _ | (refine Nw.trans ?_ (by assumption))))) | ((conv => lhs; whnf) <;> exact rfl) | exact rfl | exact congrArg (Value.int .u8) hq2 | exact congrArg (Value.int .u8) hq2' | exact hs5 | exact congrArg Value.bool hd0 | exact congrArg Value.bool (by simp))))
                      try simp only [Act.put, List.setIfInBounds_toArray, List.set_cons_zero, List.set_cons_succ, Nat.reduceAdd, List.length_nil, List.length_cons, List.nil_append, List.cons_append]
                    iterate 4
                      refine Stairs.is ?_ ?_ ?_
                      rotate_left 1
                      · intro x wR hR hd K hK
                        simp only [Act.put, List.setIfInBounds_toArray, List.set_cons_zero, List.set_cons_succ, Nat.reduceAdd, List.length_nil, List.length_cons, List.nil_append, List.cons_append, Say.ok] at hK ⊢
                        clear hd
                        change Hid _ at hK
                        obtain ⟨hcR, hfR, hzR⟩ := nwc hR
                        first | (refine wanted_yes ?_ ?_; rfl) | (refine wanted_no ?_ ?_; rfl)
                        first | (refine hK.out _ _ ?_ ?_ <;> first | (solve | (repeat (first | assumption | exact Nw.refl _ | refine Nw.alloc ?_ _ | refine Nw.drew ?_ | refine Nw.drewN2 ?_ _ | (refine Nw.trans ?_ (by assumption))))) | ((conv => lhs; whnf) <;> exact rfl) | exact rfl | exact congrArg (Value.int .u8) hq2 | exact congrArg (Value.int .u8) hq2' | exact hs5 | exact congrArg Value.bool hd0 | exact congrArg Value.bool (by simp)) | (go_step; first | (refine hK.out _ _ ?_ ?_ <;> first | (solve | (repeat (first | assumption | exact Nw.refl _ | refine Nw.alloc ?_ _ | refine Nw.drew ?_ | refine Nw.drewN2 ?_ _ | (refine Nw.trans ?_ (by assumption))))) | ((conv => lhs; whnf) <;> exact rfl) | exact rfl | exact congrArg (Value.int .u8) hq2 | exact congrArg (Value.int .u8) hq2' | exact hs5 | exact congrArg Value.bool hd0 | exact congrArg Value.bool (by simp)) | ((first | (go_at_call_of 27 (Value.slice p5 ys.length d5); refine (HTA.out _ (hn7.trans (by repeat (first | assumption | exact Nw.refl _ | refine Nw.alloc ?_ _ | refine Nw.drew ?_ | refine Nw.drewN2 ?_ _ | (refine Nw.trans ?_ (by assumption)))))).mono ?_; rintro en w5' ⟨v5, rfl, hs5, hf5, hn5⟩) | (go_at_call_of 27 (Value.slice p6 yv.length d6); refine (HTB.out _ (hn7.trans (by repeat (first | assumption | exact Nw.refl _ | refine Nw.alloc ?_ _ | refine Nw.drew ?_ | refine Nw.drewN2 ?_ _ | (refine Nw.trans ?_ (by assumption)))))).mono ?_; rintro en w5' ⟨v5, rfl, hs5, hf5, hn5⟩) | (go_at_call_of 27 (Value.slice p1 xs.length d1); refine (HTC.out _ (hn7.trans (by repeat (first | assumption | exact Nw.refl _ | refine Nw.alloc ?_ _ | refine Nw.drew ?_ | refine Nw.drewN2 ?_ _ | (refine Nw.trans ?_ (by assumption)))))).mono ?_; rintro en w5' ⟨v5, rfl, hs5, hf5, hn5⟩) | (go_at_call 27; refine (HTD.out _ (hn7.trans (by repeat (first | assumption | exact Nw.refl _ | refine Nw.alloc ?_ _ | refine Nw.drew ?_ | refine Nw.drewN2 ?_ _ | (refine Nw.trans ?_ (by assumption)))))).mono ?_; rintro en w5' ⟨v5, rfl, hs5, hf5, hn5⟩) | (go_at_call_of 26 (x 7); refine (HS1.out _ _ _ (by first | exact hd | exact hd.1 | exact hd.2 | exact hd.2.1 | exact hd.2.2) (by first | exact hd | exact hd.1 | exact hd.2 | exact hd.2.1 | exact hd.2.2)).mono ?_; rintro en w5' ⟨rfl, hn5⟩) | (go_at_call 26; refine (HS2.out _ _ _ (by first | exact hd | exact hd.1 | exact hd.2 | exact hd.2.1 | exact hd.2.2) (by first | exact hd | exact hd.1 | exact hd.2 | exact hd.2.1 | exact hd.2.2)).mono ?_; rintro en w5' ⟨rfl, hn5⟩)); (refine hK.out _ _ ?_ ?_ <;> first | (solve | (repeat (first | assumption | exact Nw.refl _ | refine Nw.alloc ?_ _ | refine Nw.drew ?_ | refine Nw.drewN2 ?_ _ | (refine Nw.trans ?_ (by assumption))))) | ((conv => lhs; whnf) <;> exact rfl) | exact rfl | exact congrArg (Value.int .u8) hq2 | exact congrArg (Value.int .u8) hq2' | exact hs5 | exact congrArg Value.bool hd0 | exact congrArg Value.bool (by simp))))
                      try simp only [Act.put, List.setIfInBounds_toArray, List.set_cons_zero, List.set_cons_succ, Nat.reduceAdd, List.length_nil, List.length_cons, List.nil_append, List.cons_append]
                    iterate 1
                      refine Stairs.that (TrS (trim ys)) (by first | assumption | simp) ?_ ?_
                      · intro x wR hR hd K hK
                        simp only [Act.put, List.setIfInBounds_toArray, List.set_cons_zero, List.set_cons_succ, Nat.reduceAdd, List.length_nil, List.length_cons, List.nil_append, List.cons_append, Say.ok] at hK ⊢
                        clear hd
                        change Hid _ at hK
                        obtain ⟨hcR, hfR, hzR⟩ := nwc hR
                        first | (refine wanted_yes ?_ ?_; rfl) | (refine wanted_no ?_ ?_; rfl)
                        first | (refine hK.out _ _ ?_ ?_ <;> first | (solve | (repeat (first | assumption | exact Nw.refl _ | refine Nw.alloc ?_ _ | refine Nw.drew ?_ | refine Nw.drewN2 ?_ _ | (refine Nw.trans ?_ (by assumption))))) | ((conv => lhs; whnf) <;> exact rfl) | exact rfl | exact congrArg (Value.int .u8) hq2 | exact congrArg (Value.int .u8) hq2' | exact hs5 | exact congrArg Value.bool hd0 | exact congrArg Value.bool (by simp)) | (go_step; first | (refine hK.out _ _ ?_ ?_ <;> first | (solve | (repeat (first | assumption | exact Nw.refl _ | refine Nw.alloc ?_ _ | refine Nw.drew ?_ | refine Nw.drewN2 ?_ _ | (refine Nw.trans ?_ (by assumption))))) | ((conv => lhs; whnf) <;> exact rfl) | exact rfl | exact congrArg (Value.int .u8) hq2 | exact congrArg (Value.int .u8) hq2' | exact hs5 | exact congrArg Value.bool hd0 | exact congrArg Value.bool (by simp)) | ((first | (go_at_call_of 27 (Value.slice p5 ys.length d5); refine (HTA.out _ (hn7.trans (by repeat (first | assumption | exact Nw.refl _ | refine Nw.alloc ?_ _ | refine Nw.drew ?_ | refine Nw.drewN2 ?_ _ | (refine Nw.trans ?_ (by assumption)))))).mono ?_; rintro en w5' ⟨v5, rfl, hs5, hf5, hn5⟩) | (go_at_call_of 27 (Value.slice p6 yv.length d6); refine (HTB.out _ (hn7.trans (by repeat (first | assumption | exact Nw.refl _ | refine Nw.alloc ?_ _ | refine Nw.drew ?_ | refine Nw.drewN2 ?_ _ | (refine Nw.trans ?_ (by assumption)))))).mono ?_; rintro en w5' ⟨v5, rfl, hs5, hf5, hn5⟩) | (go_at_call_of 27 (Value.slice p1 xs.length d1); refine (HTC.out _ (hn7.trans (by repeat (first | assumption | exact Nw.refl _ | refine Nw.alloc ?_ _ | refine Nw.drew ?_ | refine Nw.drewN2 ?_ _ | (refine Nw.trans ?_ (by assumption)))))).mono ?_; rintro en w5' ⟨v5, rfl, hs5, hf5, hn5⟩) | (go_at_call 27; refine (HTD.out _ (hn7.trans (by repeat (first | assumption | exact Nw.refl _ | refine Nw.alloc ?_ _ | refine Nw.drew ?_ | refine Nw.drewN2 ?_ _ | (refine Nw.trans ?_ (by assumption)))))).mono ?_; rintro en w5' ⟨v5, rfl, hs5, hf5, hn5⟩) | (go_at_call_of 26 (x 7); refine (HS1.out _ _ _ (by first | exact hd | exact hd.1 | exact hd.2 | exact hd.2.1 | exact hd.2.2) (by first | exact hd | exact hd.1 | exact hd.2 | exact hd.2.1 | exact hd.2.2)).mono ?_; rintro en w5' ⟨rfl, hn5⟩) | (go_at_call 26; refine (HS2.out _ _ _ (by first | exact hd | exact hd.1 | exact hd.2 | exact hd.2.1 | exact hd.2.2) (by first | exact hd | exact hd.1 | exact hd.2 | exact hd.2.1 | exact hd.2.2)).mono ?_; rintro en w5' ⟨rfl, hn5⟩)); (refine hK.out _ _ ?_ ?_ <;> first | (solve | (repeat (first | assumption | exact Nw.refl _ | refine Nw.alloc ?_ _ | refine Nw.drew ?_ | refine Nw.drewN2 ?_ _ | (refine Nw.trans ?_ (by assumption))))) | ((conv => lhs; whnf) <;> exact rfl) | exact rfl | exact congrArg (Value.int .u8) hq2 | exact congrArg (Value.int .u8) hq2' | exact hs5 | exact congrArg Value.bool hd0 | exact congrArg Value.bool (by simp))))
                      try simp only [Act.put, List.setIfInBounds_toArray, List.set_cons_zero, List.set_cons_succ, Nat.reduceAdd, List.length_nil, List.length_cons, List.nil_append, List.cons_append]
                    iterate 2
                      refine Stairs.is ?_ ?_ ?_
                      rotate_left 1
                      · intro x wR hR hd K hK
                        simp only [Act.put, List.setIfInBounds_toArray, List.set_cons_zero, List.set_cons_succ, Nat.reduceAdd, List.length_nil, List.length_cons, List.nil_append, List.cons_append, Say.ok] at hK ⊢
                        clear hd
                        change Hid _ at hK
                        obtain ⟨hcR, hfR, hzR⟩ := nwc hR
                        first | (refine wanted_yes ?_ ?_; rfl) | (refine wanted_no ?_ ?_; rfl)
                        first | (refine hK.out _ _ ?_ ?_ <;> first | (solve | (repeat (first | assumption | exact Nw.refl _ | refine Nw.alloc ?_ _ | refine Nw.drew ?_ | refine Nw.drewN2 ?_ _ | (refine Nw.trans ?_ (by assumption))))) | ((conv => lhs; whnf) <;> exact rfl) | exact rfl | exact congrArg (Value.int .u8) hq2 | exact congrArg (Value.int .u8) hq2' | exact hs5 | exact congrArg Value.bool hd0 | exact congrArg Value.bool (by simp)) | (go_step; first | (refine hK.out _ _ ?_ ?_ <;> first | (solve | (repeat (first | assumption | exact Nw.refl _ | refine Nw.alloc ?_ _ | refine Nw.drew ?_ | refine Nw.drewN2 ?_ _ | (refine Nw.trans ?_ (by assumption))))) | ((conv => lhs; whnf) <;> exact rfl) | exact rfl | exact congrArg (Value.int .u8) hq2 | exact congrArg (Value.int .u8) hq2' | exact hs5 | exact congrArg Value.bool hd0 | exact congrArg Value.bool (by simp)) | ((first | (go_at_call_of 27 (Value.slice p5 ys.length d5); refine (HTA.out _ (hn7.trans (by repeat (first | assumption | exact Nw.refl _ | refine Nw.alloc ?_ _ | refine Nw.drew ?_ | refine Nw.drewN2 ?_ _ | (refine Nw.trans ?_ (by assumption)))))).mono ?_; rintro en w5' ⟨v5, rfl, hs5, hf5, hn5⟩) | (go_at_call_of 27 (Value.slice p6 yv.length d6); refine (HTB.out _ (hn7.trans (by repeat (first | assumption | exact Nw.refl _ | refine Nw.alloc ?_ _ | refine Nw.drew ?_ | refine Nw.drewN2 ?_ _ | (refine Nw.trans ?_ (by assumption)))))).mono ?_; rintro en w5' ⟨v5, rfl, hs5, hf5, hn5⟩) | (go_at_call_of 27 (Value.slice p1 xs.length d1); refine (HTC.out _ (hn7.trans (by repeat (first | assumption | exact Nw.refl _ | refine Nw.alloc ?_ _ | refine Nw.drew ?_ | refine Nw.drewN2 ?_ _ | (refine Nw.trans ?_ (by assumption)))))).mono ?_; rintro en w5' ⟨v5, rfl, hs5, hf5, hn5⟩) | (go_at_call 27; refine (HTD.out _ (hn7.trans (by repeat (first | assumption | exact Nw.refl _ | refine Nw.alloc ?_ _ | refine Nw.drew ?_ | refine Nw.drewN2 ?_ _ | (refine Nw.trans ?_ (by assumption)))))).mono ?_; rintro en w5' ⟨v5, rfl, hs5, hf5, hn5⟩) | (go_at_call_of 26 (x 7); refine (HS1.out _ _ _ (by first | exact hd | exact hd.1 | exact hd.2 | exact hd.2.1 | exact hd.2.2) (by first | exact hd | exact hd.1 | exact hd.2 | exact hd.2.1 | exact hd.2.2)).mono ?_; rintro en w5' ⟨rfl, hn5⟩) | (go_at_call 26; refine (HS2.out _ _ _ (by first | exact hd | exact hd.1 | exact hd.2 | exact hd.2.1 | exact hd.2.2) (by first | exact hd | exact hd.1 | exact hd.2 | exact hd.2.1 | exact hd.2.2)).mono ?_; rintro en w5' ⟨rfl, hn5⟩)); (refine hK.out _ _ ?_ ?_ <;> first | (solve | (repeat (first | assumption | exact Nw.refl _ | refine Nw.alloc ?_ _ | refine Nw.drew ?_ | refine Nw.drewN2 ?_ _ | (refine Nw.trans ?_ (by assumption))))) | ((conv => lhs; whnf) <;> exact rfl) | exact rfl | exact congrArg (Value.int .u8) hq2 | exact congrArg (Value.int .u8) hq2' | exact hs5 | exact congrArg Value.bool hd0 | exact congrArg Value.bool (by simp))))
                      try simp only [Act.put, List.setIfInBounds_toArray, List.set_cons_zero, List.set_cons_succ, Nat.reduceAdd, List.length_nil, List.length_cons, List.nil_append, List.cons_append]
                    iterate 1
                      refine Stairs.that (TrS (trim xs)) (by first | assumption | simp) ?_ ?_
                      · intro x wR hR hd K hK
                        simp only [Act.put, List.setIfInBounds_toArray, List.set_cons_zero, List.set_cons_succ, Nat.reduceAdd, List.length_nil, List.length_cons, List.nil_append, List.cons_append, Say.ok] at hK ⊢
                        clear hd
                        change Hid _ at hK
                        obtain ⟨hcR, hfR, hzR⟩ := nwc hR
                        first | (refine wanted_yes ?_ ?_; rfl) | (refine wanted_no ?_ ?_; rfl)
                        first | (refine hK.out _ _ ?_ ?_ <;> first | (solve | (repeat (first | assumption | exact Nw.refl _ | refine Nw.alloc ?_ _ | refine Nw.drew ?_ | refine Nw.drewN2 ?_ _ | (refine Nw.trans ?_ (by assumption))))) | ((conv => lhs; whnf) <;> exact rfl) | exact rfl | exact congrArg (Value.int .u8) hq2 | exact congrArg (Value.int .u8) hq2' | exact hs5 | exact congrArg Value.bool hd0 | exact congrArg Value.bool (by simp)) | (go_step; first | (refine hK.out _ _ ?_ ?_ <;> first | (solve | (repeat (first | assumption | exact Nw.refl _ | refine Nw.alloc ?_ _ | refine Nw.drew ?_ | refine Nw.drewN2 ?_ _ | (refine Nw.trans ?_ (by assumption))))) | ((conv => lhs; whnf) <;> exact rfl) | exact rfl | exact congrArg (Value.int .u8) hq2 | exact congrArg (Value.int .u8) hq2' | exact hs5 | exact congrArg Value.bool hd0 | exact congrArg Value.bool (by simp)) | ((first | (go_at_call_of 27 (Value.slice p5 ys.length d5); refine (HTA.out _ (hn7.trans (by repeat (first | assumption | exact Nw.refl _ | refine Nw.alloc ?_ _ | refine Nw.drew ?_ | refine Nw.drewN2 ?_ _ | (refine Nw.trans ?_ (by assumption)))))).mono ?_; rintro en w5' ⟨v5, rfl, hs5, hf5, hn5⟩) | (go_at_call_of 27 (Value.slice p6 yv.length d6); refine (HTB.out _ (hn7.trans (by repeat (first | assumption | exact Nw.refl _ | refine Nw.alloc ?_ _ | refine Nw.drew ?_ | refine Nw.drewN2 ?_ _ | (refine Nw.trans ?_ (by assumption)))))).mono ?_; rintro en w5' ⟨v5, rfl, hs5, hf5, hn5⟩) | (go_at_call_of 27 (Value.slice p1 xs.length d1); refine (HTC.out _ (hn7.trans (by repeat (first | assumption | exact Nw.refl _ | refine Nw.alloc ?_ _ | refine Nw.drew ?_ | refine Nw.drewN2 ?_ _ | (refine Nw.trans ?_ (by assumption)))))).mono ?_; rintro en w5' ⟨v5, rfl, hs5, hf5, hn5⟩) | (go_at_call 27; refine (HTD.out _ (hn7.trans (by repeat (first | assumption | exact Nw.refl _ | refine Nw.alloc ?_ _ | refine Nw.drew ?_ | refine Nw.drewN2 ?_ _ | (refine Nw.trans ?_ (by assumption)))))).mono ?_; rintro en w5' ⟨v5, rfl, hs5, hf5, hn5⟩) | (go_at_call_of 26 (x 7); refine (HS1.out _ _ _ (by first | exact hd | exact hd.1 | exact hd.2 | exact hd.2.1 | exact hd.2.2) (by first | exact hd | exact hd.1 | exact hd.2 | exact hd.2.1 | exact hd.2.2)).mono ?_; rintro en w5' ⟨rfl, hn5⟩) | (go_at_call 26; refine (HS2.out _ _ _ (by first | exact hd | exact hd.1 | exact hd.2 | exact hd.2.1 | exact hd.2.2) (by first | exact hd | exact hd.1 | exact hd.2 | exact hd.2.1 | exact hd.2.2)).mono ?_; rintro en w5' ⟨rfl, hn5⟩)); (refine hK.out _ _ ?_ ?_ <;> first | (solve | (repeat (first | assumption | exact Nw.refl _ | refine Nw.alloc ?_ _ | refine Nw.drew ?_ | refine Nw.drewN2 ?_ _ | (refine Nw.trans ?_ (by assumption))))) | ((conv => lhs; whnf) <;> exact rfl) | exact rfl | exact congrArg (Value.int .u8) hq2 | exact congrArg (Value.int .u8) hq2' | exact hs5 | exact congrArg Value.bool hd0 | exact congrArg Value.bool (by simp))))
                      try simp only [Act.put, List.setIfInBounds_toArray, List.set_cons_zero, List.set_cons_succ, Nat.reduceAdd, List.length_nil, List.length_cons, List.nil_append, List.cons_append]
                    iterate 1
                      refine Stairs.is ?_ ?_ ?_
                      rotate_left 1
                      · intro x wR hR hd K hK
                        simp only [Act.put, List.setIfInBounds_toArray, List.set_cons_zero, List.set_cons_succ, Nat.reduceAdd, List.length_nil, List.length_cons, List.nil_append, List.cons_append, Say.ok] at hK ⊢
                        try simp [Region.binds, sayAt, List.getD_cons_zero, List.getD_cons_succ, Say.ok, Vl] at hd
                        change Hid _ at hK
                        obtain ⟨hcR, hfR, hzR⟩ := nwc hR
                        first | (refine wanted_yes ?_ ?_; rfl) | (refine wanted_no ?_ ?_; rfl)
                        first | (refine hK.out _ _ ?_ ?_ <;> first | (solve | (repeat (first | assumption | exact Nw.refl _ | refine Nw.alloc ?_ _ | refine Nw.drew ?_ | refine Nw.drewN2 ?_ _ | (refine Nw.trans ?_ (by assumption))))) | ((conv => lhs; whnf) <;> exact rfl) | exact rfl | exact congrArg (Value.int .u8) hq2 | exact congrArg (Value.int .u8) hq2' | exact hs5 | exact congrArg Value.bool hd0 | exact congrArg Value.bool (by simp)) | (go_step; first | (refine hK.out _ _ ?_ ?_ <;> first | (solve | (repeat (first | assumption | exact Nw.refl _ | refine Nw.alloc ?_ _ | refine Nw.drew ?_ | refine Nw.drewN2 ?_ _ | (refine Nw.trans ?_ (by assumption))))) | ((conv => lhs; whnf) <;> exact rfl) | exact rfl | exact congrArg (Value.int .u8) hq2 | exact congrArg (Value.int .u8) hq2' | exact hs5 | exact congrArg Value.bool hd0 | exact congrArg Value.bool (by simp)) | ((first | (go_at_call_of 27 (Value.slice p5 ys.length d5); refine (HTA.out _ (hn7.trans (by repeat (first | assumption | exact Nw.refl _ | refine Nw.alloc ?_ _ | refine Nw.drew ?_ | refine Nw.drewN2 ?_ _ | (refine Nw.trans ?_ (by assumption)))))).mono ?_; rintro en w5' ⟨v5, rfl, hs5, hf5, hn5⟩) | (go_at_call_of 27 (Value.slice p6 yv.length d6); refine (HTB.out _ (hn7.trans (by repeat (first | assumption | exact Nw.refl _ | refine Nw.alloc ?_ _ | refine Nw.drew ?_ | refine Nw.drewN2 ?_ _ | (refine Nw.trans ?_ (by assumption)))))).mono ?_; rintro en w5' ⟨v5, rfl, hs5, hf5, hn5⟩) | (go_at_call_of 27 (Value.slice p1 xs.length d1); refine (HTC.out _ (hn7.trans (by repeat (first | assumption | exact Nw.refl _ | refine Nw.alloc ?_ _ | refine Nw.drew ?_ | refine Nw.drewN2 ?_ _ | (refine Nw.trans ?_ (by assumption)))))).mono ?_; rintro en w5' ⟨v5, rfl, hs5, hf5, hn5⟩) | (go_at_call 27; refine (HTD.out _ (hn7.trans (by repeat (first | assumption | exact Nw.refl _ | refine Nw.alloc ?_ _ | refine Nw.drew ?_ | refine Nw.drewN2 ?_ _ | (refine Nw.trans ?_ (by assumption)))))).mono ?_; rintro en w5' ⟨v5, rfl, hs5, hf5, hn5⟩) | (go_at_call_of 26 (x 7); refine (HS1.out _ _ _ (by first | exact hd | exact hd.1 | exact hd.2 | exact hd.2.1 | exact hd.2.2) (by first | exact hd | exact hd.1 | exact hd.2 | exact hd.2.1 | exact hd.2.2)).mono ?_; rintro en w5' ⟨rfl, hn5⟩) | (go_at_call 26; refine (HS2.out _ _ _ (by first | exact hd | exact hd.1 | exact hd.2 | exact hd.2.1 | exact hd.2.2) (by first | exact hd | exact hd.1 | exact hd.2 | exact hd.2.1 | exact hd.2.2)).mono ?_; rintro en w5' ⟨rfl, hn5⟩)); (refine hK.out _ _ ?_ ?_ <;> first | (solve | (repeat (first | assumption | exact Nw.refl _ | refine Nw.alloc ?_ _ | refine Nw.drew ?_ | refine Nw.drewN2 ?_ _ | (refine Nw.trans ?_ (by assumption))))) | ((conv => lhs; whnf) <;> exact rfl) | exact rfl | exact congrArg (Value.int .u8) hq2 | exact congrArg (Value.int .u8) hq2' | exact hs5 | exact congrArg Value.bool hd0 | exact congrArg Value.bool (by simp))))
                      try simp only [Act.put, List.setIfInBounds_toArray, List.set_cons_zero, List.set_cons_succ, Nat.reduceAdd, List.length_nil, List.length_cons, List.nil_append, List.cons_append]
                    iterate 4
                      refine Stairs.is ?_ ?_ ?_
                      rotate_left 1
                      · intro x wR hR hd K hK
                        simp only [Act.put, List.setIfInBounds_toArray, List.set_cons_zero, List.set_cons_succ, Nat.reduceAdd, List.length_nil, List.length_cons, List.nil_append, List.cons_append, Say.ok] at hK ⊢
                        clear hd
                        change Hid _ at hK
                        obtain ⟨hcR, hfR, hzR⟩ := nwc hR
                        first | (refine wanted_yes ?_ ?_; rfl) | (refine wanted_no ?_ ?_; rfl)
                        first | (refine hK.out _ _ ?_ ?_ <;> first | (solve | (repeat (first | assumption | exact Nw.refl _ | refine Nw.alloc ?_ _ | refine Nw.drew ?_ | refine Nw.drewN2 ?_ _ | (refine Nw.trans ?_ (by assumption))))) | ((conv => lhs; whnf) <;> exact rfl) | exact rfl | exact congrArg (Value.int .u8) hq2 | exact congrArg (Value.int .u8) hq2' | exact hs5 | exact congrArg Value.bool hd0 | exact congrArg Value.bool (by simp)) | (go_step; first | (refine hK.out _ _ ?_ ?_ <;> first | (solve | (repeat (first | assumption | exact Nw.refl _ | refine Nw.alloc ?_ _ | refine Nw.drew ?_ | refine Nw.drewN2 ?_ _ | (refine Nw.trans ?_ (by assumption))))) | ((conv => lhs; whnf) <;> exact rfl) | exact rfl | exact congrArg (Value.int .u8) hq2 | exact congrArg (Value.int .u8) hq2' | exact hs5 | exact congrArg Value.bool hd0 | exact congrArg Value.bool (by simp)) | ((first | (go_at_call_of 27 (Value.slice p5 ys.length d5); refine (HTA.out _ (hn7.trans (by repeat (first | assumption | exact Nw.refl _ | refine Nw.alloc ?_ _ | refine Nw.drew ?_ | refine Nw.drewN2 ?_ _ | (refine Nw.trans ?_ (by assumption)))))).mono ?_; rintro en w5' ⟨v5, rfl, hs5, hf5, hn5⟩) | (go_at_call_of 27 (Value.slice p6 yv.length d6); refine (HTB.out _ (hn7.trans (by repeat (first | assumption | exact Nw.refl _ | refine Nw.alloc ?_ _ | refine Nw.drew ?_ | refine Nw.drewN2 ?_ _ | (refine Nw.trans ?_ (by assumption)))))).mono ?_; rintro en w5' ⟨v5, rfl, hs5, hf5, hn5⟩) | (go_at_call_of 27 (Value.slice p1 xs.length d1); refine (HTC.out _ (hn7.trans (by repeat (first | assumption | exact Nw.refl _ | refine Nw.alloc ?_ _ | refine Nw.drew ?_ | refine Nw.drewN2 ?_ _ | (refine Nw.trans ?_ (by assumption)))))).mono ?_; rintro en w5' ⟨v5, rfl, hs5, hf5, hn5⟩) | (go_at_call 27; refine (HTD.out _ (hn7.trans (by repeat (first | assumption | exact Nw.refl _ | refine Nw.alloc ?_ _ | refine Nw.drew ?_ | refine Nw.drewN2 ?_ _ | (refine Nw.trans ?_ (by assumption)))))).mono ?_; rintro en w5' ⟨v5, rfl, hs5, hf5, hn5⟩) | (go_at_call_of 26 (x 7); refine (HS1.out _ _ _ (by first | exact hd | exact hd.1 | exact hd.2 | exact hd.2.1 | exact hd.2.2) (by first | exact hd | exact hd.1 | exact hd.2 | exact hd.2.1 | exact hd.2.2)).mono ?_; rintro en w5' ⟨rfl, hn5⟩) | (go_at_call 26; refine (HS2.out _ _ _ (by first | exact hd | exact hd.1 | exact hd.2 | exact hd.2.1 | exact hd.2.2) (by first | exact hd | exact hd.1 | exact hd.2 | exact hd.2.1 | exact hd.2.2)).mono ?_; rintro en w5' ⟨rfl, hn5⟩)); (refine hK.out _ _ ?_ ?_ <;> first | (solve | (repeat (first | assumption | exact Nw.refl _ | refine Nw.alloc ?_ _ | refine Nw.drew ?_ | refine Nw.drewN2 ?_ _ | (refine Nw.trans ?_ (by assumption))))) | ((conv => lhs; whnf) <;> exact rfl) | exact rfl | exact congrArg (Value.int .u8) hq2 | exact congrArg (Value.int .u8) hq2' | exact hs5 | exact congrArg Value.bool hd0 | exact congrArg Value.bool (by simp))))
                      try simp only [Act.put, List.setIfInBounds_toArray, List.set_cons_zero, List.set_cons_succ, Nat.reduceAdd, List.length_nil, List.length_cons, List.nil_append, List.cons_append]
                    iterate 1
                      refine Stairs.that (TrS (trim yv)) (by first | assumption | simp) ?_ ?_
                      · intro x wR hR hd K hK
                        simp only [Act.put, List.setIfInBounds_toArray, List.set_cons_zero, List.set_cons_succ, Nat.reduceAdd, List.length_nil, List.length_cons, List.nil_append, List.cons_append, Say.ok] at hK ⊢
                        clear hd
                        change Hid _ at hK
                        obtain ⟨hcR, hfR, hzR⟩ := nwc hR
                        first | (refine wanted_yes ?_ ?_; rfl) | (refine wanted_no ?_ ?_; rfl)
                        first | (refine hK.out _ _ ?_ ?_ <;> first | (solve | (repeat (first | assumption | exact Nw.refl _ | refine Nw.alloc ?_ _ | refine Nw.drew ?_ | refine Nw.drewN2 ?_ _ | (refine Nw.trans ?_ (by assumption))))) | ((conv => lhs; whnf) <;> exact rfl) | exact rfl | exact congrArg (Value.int .u8) hq2 | exact congrArg (Value.int .u8) hq2' | exact hs5 | exact congrArg Value.bool hd0 | exact congrArg Value.bool (by simp)) | (go_step; first | (refine hK.out _ _ ?_ ?_ <;> first | (solve | (repeat (first | assumption | exact Nw.refl _ | refine Nw.alloc ?_ _ | refine Nw.drew ?_ | refine Nw.drewN2 ?_ _ | (refine Nw.trans ?_ (by assumption))))) | ((conv => lhs; whnf) <;> exact rfl) | exact rfl | exact congrArg (Value.int .u8) hq2 | exact congrArg (Value.int .u8) hq2' | exact hs5 | exact congrArg Value.bool hd0 | exact congrArg Value.bool (by simp)) | ((first | (go_at_call_of 27 (Value.slice p5 ys.length d5); refine (HTA.out _ (hn7.trans (by repeat (first | assumption | exact Nw.refl _ | refine Nw.alloc ?_ _ | refine Nw.drew ?_ | refine Nw.drewN2 ?_ _ | (refine Nw.trans ?_ (by assumption)))))).mono ?_; rintro en w5' ⟨v5, rfl, hs5, hf5, hn5⟩) | (go_at_call_of 27 (Value.slice p6 yv.length d6); refine (HTB.out _ (hn7.trans (by repeat (first | assumption | exact Nw.refl _ | refine Nw.alloc ?_ _ | refine Nw.drew ?_ | refine Nw.drewN2 ?_ _ | (refine Nw.trans ?_ (by assumption)))))).mono ?_; rintro en w5' ⟨v5, rfl, hs5, hf5, hn5⟩) | (go_at_call_of 27 (Value.slice p1 xs.length d1); refine (HTC.out _ (hn7.trans (by repeat (first | assumption | exact Nw.refl _ | refine Nw.alloc ?_ _ | refine Nw.drew ?_ | refine Nw.drewN2 ?_ _ | (refine Nw.trans ?_ (by assumption)))))).mono ?_; rintro en w5' ⟨v5, rfl, hs5, hf5, hn5⟩) | (go_at_call 27; refine (HTD.out _ (hn7.trans (by repeat (first | assumption | exact Nw.refl _ | refine Nw.alloc ?_ _ | refine Nw.drew ?_ | refine Nw.drewN2 ?_ _ | (refine Nw.trans ?_ (by assumption)))))).mono ?_; rintro en w5' ⟨v5, rfl, hs5, hf5, hn5⟩) | (go_at_call_of 26 (x 7); refine (HS1.out _ _ _ (by first | exact hd | exact hd.1 | exact hd.2 | exact hd.2.1 | exact hd.2.2) (by first | exact hd | exact hd.1 | exact hd.2 | exact hd.2.1 | exact hd.2.2)).mono ?_; rintro en w5' ⟨rfl, hn5⟩) | (go_at_call 26; refine (HS2.out _ _ _ (by first | exact hd | exact hd.1 | exact hd.2 | exact hd.2.1 | exact hd.2.2) (by first | exact hd | exact hd.1 | exact hd.2 | exact hd.2.1 | exact hd.2.2)).mono ?_; rintro en w5' ⟨rfl, hn5⟩)); (refine hK.out _ _ ?_ ?_ <;> first | (solve | (repeat (first | assumption | exact Nw.refl _ | refine Nw.alloc ?_ _ | refine Nw.drew ?_ | refine Nw.drewN2 ?_ _ | (refine Nw.trans ?_ (by assumption))))) | ((conv => lhs; whnf) <;> exact rfl) | exact rfl | exact congrArg (Value.int .u8) hq2 | exact congrArg (Value.int .u8) hq2' | exact hs5 | exact congrArg Value.bool hd0 | exact congrArg Value.bool (by simp))))
                      try simp only [Act.put, List.setIfInBounds_toArray, List.set_cons_zero, List.set_cons_succ, Nat.reduceAdd, List.length_nil, List.length_cons, List.nil_append, List.cons_append]
                    iterate 2
                      refine Stairs.is ?_ ?_ ?_
                      rotate_left 1
                      · intro x wR hR hd K hK
                        simp only [Act.put, List.setIfInBounds_toArray, List.set_cons_zero, List.set_cons_succ, Nat.reduceAdd, List.length_nil, List.length_cons, List.nil_append, List.cons_append, Say.ok] at hK ⊢
                        clear hd
                        change Hid _ at hK
                        obtain ⟨hcR, hfR, hzR⟩ := nwc hR
                        first | (refine wanted_yes ?_ ?_; rfl) | (refine wanted_no ?_ ?_; rfl)
                        first | (refine hK.out _ _ ?_ ?_ <;> first | (solve | (repeat (first | assumption | exact Nw.refl _ | refine Nw.alloc ?_ _ | refine Nw.drew ?_ | refine Nw.drewN2 ?_ _ | (refine Nw.trans ?_ (by assumption))))) | ((conv => lhs; whnf) <;> exact rfl) | exact rfl | exact congrArg (Value.int .u8) hq2 | exact congrArg (Value.int .u8) hq2' | exact hs5 | exact congrArg Value.bool hd0 | exact congrArg Value.bool (by simp)) | (go_step; first | (refine hK.out _ _ ?_ ?_ <;> first | (solve | (repeat (first | assumption | exact Nw.refl _ | refine Nw.alloc ?_ _ | refine Nw.drew ?_ | refine Nw.drewN2 ?_ _ | (refine Nw.trans ?_ (by assumption))))) | ((conv => lhs; whnf) <;> exact rfl) | exact rfl | exact congrArg (Value.int .u8) hq2 | exact congrArg (Value.int .u8) hq2' | exact hs5 | exact congrArg Value.bool hd0 | exact congrArg Value.bool (by simp)) | ((first | (go_at_call_of 27 (Value.slice p5 ys.length d5); refine (HTA.out _ (hn7.trans (by repeat (first | assumption | exact Nw.refl _ | refine Nw.alloc ?_ _ | refine Nw.drew ?_ | refine Nw.drewN2 ?_ _ | (refine Nw.trans ?_ (by assumption)))))).mono ?_; rintro en w5' ⟨v5, rfl, hs5, hf5, hn5⟩) | (go_at_call_of 27 (Value.slice p6 yv.length d6); refine (HTB.out _ (hn7.trans (by repeat (first | assumption | exact Nw.refl _ | refine Nw.alloc ?_ _ | refine Nw.drew ?_ | refine Nw.drewN2 ?_ _ | (refine Nw.trans ?_ (by assumption)))))).mono ?_; rintro en w5' ⟨v5, rfl, hs5, hf5, hn5⟩) | (go_at_call_of 27 (Value.slice p1 xs.length d1); refine (HTC.out _ (hn7.trans (by repeat (first | assumption | exact Nw.refl _ | refine Nw.alloc ?_ _ | refine Nw.drew ?_ | refine Nw.drewN2 ?_ _ | (refine Nw.trans ?_ (by assumption)))))).mono ?_; rintro en w5' ⟨v5, rfl, hs5, hf5, hn5⟩) | (go_at_call 27; refine (HTD.out _ (hn7.trans (by repeat (first | assumption | exact Nw.refl _ | refine Nw.alloc ?_ _ | refine Nw.drew ?_ | refine Nw.drewN2 ?_ _ | (refine Nw.trans ?_ (by assumption)))))).mono ?_; rintro en w5' ⟨v5, rfl, hs5, hf5, hn5⟩) | (go_at_call_of 26 (x 7); refine (HS1.out _ _ _ (by first | exact hd | exact hd.1 | exact hd.2 | exact hd.2.1 | exact hd.2.2) (by first | exact hd | exact hd.1 | exact hd.2 | exact hd.2.1 | exact hd.2.2)).mono ?_; rintro en w5' ⟨rfl, hn5⟩) | (go_at_call 26; refine (HS2.out _ _ _ (by first | exact hd | exact hd.1 | exact hd.2 | exact hd.2.1 | exact hd.2.2) (by first | exact hd | exact hd.1 | exact hd.2 | exact hd.2.1 | exact hd.2.2)).mono ?_; rintro en w5' ⟨rfl, hn5⟩)); (refine hK.out _ _ ?_ ?_ <;> first | (solve | (repeat (first | assumption | exact Nw.refl _ | refine Nw.alloc ?_ _ | refine Nw.drew ?_ | refine Nw.drewN2 ?_ _ | (refine Nw.trans ?_ (by assumption))))) | ((conv => lhs; whnf) <;> exact rfl) | exact rfl | exact congrArg (Value.int .u8) hq2 | exact congrArg (Value.int .u8) hq2' | exact hs5 | exact congrArg Value.bool hd0 | exact congrArg Value.bool (by simp))))
                      try simp only [Act.put, List.setIfInBounds_toArray, List.set_cons_zero, List.set_cons_succ, Nat.reduceAdd, List.length_nil, List.length_cons, List.nil_append, List.cons_append]
                    iterate 1
                      refine Stairs.that (TrS (trim xv)) (by first | assumption | simp) ?_ ?_
                      · intro x wR hR hd K hK
                        simp only [Act.put, List.setIfInBounds_toArray, List.set_cons_zero, List.set_cons_succ, Nat.reduceAdd, List.length_nil, List.length_cons, List.nil_append, List.cons_append, Say.ok] at hK ⊢
                        clear hd
                        change Hid _ at hK
                        obtain ⟨hcR, hfR, hzR⟩ := nwc hR
                        first | (refine wanted_yes ?_ ?_; rfl) | (refine wanted_no ?_ ?_; rfl)
                        first | (refine hK.out _ _ ?_ ?_ <;> first | (solve | (repeat (first | assumption | exact Nw.refl _ | refine Nw.alloc ?_ _ | refine Nw.drew ?_ | refine Nw.drewN2 ?_ _ | (refine Nw.trans ?_ (by assumption))))) | ((conv => lhs; whnf) <;> exact rfl) | exact rfl | exact congrArg (Value.int .u8) hq2 | exact congrArg (Value.int .u8) hq2' | exact hs5 | exact congrArg Value.bool hd0 | exact congrArg Value.bool (by simp)) | (go_step; first | (refine hK.out _ _ ?_ ?_ <;> first | (solve | (repeat (first | assumption | exact Nw.refl _ | refine Nw.alloc ?_ _ | refine Nw.drew ?_ | refine Nw.drewN2 ?_ _ | (refine Nw.trans ?_ (by assumption))))) | ((conv => lhs; whnf) <;> exact rfl) | exact rfl | exact congrArg (Value.int .u8) hq2 | exact congrArg (Value.int .u8) hq2' | exact hs5 | exact congrArg Value.bool hd0 | exact congrArg Value.bool (by simp)) | ((first | (go_at_call_of 27 (Value.slice p5 ys.length d5); refine (HTA.out _ (hn7.trans (by repeat (first | assumption | exact Nw.refl _ | refine Nw.alloc ?_ _ | refine Nw.drew ?_ | refine Nw.drewN2 ?_ _ | (refine Nw.trans ?_ (by assumption)))))).mono ?_; rintro en w5' ⟨v5, rfl, hs5, hf5, hn5⟩) | (go_at_call_of 27 (Value.slice p6 yv.length d6); refine (HTB.out _ (hn7.trans (by repeat (first | assumption | exact Nw.refl _ | refine Nw.alloc ?_ _ | refine Nw.drew ?_ | refine Nw.drewN2 ?_ _ | (refine Nw.trans ?_ (by assumption)))))).mono ?_; rintro en w5' ⟨v5, rfl, hs5, hf5, hn5⟩) | (go_at_call_of 27 (Value.slice p1 xs.length d1); refine (HTC.out _ (hn7.trans (by repeat (first | assumption | exact Nw.refl _ | refine Nw.alloc ?_ _ | refine Nw.drew ?_ | refine Nw.drewN2 ?_ _ | (refine Nw.trans ?_ (by assumption)))))).mono ?_; rintro en w5' ⟨v5, rfl, hs5, hf5, hn5⟩) | (go_at_call 27; refine (HTD.out _ (hn7.trans (by repeat (first | assumption | exact Nw.refl _ | refine Nw.alloc ?_ _ | refine Nw.drew ?_ | refine Nw.drewN2 ?_ _ | (refine Nw.trans ?_ (by assumption)))))).mono ?_; rintro en w5' ⟨v5, rfl, hs5, hf5, hn5⟩) | (go_at_call_of 26 (x 7); refine (HS1.out _ _ _ (by first | exact hd | exact hd.1 | exact hd.2 | exact hd.2.1 | exact hd.2.2) (by first | exact hd | exact hd.1 | exact hd.2 | exact hd.2.1 | exact hd.2.2)).mono ?_; rintro en w5' ⟨rfl, hn5⟩) | (go_at_call 26; refine (HS2.out _ _ _ (by first | exact hd | exact hd.1 | exact hd.2 | exact hd.2.1 | exact hd.2.2) (by first | exact hd | exact hd.1 | exact hd.2 | exact hd.2.1 | exact hd.2.2)).mono ?_; rintro en w5' ⟨rfl, hn5⟩)); (refine hK.out _ _ ?_ ?_ <;> first | (solve | (repeat (first | assumption | exact Nw.refl _ | refine Nw.alloc ?_ _ | refine Nw.drew ?_ | refine Nw.drewN2 ?_ _ | (refine Nw.trans ?_ (by assumption))))) | ((conv => lhs; whnf) <;> exact rfl) | exact rfl | exact congrArg (Value.int .u8) hq2 | exact congrArg (Value.int .u8) hq2' | exact hs5 | exact congrArg Value.bool hd0 | exact congrArg Value.bool (by simp))))
                      try simp only [Act.put, List.setIfInBounds_toArray, List.set_cons_zero, List.set_cons_succ, Nat.reduceAdd, List.length_nil, List.length_cons, List.nil_append, List.cons_append]
                    iterate 1
                      refine Stairs.is ?_ ?_ ?_
                      rotate_left 1
                      · intro x wR hR hd K hK
                        simp only [Act.put, List.setIfInBounds_toArray, List.set_cons_zero, List.set_cons_succ, Nat.reduceAdd, List.length_nil, List.length_cons, List.nil_append, List.cons_append, Say.ok] at hK ⊢
                        try simp [Region.binds, sayAt, List.getD_cons_zero, List.getD_cons_succ, Say.ok, Vl] at hd
                        change Hid _ at hK
                        obtain ⟨hcR, hfR, hzR⟩ := nwc hR
                        first | (refine wanted_yes ?_ ?_; rfl) | (refine wanted_no ?_ ?_; rfl)
                        first | (refine hK.out _ _ ?_ ?_ <;> first | (solve | (repeat (first | assumption | exact Nw.refl _ | refine Nw.alloc ?_ _ | refine Nw.drew ?_ | refine Nw.drewN2 ?_ _ | (refine Nw.trans ?_ (by assumption))))) | ((conv => lhs; whnf) <;> exact rfl) | exact rfl | exact congrArg (Value.int .u8) hq2 | exact congrArg (Value.int .u8) hq2' | exact hs5 | exact congrArg Value.bool hd0 | exact congrArg Value.bool (by simp)) | (go_step; first | (refine hK.out _ _ ?_ ?_ <;> first | (solve | (repeat (first | assumption | exact Nw.refl _ | refine Nw.alloc ?_ _ | refine Nw.drew ?_ | refine Nw.drewN2 ?_ _ | (refine Nw.trans ?_ (by assumption))))) | ((conv => lhs; whnf) <;> exact rfl) | exact rfl | exact congrArg (Value.int .u8) hq2 | exact congrArg (Value.int .u8) hq2' | exact hs5 | exact congrArg Value.bool hd0 | exact congrArg Value.bool (by simp)) | ((first | (go_at_call_of 27 (Value.slice p5 ys.length d5); refine (HTA.out _ (hn7.trans (by repeat (first | assumption | exact Nw.refl _ | refine Nw.alloc ?_ _ | refine Nw.drew ?_ | refine Nw.drewN2 ?_ _ | (refine Nw.trans ?_ (by assumption)))))).mono ?_; rintro en w5' ⟨v5, rfl, hs5, hf5, hn5⟩) | (go_at_call_of 27 (Value.slice p6 yv.length d6); refine (HTB.out _ (hn7.trans (by repeat (first | assumption | exact Nw.refl _ | refine Nw.alloc ?_ _ | refine Nw.drew ?_ | refine Nw.drewN2 ?_ _ | (refine Nw.trans ?_ (by assumption)))))).mono ?_; rintro en w5' ⟨v5, rfl, hs5, hf5, hn5⟩) | (go_at_call_of 27 (Value.slice p1 xs.length d1); refine (HTC.out _ (hn7.trans (by repeat (first | assumption | exact Nw.refl _ | refine Nw.alloc ?_ _ | refine Nw.drew ?_ | refine Nw.drewN2 ?_ _ | (refine Nw.trans ?_ (by assumption)))))).mono ?_; rintro en w5' ⟨v5, rfl, hs5, hf5, hn5⟩) | (go_at_call 27; refine (HTD.out _ (hn7.trans (by repeat (first | assumption | exact Nw.refl _ | refine Nw.alloc ?_ _ | refine Nw.drew ?_ | refine Nw.drewN2 ?_ _ | (refine Nw.trans ?_ (by assumption)))))).mono ?_; rintro en w5' ⟨v5, rfl, hs5, hf5, hn5⟩) | (go_at_call_of 26 (x 7); refine (HS1.out _ _ _ (by first | exact hd | exact hd.1 | exact hd.2 | exact hd.2.1 | exact hd.2.2) (by first | exact hd | exact hd.1 | exact hd.2 | exact hd.2.1 | exact hd.2.2)).mono ?_; rintro en w5' ⟨rfl, hn5⟩) | (go_at_call 26; refine (HS2.out _ _ _ (by first | exact hd | exact hd.1 | exact hd.2 | exact hd.2.1 | exact hd.2.2) (by first | exact hd | exact hd.1 | exact hd.2 | exact hd.2.1 | exact hd.2.2)).mono ?_; rintro en w5' ⟨rfl, hn5⟩)); (refine hK.out _ _ ?_ ?_ <;> first | (solve | (repeat (first | assumption | exact Nw.refl _ | refine Nw.alloc ?_ _ | refine Nw.drew ?_ | refine Nw.drewN2 ?_ _ | (refine Nw.trans ?_ (by assumption))))) | ((conv => lhs; whnf) <;> exact rfl) | exact rfl | exact congrArg (Value.int .u8) hq2 | exact congrArg (Value.int .u8) hq2' | exact hs5 | exact congrArg Value.bool hd0 | exact congrArg Value.bool (by simp))))
                      try simp only [Act.put, List.setIfInBounds_toArray, List.set_cons_zero, List.set_cons_succ, Nat.reduceAdd, List.length_nil, List.length_cons, List.nil_append, List.cons_append]
                    iterate 1
                      refine Stairs.is ?_ ?_ ?_
                      rotate_left 1
                      · intro x wR hR hd K hK
                        simp only [Act.put, List.setIfInBounds_toArray, List.set_cons_zero, List.set_cons_succ, Nat.reduceAdd, List.length_nil, List.length_cons, List.nil_append, List.cons_append, Say.ok] at hK ⊢
                        clear hd
                        change Hid _ at hK
                        obtain ⟨hcR, hfR, hzR⟩ := nwc hR
                        first | (refine wanted_yes ?_ ?_; rfl) | (refine wanted_no ?_ ?_; rfl)
                        first | (refine hK.out _ _ ?_ ?_ <;> first | (solve | (repeat (first | assumption | exact Nw.refl _ | refine Nw.alloc ?_ _ | refine Nw.drew ?_ | refine Nw.drewN2 ?_ _ | (refine Nw.trans ?_ (by assumption))))) | ((conv => lhs; whnf) <;> exact rfl) | exact rfl | exact congrArg (Value.int .u8) hq2 | exact congrArg (Value.int .u8) hq2' | exact hs5 | exact congrArg Value.bool hd0 | exact congrArg Value.bool (by simp)) | (go_step; first | (refine hK.out _ _ ?_ ?_ <;> first | (solve | (repeat (first | assumption | exact Nw.refl _ | refine Nw.alloc ?_ _ | refine Nw.drew ?_ | refine Nw.drewN2 ?_ _ | (refine Nw.trans ?_ (by assumption))))) | ((conv => lhs; whnf) <;> exact rfl) | exact rfl | exact congrArg (Value.int .u8) hq2 | exact congrArg (Value.int .u8) hq2' | exact hs5 | exact congrArg Value.bool hd0 | exact congrArg Value.bool (by simp)) | ((first | (go_at_call_of 27 (Value.slice p5 ys.length d5); refine (HTA.out _ (hn7.trans (by repeat (first | assumption | exact Nw.refl _ | refine Nw.alloc ?_ _ | refine Nw.drew ?_ | refine Nw.drewN2 ?_ _ | (refine Nw.trans ?_ (by assumption)))))).mono ?_; rintro en w5' ⟨v5, rfl, hs5, hf5, hn5⟩) | (go_at_call_of 27 (Value.slice p6 yv.length d6); refine (HTB.out _ (hn7.trans (by repeat (first | assumption | exact Nw.refl _ | refine Nw.alloc ?_ _ | refine Nw.drew ?_ | refine Nw.drewN2 ?_ _ | (refine Nw.trans ?_ (by assumption)))))).mono ?_; rintro en w5' ⟨v5, rfl, hs5, hf5, hn5⟩) | (go_at_call_of 27 (Value.slice p1 xs.length d1); refine (HTC.out _ (hn7.trans (by repeat (first | assumption | exact Nw.refl _ | refine Nw.alloc ?_ _ | refine Nw.drew ?_ | refine Nw.drewN2 ?_ _ | (refine Nw.trans ?_ (by assumption)))))).mono ?_; rintro en w5' ⟨v5, rfl, hs5, hf5, hn5⟩) | (go_at_call 27; refine (HTD.out _ (hn7.trans (by repeat (first | assumption | exact Nw.refl _ | refine Nw.alloc ?_ _ | refine Nw.drew ?_ | refine Nw.drewN2 ?_ _ | (refine Nw.trans ?_ (by assumption)))))).mono ?_; rintro en w5' ⟨v5, rfl, hs5, hf5, hn5⟩) | (go_at_call_of 26 (x 7); refine (HS1.out _ _ _ (by first | exact hd | exact hd.1 | exact hd.2 | exact hd.2.1 | exact hd.2.2) (by first | exact hd | exact hd.1 | exact hd.2 | exact hd.2.1 | exact hd.2.2)).mono ?_; rintro en w5' ⟨rfl, hn5⟩) | (go_at_call 26; refine (HS2.out _ _ _ (by first | exact hd | exact hd.1 | exact hd.2 | exact hd.2.1 | exact hd.2.2) (by first | exact hd | exact hd.1 | exact hd.2 | exact hd.2.1 | exact hd.2.2)).mono ?_; rintro en w5' ⟨rfl, hn5⟩)); (refine hK.out _ _ ?_ ?_ <;> first | (solve | (repeat (first | assumption | exact Nw.refl _ | refine Nw.alloc ?_ _ | refine Nw.drew ?_ | refine Nw.drewN2 ?_ _ | (refine Nw.trans ?_ (by assumption))))) | ((conv => lhs; whnf) <;> exact rfl) | exact rfl | exact congrArg (Value.int .u8) hq2 | exact congrArg (Value.int .u8) hq2' | exact hs5 | exact congrArg Value.bool hd0 | exact congrArg Value.bool (by simp))))
                      try simp only [Act.put, List.setIfInBounds_toArray, List.set_cons_zero, List.set_cons_succ, Nat.reduceAdd, List.length_nil, List.length_cons, List.nil_append, List.cons_append]
                    refine Stairs.nil ?_
                    intro x wR hR hx
                    clear hx
                    obtain ⟨hcR, hfR, hzR⟩ := nwc hR
                    replace hn7 := hn7.trans hR
                    clear hcR hfR hzR z0 z1 z2 z3 z4 u1 u2 gu hR
                    have hltj := HJL.out
                    go_wp2
                    go_roundw
                    case rel => exact ⟨j + 1, by omega, by go_num, by rw [HF.out], hn7⟩
                    case measure => (simp [intOf] <;> omega)
                | true =>
                  obtain HF := hid (show lastK l xs xv (j + 1) = (j : Int) by rw [HLK.out, HIS.out]; rfl)
                  as_aux_lemma =>
                    refine wp_region_stairs (by kernel_rfl) (by kernel_rfl) (by kernel_rfl) ?_
                    iterate 2
                      refine Stairs.is ?_ ?_ ?_
                      rotate_left 1
                      · intro x wR hR hd K hK
                        simp only [Act.put, List.setIfInBounds_toArray, List.set_cons_zero, List.set_cons_succ, Nat.reduceAdd, List.length_nil, List.length_cons, List.nil_append, List.cons_append, Say.ok] at hK ⊢
                        clear hd
                        change Hid _ at hK
                        obtain ⟨hcR, hfR, hzR⟩ := nwc hR
                        first | (refine wanted_yes ?_ ?_; rfl) | (refine wanted_no ?_ ?_; rfl)
                        first | (refine hK.out _ _ ?_ ?_ <;> first | (solve | (repeat (first | assumption | exact Nw.refl _ | refine Nw.alloc ?_ _ | refine Nw.drew ?_ | refine Nw.drewN2 ?_ _ | (refine Nw.trans ?_ (by assumption))))) | ((conv => lhs; whnf) <;> exact rfl) | exact rfl | exact congrArg (Value.int .u8) hq2 | exact congrArg (Value.int .u8) hq2' | exact hs5 | exact congrArg Value.bool hd0 | exact congrArg Value.bool (by simp)) | (go_step; first | (refine hK.out _ _ ?_ ?_ <;> first | (solve | (repeat (first | assumption | exact Nw.refl _ | refine Nw.alloc ?_ _ | refine Nw.drew ?_ | refine Nw.drewN2 ?_ _ | (refine Nw.trans ?_ (by assumption))))) | ((conv => lhs; whnf) <;> exact rfl) | exact rfl | exact congrArg (Value.int .u8) hq2 | exact congrArg (Value.int .u8) hq2' | exact hs5 | exact congrArg Value.bool hd0 | exact congrArg Value.bool (by simp)) | ((first | (go_at_call_of 27 (Value.slice p5 ys.length d5); refine (HTA.out _ (hn7.trans (by repeat (first | assumption | exact Nw.refl _ | refine Nw.alloc ?_ _ | refine Nw.drew ?_ | refine Nw.drewN2 ?_ _ | (refine Nw.trans ?_ (by assumption)))))).mono ?_; rintro en w5' ⟨v5, rfl, hs5, hf5, hn5⟩) | (go_at_call_of 27 (Value.slice p6 yv.length d6); refine (HTB.out _ (hn7.trans (by repeat (first | assumption | exact Nw.refl _ | refine Nw.alloc ?_ _ | refine Nw.drew ?_ | refine Nw.drewN2 ?_ _ | (refine Nw.trans ?_ (by assumption)))))).mono ?_; rintro en w5' ⟨v5, rfl, hs5, hf5, hn5⟩) | (go_at_call_of 27 (Value.slice p1 xs.length d1); refine (HTC.out _ (hn7.trans (by repeat (first | assumption | exact Nw.refl _ | refine Nw.alloc ?_ _ | refine Nw.drew ?_ | refine Nw.drewN2 ?_ _ | (refine Nw.trans ?_ (by assumption)))))).mono ?_; rintro en w5' ⟨v5, rfl, hs5, hf5, hn5⟩) | (go_at_call 27; refine (HTD.out _ (hn7.trans (by repeat (first | assumption | exact Nw.refl _ | refine Nw.alloc ?_ _ | refine Nw.drew ?_ | refine Nw.drewN2 ?_ _ | (refine Nw.trans ?_ (by assumption)))))).mono ?_; rintro en w5' ⟨v5, rfl, hs5, hf5, hn5⟩) | (go_at_call_of 26 (x 7); refine (HS1.out _ _ _ (by first | exact hd | exact hd.1 | exact hd.2 | exact hd.2.1 | exact hd.2.2) (by first | exact hd | exact hd.1 | exact hd.2 | exact hd.2.1 | exact hd.2.2)).mono ?_; rintro en w5' ⟨rfl, hn5⟩) | (go_at_call 26; refine (HS2.out _ _ _ (by first | exact hd | exact hd.1 | exact hd.2 | exact hd.2.1 | exact hd.2.2) (by first | exact hd | exact hd.1 | exact hd.2 | exact hd.2.1 | exact hd.2.2)).mono ?_; rintro en w5' ⟨rfl, hn5⟩)); (refine hK.out _ _ ?_ ?_ <;> first | (solve | (repeat (first | assumption | exact Nw.refl _ | refine Nw.alloc ?_ _ | refine Nw.drew ?_ | refine Nw.drewN2 ?_ _ | (refine Nw.trans ?_ (by assumption))))) | ((conv => lhs; whnf) <;> exact rfl) | exact rfl | exact congrArg (Value.int .u8) hq2 | exact congrArg (Value.int .u8) hq2' | exact hs5 | exact congrArg Value.bool hd0 | exact congrArg Value.bool (by simp))))
                      try simp only [Act.put, List.setIfInBounds_toArray, List.set_cons_zero, List.set_cons_succ, Nat.reduceAdd, List.length_nil, List.length_cons, List.nil_append, List.cons_append]
                    iterate 1
                      refine Stairs.is (.int .u8 1) ?_ ?_
                      · intro x wR hR hd K hK
                        simp only [Act.put, List.setIfInBounds_toArray, List.set_cons_zero, List.set_cons_succ, Nat.reduceAdd, List.length_nil, List.length_cons, List.nil_append, List.cons_append, Say.ok] at hK ⊢
                        clear hd
                        change Hid _ at hK
                        obtain ⟨hcR, hfR, hzR⟩ := nwc hR
                        first | (refine wanted_yes ?_ ?_; rfl) | (refine wanted_no ?_ ?_; rfl)
                        first | (refine hK.out _ _ ?_ ?_ <;> first | (solve | (repeat (first | assumption | exact Nw.refl _ | refine Nw.alloc ?_ _ | refine Nw.drew ?_ | refine Nw.drewN2 ?_ _ | (refine Nw.trans ?_ (by assumption))))) | ((conv => lhs; whnf) <;> exact rfl) | exact rfl | exact congrArg (Value.int .u8) hq2 | exact congrArg (Value.int .u8) hq2' | exact hs5 | exact congrArg Value.bool hd0 | exact congrArg Value.bool (by simp)) | (go_step; first | (refine hK.out _ _ ?_ ?_ <;> first | (solve | (repeat (first | assumption | exact Nw.refl _ | refine Nw.alloc ?_ _ | refine Nw.drew ?_ | refine Nw.drewN2 ?_ _ | (refine Nw.trans ?_ (by assumption))))) | ((conv => lhs; whnf) <;> exact rfl) | exact rfl | exact congrArg (Value.int .u8) hq2 | exact congrArg (Value.int .u8) hq2' | exact hs5 | exact congrArg Value.bool hd0 | exact congrArg Value.bool (by simp)) | ((first | (go_at_call_of 27 (Value.slice p5 ys.length d5); refine (HTA.out _ (hn7.trans (by repeat (first | assumption | exact Nw.refl _ | refine Nw.alloc ?_ _ | refine Nw.drew ?_ | refine Nw.drewN2 ?_ _ | (refine Nw.trans ?_ (by assumption)))))).mono ?_; rintro en w5' ⟨v5, rfl, hs5, hf5, hn5⟩) | (go_at_call_of 27 (Value.slice p6 yv.length d6); refine (HTB.out _ (hn7.trans (by repeat (first | assumption | exact Nw.refl _ | refine Nw.alloc ?_ _ | refine Nw.drew ?_ | refine Nw.drewN2 ?_ _ | (refine Nw.trans ?_ (by assumption)))))).mono ?_; rintro en w5' ⟨v5, rfl, hs5, hf5, hn5⟩) | (go_at_call_of 27 (Value.slice p1 xs.length d1); refine (HTC.out _ (hn7.trans (by repeat (first | assumption | exact Nw.refl _ | refine Nw.alloc ?_ _ | refine Nw.drew ?_ | refine Nw.drewN2 ?_ _ | (refine Nw.trans ?_ (by assumption)))))).mono ?_; rintro en w5' ⟨v5, rfl, hs5, hf5, hn5⟩) | (go_at_call 27; refine (HTD.out _ (hn7.trans (by repeat (first | assumption | exact Nw.refl _ | refine Nw.alloc ?_ _ | refine Nw.drew ?_ | refine Nw.drewN2 ?_ _ | (refine Nw.trans ?_ (by assumption)))))).mono ?_; rintro en w5' ⟨v5, rfl, hs5, hf5, hn5⟩) | (go_at_call_of 26 (x 7); refine (HS1.out _ _ _ (by first | exact hd | exact hd.1 | exact hd.2 | exact hd.2.1 | exact hd.2.2) (by first | exact hd | exact hd.1 | exact hd.2 | exact hd.2.1 | exact hd.2.2)).mono ?_; rintro en w5' ⟨rfl, hn5⟩) | (go_at_call 26; refine (HS2.out _ _ _ (by first | exact hd | exact hd.1 | exact hd.2 | exact hd.2.1 | exact hd.2.2) (by first | exact hd | exact hd.1 | exact hd.2 | exact hd.2.1 | exact hd.2.2)).mono ?_; rintro en w5' ⟨rfl, hn5⟩)); (refine hK.out _ _ ?_ ?_ <;> first | (solve | (repeat (first | assumption | exact Nw.refl _ | refine Nw.alloc ?_ _ | refine Nw.drew ?_ | refine Nw.drewN2 ?_ _ | (refine Nw.trans ?_ (by assumption))))) | ((conv => lhs; whnf) <;> exact rfl) | exact rfl | exact congrArg (Value.int .u8) hq2 | exact congrArg (Value.int .u8) hq2' | exact hs5 | exact congrArg Value.bool hd0 | exact congrArg Value.bool (by simp))))
                      try simp only [Act.put, List.setIfInBounds_toArray, List.set_cons_zero, List.set_cons_succ, Nat.reduceAdd, List.length_nil, List.length_cons, List.nil_append, List.cons_append]
                    iterate 4
                      refine Stairs.is ?_ ?_ ?_
                      rotate_left 1
                      · intro x wR hR hd K hK
                        simp only [Act.put, List.setIfInBounds_toArray, List.set_cons_zero, List.set_cons_succ, Nat.reduceAdd, List.length_nil, List.length_cons, List.nil_append, List.cons_append, Say.ok] at hK ⊢
                        clear hd
                        change Hid _ at hK
                        obtain ⟨hcR, hfR, hzR⟩ := nwc hR
                        first | (refine wanted_yes ?_ ?_; rfl) | (refine wanted_no ?_ ?_; rfl)
                        first | (refine hK.out _ _ ?_ ?_ <;> first | (solve | (repeat (first | assumption | exact Nw.refl _ | refine Nw.alloc ?_ _ | refine Nw.drew ?_ | refine Nw.drewN2 ?_ _ | (refine Nw.trans ?_ (by assumption))))) | ((conv => lhs; whnf) <;> exact rfl) | exact rfl | exact congrArg (Value.int .u8) hq2 | exact congrArg (Value.int .u8) hq2' | exact hs5 | exact congrArg Value.bool hd0 | exact congrArg Value.bool (by simp)) | (go_step; first | (refine hK.out _ _ ?_ ?_ <;> first | (solve | (repeat (first | assumption | exact Nw.refl _ | refine Nw.alloc ?_ _ | refine Nw.drew ?_ | refine Nw.drewN2 ?_ _ | (refine Nw.trans ?_ (by assumption))))) | ((conv => lhs; whnf) <;> exact rfl) | exact rfl | exact congrArg (Value.int .u8) hq2 | exact congrArg (Value.int .u8) hq2' | exact hs5 | exact congrArg Value.bool hd0 | exact congrArg Value.bool (by simp)) | ((first | (go_at_call_of 27 (Value.slice p5 ys.length d5); refine (HTA.out _ (hn7.trans (by repeat (first | assumption | exact Nw.refl _ | refine Nw.alloc ?_ _ | refine Nw.drew ?_ | refine Nw.drewN2 ?_ _ | (refine Nw.trans ?_ (by assumption)))))).mono ?_; rintro en w5' ⟨v5, rfl, hs5, hf5, hn5⟩) | (go_at_call_of 27 (Value.slice p6 yv.length d6); refine (HTB.out _ (hn7.trans (by repeat (first | assumption | exact Nw.refl _ | refine Nw.alloc ?_ _ | refine Nw.drew ?_ | refine Nw.drewN2 ?_ _ | (refine Nw.trans ?_ (by assumption)))))).mono ?_; rintro en w5' ⟨v5, rfl, hs5, hf5, hn5⟩) | (go_at_call_of 27 (Value.slice p1 xs.length d1); refine (HTC.out _ (hn7.trans (by repeat (first | assumption | exact Nw.refl _ | refine Nw.alloc ?_ _ | refine Nw.drew ?_ | refine Nw.drewN2 ?_ _ | (refine Nw.trans ?_ (by assumption)))))).mono ?_; rintro en w5' ⟨v5, rfl, hs5, hf5, hn5⟩) | (go_at_call 27; refine (HTD.out _ (hn7.trans (by repeat (first | assumption | exact Nw.refl _ | refine Nw.alloc ?_ _ | refine Nw.drew ?_ | refine Nw.drewN2 ?_ _ | (refine Nw.trans ?_ (by assumption)))))).mono ?_; rintro en w5' ⟨v5, rfl, hs5, hf5, hn5⟩) | (go_at_call_of 26 (x 7); refine (HS1.out _ _ _ (by first | exact hd | exact hd.1 | exact hd.2 | exact hd.2.1 | exact hd.2.2) (by first | exact hd | exact hd.1 | exact hd.2 | exact hd.2.1 | exact hd.2.2)).mono ?_; rintro en w5' ⟨rfl, hn5⟩) | (go_at_call 26; refine (HS2.out _ _ _ (by first | exact hd | exact hd.1 | exact hd.2 | exact hd.2.1 | exact hd.2.2) (by first | exact hd | exact hd.1 | exact hd.2 | exact hd.2.1 | exact hd.2.2)).mono ?_; rintro en w5' ⟨rfl, hn5⟩)); (refine hK.out _ _ ?_ ?_ <;> first | (solve | (repeat (first | assumption | exact Nw.refl _ | refine Nw.alloc ?_ _ | refine Nw.drew ?_ | refine Nw.drewN2 ?_ _ | (refine Nw.trans ?_ (by assumption))))) | ((conv => lhs; whnf) <;> exact rfl) | exact rfl | exact congrArg (Value.int .u8) hq2 | exact congrArg (Value.int .u8) hq2' | exact hs5 | exact congrArg Value.bool hd0 | exact congrArg Value.bool (by simp))))
                      try simp only [Act.put, List.setIfInBounds_toArray, List.set_cons_zero, List.set_cons_succ, Nat.reduceAdd, List.length_nil, List.length_cons, List.nil_append, List.cons_append]
                    iterate 1
                      refine Stairs.that (TrS (trim ys)) (by first | assumption | simp) ?_ ?_
                      · intro x wR hR hd K hK
                        simp only [Act.put, List.setIfInBounds_toArray, List.set_cons_zero, List.set_cons_succ, Nat.reduceAdd, List.length_nil, List.length_cons, List.nil_append, List.cons_append, Say.ok] at hK ⊢
                        clear hd
                        change Hid _ at hK
                        obtain ⟨hcR, hfR, hzR⟩ := nwc hR
                        first | (refine wanted_yes ?_ ?_; rfl) | (refine wanted_no ?_ ?_; rfl)
                        first | (refine hK.out _ _ ?_ ?_ <;> first | (solve | (repeat (first | assumption | exact Nw.refl _ | refine Nw.alloc ?_ _ | refine Nw.drew ?_ | refine Nw.drewN2 ?_ _ | (refine Nw.trans ?_ (by assumption))))) | ((conv => lhs; whnf) <;> exact rfl) | exact rfl | exact congrArg (Value.int .u8) hq2 | exact congrArg (Value.int .u8) hq2' | exact hs5 | exact congrArg Value.bool hd0 | exact congrArg Value.bool (by simp)) | (go_step; first | (refine hK.out _ _ ?_ ?_ <;> first | (solve | (repeat (first | assumption | exact Nw.refl _ | refine Nw.alloc ?_ _ | refine Nw.drew ?_ | refine Nw.drewN2 ?_ _ | (refine Nw.trans ?_ (by assumption))))) | ((conv => lhs; whnf) <;> exact rfl) | exact rfl | exact congrArg (Value.int .u8) hq2 | exact congrArg (Value.int .u8) hq2' | exact hs5 | exact congrArg Value.bool hd0 | exact congrArg Value.bool (by simp)) | ((first | (go_at_call_of 27 (Value.slice p5 ys.length d5); refine (HTA.out _ (hn7.trans (by repeat (first | assumption | exact Nw.refl _ | refine Nw.alloc ?_ _ | refine Nw.drew ?_ | refine Nw.drewN2 ?_ _ | (refine Nw.trans ?_ (by assumption)))))).mono ?_; rintro en w5' ⟨v5, rfl, hs5, hf5, hn5⟩) | (go_at_call_of 27 (Value.slice p6 yv.length d6); refine (HTB.out _ (hn7.trans (by repeat (first | assumption | exact Nw.refl _ | refine Nw.alloc ?_ _ | refine Nw.drew ?_ | refine Nw.drewN2 ?_ _ | (refine Nw.trans ?_ (by assumption)))))).mono ?_; rintro en w5' ⟨v5, rfl, hs5, hf5, hn5⟩) | (go_at_call_of 27 (Value.slice p1 xs.length d1); refine (HTC.out _ (hn7.trans (by repeat (first | assumption | exact Nw.refl _ | refine Nw.alloc ?_ _ | refine Nw.drew ?_ | refine Nw.drewN2 ?_ _ | (refine Nw.trans ?_ (by assumption)))))).mono ?_; rintro en w5' ⟨v5, rfl, hs5, hf5, hn5⟩) | (go_at_call 27; refine (HTD.out _ (hn7.trans (by repeat (first | assumption | exact Nw.refl _ | refine Nw.alloc ?_ _ | refine Nw.drew ?_ | refine Nw.drewN2 ?_ _ | (refine Nw.trans ?_ (by assumption)))))).mono ?_; rintro en w5' ⟨v5, rfl, hs5, hf5, hn5⟩) | (go_at_call_of 26 (x 7); refine (HS1.out _ _ _ (by first | exact hd | exact hd.1 | exact hd.2 | exact hd.2.1 | exact hd.2.2) (by first | exact hd | exact hd.1 | exact hd.2 | exact hd.2.1 | exact hd.2.2)).mono ?_; rintro en w5' ⟨rfl, hn5⟩) | (go_at_call 26; refine (HS2.out _ _ _ (by first | exact hd | exact hd.1 | exact hd.2 | exact hd.2.1 | exact hd.2.2) (by first | exact hd | exact hd.1 | exact hd.2 | exact hd.2.1 | exact hd.2.2)).mono ?_; rintro en w5' ⟨rfl, hn5⟩)); (refine hK.out _ _ ?_ ?_ <;> first | (solve | (repeat (first | assumption | exact Nw.refl _ | refine Nw.alloc ?_ _ | refine Nw.drew ?_ | refine Nw.drewN2 ?_ _ | (refine Nw.trans ?_ (by assumption))))) | ((conv => lhs; whnf) <;> exact rfl) | exact rfl | exact congrArg (Value.int .u8) hq2 | exact congrArg (Value.int .u8) hq2' | exact hs5 | exact congrArg Value.bool hd0 | exact congrArg Value.bool (by simp))))
                      try simp only [Act.put, List.setIfInBounds_toArray, List.set_cons_zero, List.set_cons_succ, Nat.reduceAdd, List.length_nil, List.length_cons, List.nil_append, List.cons_append]
                    iterate 2
                      refine Stairs.is ?_ ?_ ?_
                      rotate_left 1
                      · intro x wR hR hd K hK
                        simp only [Act.put, List.setIfInBounds_toArray, List.set_cons_zero, List.set_cons_succ, Nat.reduceAdd, List.length_nil, List.length_cons, List.nil_append, List.cons_append, Say.ok] at hK ⊢
                        clear hd
                        change Hid _ at hK
                        obtain ⟨hcR, hfR, hzR⟩ := nwc hR
                        first | (refine wanted_yes ?_ ?_; rfl) | (refine wanted_no ?_ ?_; rfl)
                        first | (refine hK.out _ _ ?_ ?_ <;> first | (solve | (repeat (first | assumption | exact Nw.refl _ | refine Nw.alloc ?_ _ | refine Nw.drew ?_ | refine Nw.drewN2 ?_ _ | (refine Nw.trans ?_ (by assumption))))) | ((conv => lhs; whnf) <;> exact rfl) | exact rfl | exact congrArg (Value.int .u8) hq2 | exact congrArg (Value.int .u8) hq2' | exact hs5 | exact congrArg Value.bool hd0 | exact congrArg Value.bool (by simp)) | (go_step; first | (refine hK.out _ _ ?_ ?_ <;> first | (solve | (repeat (first | assumption | exact Nw.refl _ | refine Nw.alloc ?_ _ | refine Nw.drew ?_ | refine Nw.drewN2 ?_ _ | (refine Nw.trans ?_ (by assumption))))) | ((conv => lhs; whnf) <;> exact rfl) | exact rfl | exact congrArg (Value.int .u8) hq2 | exact congrArg (Value.int .u8) hq2' | exact hs5 | exact congrArg Value.bool hd0 | exact congrArg Value.bool (by simp)) | ((first | (go_at_call_of 27 (Value.slice p5 ys.length d5); refine (HTA.out _ (hn7.trans (by repeat (first | assumption | exact Nw.refl _ | refine Nw.alloc ?_ _ | refine Nw.drew ?_ | refine Nw.drewN2 ?_ _ | (refine Nw.trans ?_ (by assumption)))))).mono ?_; rintro en w5' ⟨v5, rfl, hs5, hf5, hn5⟩) | (go_at_call_of 27 (Value.slice p6 yv.length d6); refine (HTB.out _ (hn7.trans (by repeat (first | assumption | exact Nw.refl _ | refine Nw.alloc ?_ _ | refine Nw.drew ?_ | refine Nw.drewN2 ?_ _ | (refine Nw.trans ?_ (by assumption)))))).mono ?_; rintro en w5' ⟨v5, rfl, hs5, hf5, hn5⟩) | (go_at_call_of 27 (Value.slice p1 xs.length d1); refine (HTC.out _ (hn7.trans (by repeat (first | assumption | exact Nw.refl _ | refine Nw.alloc ?_ _ | refine Nw.drew ?_ | refine Nw.drewN2 ?_ _ | (refine Nw.trans ?_ (by assumption)))))).mono ?_; rintro en w5' ⟨v5, rfl, hs5, hf5, hn5⟩) | (go_at_call 27; refine (HTD.out _ (hn7.trans (by repeat (first | assumption | exact Nw.refl _ | refine Nw.alloc ?_ _ | refine Nw.drew ?_ | refine Nw.drewN2 ?_ _ | (refine Nw.trans ?_ (by assumption)))))).mono ?_; rintro en w5' ⟨v5, rfl, hs5, hf5, hn5⟩) | (go_at_call_of 26 (x 7); refine (HS1.out _ _ _ (by first | exact hd | exact hd.1 | exact hd.2 | exact hd.2.1 | exact hd.2.2) (by first | exact hd | exact hd.1 | exact hd.2 | exact hd.2.1 | exact hd.2.2)).mono ?_; rintro en w5' ⟨rfl, hn5⟩) | (go_at_call 26; refine (HS2.out _ _ _ (by first | exact hd | exact hd.1 | exact hd.2 | exact hd.2.1 | exact hd.2.2) (by first | exact hd | exact hd.1 | exact hd.2 | exact hd.2.1 | exact hd.2.2)).mono ?_; rintro en w5' ⟨rfl, hn5⟩)); (refine hK.out _ _ ?_ ?_ <;> first | (solve | (repeat (first | assumption | exact Nw.refl _ | refine Nw.alloc ?_ _ | refine Nw.drew ?_ | refine Nw.drewN2 ?_ _ | (refine Nw.trans ?_ (by assumption))))) | ((conv => lhs; whnf) <;> exact rfl) | exact rfl | exact congrArg (Value.int .u8) hq2 | exact congrArg (Value.int .u8) hq2' | exact hs5 | exact congrArg Value.bool hd0 | exact congrArg Value.bool (by simp))))
                      try simp only [Act.put, List.setIfInBounds_toArray, List.set_cons_zero, List.set_cons_succ, Nat.reduceAdd, List.length_nil, List.length_cons, List.nil_append, List.cons_append]
                    iterate 1
                      refine Stairs.that (TrS (trim xs)) (by first | assumption | simp) ?_ ?_
                      · intro x wR hR hd K hK
                        simp only [Act.put, List.setIfInBounds_toArray, List.set_cons_zero, List.set_cons_succ, Nat.reduceAdd, List.length_nil, List.length_cons, List.nil_append, List.cons_append, Say.ok] at hK ⊢
                        clear hd
                        change Hid _ at hK
                        obtain ⟨hcR, hfR, hzR⟩ := nwc hR
                        first | (refine wanted_yes ?_ ?_; rfl) | (refine wanted_no ?_ ?_; rfl)
                        first | (refine hK.out _ _ ?_ ?_ <;> first | (solve | (repeat (first | assumption | exact Nw.refl _ | refine Nw.alloc ?_ _ | refine Nw.drew ?_ | refine Nw.drewN2 ?_ _ | (refine Nw.trans ?_ (by assumption))))) | ((conv => lhs; whnf) <;> exact rfl) | exact rfl | exact congrArg (Value.int .u8) hq2 | exact congrArg (Value.int .u8) hq2' | exact hs5 | exact congrArg Value.bool hd0 | exact congrArg Value.bool (by simp)) | (go_step; first | (refine hK.out _ _ ?_ ?_ <;> first | (solve | (repeat (first | assumption | exact Nw.refl _ | refine Nw.alloc ?_ _ | refine Nw.drew ?_ | refine Nw.drewN2 ?_ _ | (refine Nw.trans ?_ (by assumption))))) | ((conv => lhs; whnf) <;> exact rfl) | exact rfl | exact congrArg (Value.int .u8) hq2 | exact congrArg (Value.int .u8) hq2' | exact hs5 | exact congrArg Value.bool hd0 | exact congrArg Value.bool (by simp)) | ((first | (go_at_call_of 27 (Value.slice p5 ys.length d5); refine (HTA.out _ (hn7.trans (by repeat (first | assumption | exact Nw.refl _ | refine Nw.alloc ?_ _ | refine Nw.drew ?_ | refine Nw.drewN2 ?_ _ | (refine Nw.trans ?_ (by assumption)))))).mono ?_; rintro en w5' ⟨v5, rfl, hs5, hf5, hn5⟩) | (go_at_call_of 27 (Value.slice p6 yv.length d6); refine (HTB.out _ (hn7.trans (by repeat (first | assumption | exact Nw.refl _ | refine Nw.alloc ?_ _ | refine Nw.drew ?_ | refine Nw.drewN2 ?_ _ | (refine Nw.trans ?_ (by assumption)))))).mono ?_; rintro en w5' ⟨v5, rfl, hs5, hf5, hn5⟩) | (go_at_call_of 27 (Value.slice p1 xs.length d1); refine (HTC.out _ (hn7.trans (by repeat (first | assumption | exact Nw.refl _ | refine Nw.alloc ?_ _ | refine Nw.drew ?_ | refine Nw.drewN2 ?_ _ | (refine Nw.trans ?_ (by assumption)))))).mono ?_; rintro en w5' ⟨v5, rfl, hs5, hf5, hn5⟩) | (go_at_call 27; refine (HTD.out _ (hn7.trans (by repeat (first | assumption | exact Nw.refl _ | refine Nw.alloc ?_ _ | refine Nw.drew ?_ | refine Nw.drewN2 ?_ _ | (refine Nw.trans ?_ (by assumption)))))).mono ?_; rintro en w5' ⟨v5, rfl, hs5, hf5, hn5⟩) | (go_at_call_of 26 (x 7); refine (HS1.out _ _ _ (by first | exact hd | exact hd.1 | exact hd.2 | exact hd.2.1 | exact hd.2.2) (by first | exact hd | exact hd.1 | exact hd.2 | exact hd.2.1 | exact hd.2.2)).mono ?_; rintro en w5' ⟨rfl, hn5⟩) | (go_at_call 26; refine (HS2.out _ _ _ (by first | exact hd | exact hd.1 | exact hd.2 | exact hd.2.1 | exact hd.2.2) (by first | exact hd | exact hd.1 | exact hd.2 | exact hd.2.1 | exact hd.2.2)).mono ?_; rintro en w5' ⟨rfl, hn5⟩)); (refine hK.out _ _ ?_ ?_ <;> first | (solve | (repeat (first | assumption | exact Nw.refl _ | refine Nw.alloc ?_ _ | refine Nw.drew ?_ | refine Nw.drewN2 ?_ _ | (refine Nw.trans ?_ (by assumption))))) | ((conv => lhs; whnf) <;> exact rfl) | exact rfl | exact congrArg (Value.int .u8) hq2 | exact congrArg (Value.int .u8) hq2' | exact hs5 | exact congrArg Value.bool hd0 | exact congrArg Value.bool (by simp))))
                      try simp only [Act.put, List.setIfInBounds_toArray, List.set_cons_zero, List.set_cons_succ, Nat.reduceAdd, List.length_nil, List.length_cons, List.nil_append, List.cons_append]
                    iterate 1
                      refine Stairs.is ?_ ?_ ?_
                      rotate_left 1
                      · intro x wR hR hd K hK
                        simp only [Act.put, List.setIfInBounds_toArray, List.set_cons_zero, List.set_cons_succ, Nat.reduceAdd, List.length_nil, List.length_cons, List.nil_append, List.cons_append, Say.ok] at hK ⊢
                        try simp [Region.binds, sayAt, List.getD_cons_zero, List.getD_cons_succ, Say.ok, Vl] at hd
                        change Hid _ at hK
                        obtain ⟨hcR, hfR, hzR⟩ := nwc hR
                        first | (refine wanted_yes ?_ ?_; rfl) | (refine wanted_no ?_ ?_; rfl)
                        first | (refine hK.out _ _ ?_ ?_ <;> first | (solve | (repeat (first | assumption | exact Nw.refl _ | refine Nw.alloc ?_ _ | refine Nw.drew ?_ | refine Nw.drewN2 ?_ _ | (refine Nw.trans ?_ (by assumption))))) | ((conv => lhs; whnf) <;> exact rfl) | exact rfl | exact congrArg (Value.int .u8) hq2 | exact congrArg (Value.int .u8) hq2' | exact hs5 | exact congrArg Value.bool hd0 | exact congrArg Value.bool (by simp)) | (go_step; first | (refine hK.out _ _ ?_ ?_ <;> first | (solve | (repeat (first | assumption | exact Nw.refl _ | refine Nw.alloc ?_ _ | refine Nw.drew ?_ | refine Nw.drewN2 ?_ _ | (refine Nw.trans ?_ (by assumption))))) | ((conv => lhs; whnf) <;> exact rfl) | exact rfl | exact congrArg (Value.int .u8) hq2 | exact congrArg (Value.int .u8) hq2' | exact hs5 | exact congrArg Value.bool hd0 | exact congrArg Value.bool (by simp)) | ((first | (go_at_call_of 27 (Value.slice p5 ys.length d5); refine (HTA.out _ (hn7.trans (by repeat (first | assumption | exact Nw.refl _ | refine Nw.alloc ?_ _ | refine Nw.drew ?_ | refine Nw.drewN2 ?_ _ | (refine Nw.trans ?_ (by assumption)))))).mono ?_; rintro en w5' ⟨v5, rfl, hs5, hf5, hn5⟩) | (go_at_call_of 27 (Value.slice p6 yv.length d6); refine (HTB.out _ (hn7.trans (by repeat (first | assumption | exact Nw.refl _ | refine Nw.alloc ?_ _ | refine Nw.drew ?_ | refine Nw.drewN2 ?_ _ | (refine Nw.trans ?_ (by assumption)))))).mono ?_; rintro en w5' ⟨v5, rfl, hs5, hf5, hn5⟩) | (go_at_call_of 27 (Value.slice p1 xs.length d1); refine (HTC.out _ (hn7.trans (by repeat (first | assumption | exact Nw.refl _ | refine Nw.alloc ?_ _ | refine Nw.drew ?_ | refine Nw.drewN2 ?_ _ | (refine Nw.trans ?_ (by assumption)))))).mono ?_; rintro en w5' ⟨v5, rfl, hs5, hf5, hn5⟩) | (go_at_call 27; refine (HTD.out _ (hn7.trans (by repeat (first | assumption | exact Nw.refl _ | refine Nw.alloc ?_ _ | refine Nw.drew ?_ | refine Nw.drewN2 ?_ _ | (refine Nw.trans ?_ (by assumption)))))).mono ?_; rintro en w5' ⟨v5, rfl, hs5, hf5, hn5⟩) | (go_at_call_of 26 (x 7); refine (HS1.out _ _ _ (by first | exact hd | exact hd.1 | exact hd.2 | exact hd.2.1 | exact hd.2.2) (by first | exact hd | exact hd.1 | exact hd.2 | exact hd.2.1 | exact hd.2.2)).mono ?_; rintro en w5' ⟨rfl, hn5⟩) | (go_at_call 26; refine (HS2.out _ _ _ (by first | exact hd | exact hd.1 | exact hd.2 | exact hd.2.1 | exact hd.2.2) (by first | exact hd | exact hd.1 | exact hd.2 | exact hd.2.1 | exact hd.2.2)).mono ?_; rintro en w5' ⟨rfl, hn5⟩)); (refine hK.out _ _ ?_ ?_ <;> first | (solve | (repeat (first | assumption | exact Nw.refl _ | refine Nw.alloc ?_ _ | refine Nw.drew ?_ | refine Nw.drewN2 ?_ _ | (refine Nw.trans ?_ (by assumption))))) | ((conv => lhs; whnf) <;> exact rfl) | exact rfl | exact congrArg (Value.int .u8) hq2 | exact congrArg (Value.int .u8) hq2' | exact hs5 | exact congrArg Value.bool hd0 | exact congrArg Value.bool (by simp))))
                      try simp only [Act.put, List.setIfInBounds_toArray, List.set_cons_zero, List.set_cons_succ, Nat.reduceAdd, List.length_nil, List.length_cons, List.nil_append, List.cons_append]
                    iterate 4
                      refine Stairs.is ?_ ?_ ?_
                      rotate_left 1
                      · intro x wR hR hd K hK
                        simp only [Act.put, List.setIfInBounds_toArray, List.set_cons_zero, List.set_cons_succ, Nat.reduceAdd, List.length_nil, List.length_cons, List.nil_append, List.cons_append, Say.ok] at hK ⊢
                        clear hd
                        change Hid _ at hK
                        obtain ⟨hcR, hfR, hzR⟩ := nwc hR
                        first | (refine wanted_yes ?_ ?_; rfl) | (refine wanted_no ?_ ?_; rfl)
                        first | (refine hK.out _ _ ?_ ?_ <;> first | (solve | (repeat (first | assumption | exact Nw.refl _ | refine Nw.alloc ?_ _ | refine Nw.drew ?_ | refine Nw.drewN2 ?_ _ | (refine Nw.trans ?_ (by assumption))))) | ((conv => lhs; whnf) <;> exact rfl) | exact rfl | exact congrArg (Value.int .u8) hq2 | exact congrArg (Value.int .u8) hq2' | exact hs5 | exact congrArg Value.bool hd0 | exact congrArg Value.bool (by simp)) | (go_step; first | (refine hK.out _ _ ?_ ?_ <;> first | (solve | (repeat (first | assumption | exact Nw.refl _ | refine Nw.alloc ?_ _ | refine Nw.drew ?_ | refine Nw.drewN2 ?_ _ | (refine Nw.trans ?_ (by assumption))))) | ((conv => lhs; whnf) <;> exact rfl) | exact rfl | exact congrArg (Value.int .u8) hq2 | exact congrArg (Value.int .u8) hq2' | exact hs5 | exact congrArg Value.bool hd0 | exact congrArg Value.bool (by simp)) | ((first | (go_at_call_of 27 (Value.slice p5 ys.length d5); refine (HTA.out _ (hn7.trans (by repeat (first | assumption | exact Nw.refl _ | refine Nw.alloc ?_ _ | refine Nw.drew ?_ | refine Nw.drewN2 ?_ _ | (refine Nw.trans ?_ (by assumption)))))).mono ?_; rintro en w5' ⟨v5, rfl, hs5, hf5, hn5⟩) | (go_at_call_of 27 (Value.slice p6 yv.length d6); refine (HTB.out _ (hn7.trans (by repeat (first | assumption | exact Nw.refl _ | refine Nw.alloc ?_ _ | refine Nw.drew ?_ | refine Nw.drewN2 ?_ _ | (refine Nw.trans ?_ (by assumption)))))).mono ?_; rintro en w5' ⟨v5, rfl, hs5, hf5, hn5⟩) | (go_at_call_of 27 (Value.slice p1 xs.length d1); refine (HTC.out _ (hn7.trans (by repeat (first | assumption | exact Nw.refl _ | refine Nw.alloc ?_ _ | refine Nw.drew ?_ | refine Nw.drewN2 ?_ _ | (refine Nw.trans ?_ (by assumption)))))).mono ?_; rintro en w5' ⟨v5, rfl, hs5, hf5, hn5⟩) | (go_at_call 27; refine (HTD.out _ (hn7.trans (by repeat (first | assumption | exact Nw.refl _ | refine Nw.alloc ?_ _ | refine Nw.drew ?_ | refine Nw.drewN2 ?_ _ | (refine Nw.trans ?_ (by assumption)))))).mono ?_; rintro en w5' ⟨v5, rfl, hs5, hf5, hn5⟩) | (go_at_call_of 26 (x 7); refine (HS1.out _ _ _ (by first | exact hd | exact hd.1 | exact hd.2 | exact hd.2.1 | exact hd.2.2) (by first | exact hd | exact hd.1 | exact hd.2 | exact hd.2.1 | exact hd.2.2)).mono ?_; rintro en w5' ⟨rfl, hn5⟩) | (go_at_call 26; refine (HS2.out _ _ _ (by first | exact hd | exact hd.1 | exact hd.2 | exact hd.2.1 | exact hd.2.2) (by first | exact hd | exact hd.1 | exact hd.2 | exact hd.2.1 | exact hd.2.2)).mono ?_; rintro en w5' ⟨rfl, hn5⟩)); (refine hK.out _ _ ?_ ?_ <;> first | (solve | (repeat (first | assumption | exact Nw.refl _ | refine Nw.alloc ?_ _ | refine Nw.drew ?_ | refine Nw.drewN2 ?_ _ | (refine Nw.trans ?_ (by assumption))))) | ((conv => lhs; whnf) <;> exact rfl) | exact rfl | exact congrArg (Value.int .u8) hq2 | exact congrArg (Value.int .u8) hq2' | exact hs5 | exact congrArg Value.bool hd0 | exact congrArg Value.bool (by simp))))
                      try simp only [Act.put, List.setIfInBounds_toArray, List.set_cons_zero, List.set_cons_succ, Nat.reduceAdd, List.length_nil, List.length_cons, List.nil_append, List.cons_append]
                    iterate 1
                      refine Stairs.that (TrS (trim yv)) (by first | assumption | simp) ?_ ?_
                      · intro x wR hR hd K hK
                        simp only [Act.put, List.setIfInBounds_toArray, List.set_cons_zero, List.set_cons_succ, Nat.reduceAdd, List.length_nil, List.length_cons, List.nil_append, List.cons_append, Say.ok] at hK ⊢
                        clear hd
                        change Hid _ at hK
                        obtain ⟨hcR, hfR, hzR⟩ := nwc hR
                        first | (refine wanted_yes ?_ ?_; rfl) | (refine wanted_no ?_ ?_; rfl)
                        first | (refine hK.out _ _ ?_ ?_ <;> first | (solve | (repeat (first | assumption | exact Nw.refl _ | refine Nw.alloc ?_ _ | refine Nw.drew ?_ | refine Nw.drewN2 ?_ _ | (refine Nw.trans ?_ (by assumption))))) | ((conv => lhs; whnf) <;> exact rfl) | exact rfl | exact congrArg (Value.int .u8) hq2 | exact congrArg (Value.int .u8) hq2' | exact hs5 | exact congrArg Value.bool hd0 | exact congrArg Value.bool (by simp)) | (go_step; first | (refine hK.out _ _ ?_ ?_ <;> first | (solve | (repeat (first | assumption | exact Nw.refl _ | refine Nw.alloc ?_ _ | refine Nw.drew ?_ | refine Nw.drewN2 ?_ _ | (refine Nw.trans ?_ (by assumption))))) | ((conv => lhs; whnf) <;> exact rfl) | exact rfl | exact congrArg (Value.int .u8) hq2 | exact congrArg (Value.int .u8) hq2' | exact hs5 | exact congrArg Value.bool hd0 | exact congrArg Value.bool (by simp)) | ((first | (go_at_call_of 27 (Value.slice p5 ys.length d5); refine (HTA.out _ (hn7.trans (by repeat (first | assumption | exact Nw.refl _ | refine Nw.alloc ?_ _ | refine Nw.drew ?_ | refine Nw.drewN2 ?_ _ | (refine Nw.trans ?_ (by assumption)))))).mono ?_; rintro en w5' ⟨v5, rfl, hs5, hf5, hn5⟩) | (go_at_call_of 27 (Value.slice p6 yv.length d6); refine (HTB.out _ (hn7.trans (by repeat (first | assumption | exact Nw.refl _ | refine Nw.alloc ?_ _ | refine Nw.drew ?_ | refine Nw.drewN2 ?_ _ | (refine Nw.trans ?_ (by assumption)))))).mono ?_; rintro en w5' ⟨v5, rfl, hs5, hf5, hn5⟩) | (go_at_call_of 27 (Value.slice p1 xs.length d1); refine (HTC.out _ (hn7.trans (by repeat (first | assumption | exact Nw.refl _ | refine Nw.alloc ?_ _ | refine Nw.drew ?_ | refine Nw.drewN2 ?_ _ | (refine Nw.trans ?_ (by assumption)))))).mono ?_; rintro en w5' ⟨v5, rfl, hs5, hf5, hn5⟩) | (go_at_call 27; refine (HTD.out _ (hn7.trans (by repeat (first | assumption | exact Nw.refl _ | refine Nw.alloc ?_ _ | refine Nw.drew ?_ | refine Nw.drewN2 ?_ _ | (refine Nw.trans ?_ (by assumption)))))).mono ?_; rintro en w5' ⟨v5, rfl, hs5, hf5, hn5⟩) | (go_at_call_of 26 (x 7); refine (HS1.out _ _ _ (by first | exact hd | exact hd.1 | exact hd.2 | exact hd.2.1 | exact hd.2.2) (by first | exact hd | exact hd.1 | exact hd.2 | exact hd.2.1 | exact hd.2.2)).mono ?_; rintro en w5' ⟨rfl, hn5⟩) | (go_at_call 26; refine (HS2.out _ _ _ (by first | exact hd | exact hd.1 | exact hd.2 | exact hd.2.1 | exact hd.2.2) (by first | exact hd | exact hd.1 | exact hd.2 | exact hd.2.1 | exact hd.2.2)).mono ?_; rintro en w5' ⟨rfl, hn5⟩)); (refine hK.out _ _ ?_ ?_ <;> first | (solve | (repeat (first | assumption | exact Nw.refl _ | refine Nw.alloc ?_ _ | refine Nw.drew ?_ | refine Nw.drewN2 ?_ _ | (refine Nw.trans ?_ (by assumption))))) | ((conv => lhs; whnf) <;> exact rfl) | exact rfl | exact congrArg (Value.int .u8) hq2 | exact congrArg (Value.int .u8) hq2' | exact hs5 | exact congrArg Value.bool hd0 | exact congrArg Value.bool (by simp))))
                      try simp only [Act.put, List.setIfInBounds_toArray, List.set_cons_zero, List.set_cons_succ, Nat.reduceAdd, List.length_nil, List.length_cons, List.nil_append, List.cons_append]
                    iterate 2
                      refine Stairs.is ?_ ?_ ?_
                      rotate_left 1
                      · intro x wR hR hd K hK
                        simp only [Act.put, List.setIfInBounds_toArray, List.set_cons_zero, List.set_cons_succ, Nat.reduceAdd, List.length_nil, List.length_cons, List.nil_append, List.cons_append, Say.ok] at hK ⊢
                        clear hd
                        change Hid _ at hK
                        obtain ⟨hcR, hfR, hzR⟩ := nwc hR
                        first | (refine wanted_yes ?_ ?_; rfl) | (refine wanted_no ?_ ?_; rfl)
                        first | (refine hK.out _ _ ?_ ?_ <;> first | (solve | (repeat (first | assumption | exact Nw.refl _ | refine Nw.alloc ?_ _ | refine Nw.drew ?_ | refine Nw.drewN2 ?_ _ | (refine Nw.trans ?_ (by assumption))))) | ((conv => lhs; whnf) <;> exact rfl) | exact rfl | exact congrArg (Value.int .u8) hq2 | exact congrArg (Value.int .u8) hq2' | exact hs5 | exact congrArg Value.bool hd0 | exact congrArg Value.bool (by simp)) | (go_step; first | (refine hK.out _ _ ?_ ?_ <;> first | (solve | (repeat (first | assumption | exact Nw.refl _ | refine Nw.alloc ?_ _ | refine Nw.drew ?_ | refine Nw.drewN2 ?_ _ | (refine Nw.trans ?_ (by assumption))))) | ((conv => lhs; whnf) <;> exact rfl) | exact rfl | exact congrArg (Value.int .u8) hq2 | exact congrArg (Value.int .u8) hq2' | exact hs5 | exact congrArg Value.bool hd0 | exact congrArg Value.bool (by simp)) | ((first | (go_at_call_of 27 (Value.slice p5 ys.length d5); refine (HTA.out _ (hn7.trans (by repeat (first | assumption | exact Nw.refl _ | refine Nw.alloc ?_ _ | refine Nw.drew ?_ | refine Nw.drewN2 ?_ _ | (refine Nw.trans ?_ (by assumption)))))).mono ?_; rintro en w5' ⟨v5, rfl, hs5, hf5, hn5⟩) | (go_at_call_of 27 (Value.slice p6 yv.length d6); refine (HTB.out _ (hn7.trans (by repeat (first | assumption | exact Nw.refl _ | refine Nw.alloc ?_ _ | refine Nw.drew ?_ | refine Nw.drewN2 ?_ _ | (refine Nw.trans ?_ (by assumption)))))).mono ?_; rintro en w5' ⟨v5, rfl, hs5, hf5, hn5⟩) | (go_at_call_of 27 (Value.slice p1 xs.length d1); refine (HTC.out _ (hn7.trans (by repeat (first | assumption | exact Nw.refl _ | refine Nw.alloc ?_ _ | refine Nw.drew ?_ | refine Nw.drewN2 ?_ _ | (refine Nw.trans ?_ (by assumption)))))).mono ?_; rintro en w5' ⟨v5, rfl, hs5, hf5, hn5⟩) | (go_at_call 27; refine (HTD.out _ (hn7.trans (by repeat (first | assumption | exact Nw.refl _ | refine Nw.alloc ?_ _ | refine Nw.drew ?_ | refine Nw.drewN2 ?_ _ | (refine Nw.trans ?_ (by assumption)))))).mono ?_; rintro en w5' ⟨v5, rfl, hs5, hf5, hn5⟩) | (go_at_call_of 26 (x 7); refine (HS1.out _ _ _ (by first | exact hd | exact hd.1 | exact hd.2 | exact hd.2.1 | exact hd.2.2) (by first | exact hd | exact hd.1 | exact hd.2 | exact hd.2.1 | exact hd.2.2)).mono ?_; rintro en w5' ⟨rfl, hn5⟩) | (go_at_call 26; refine (HS2.out _ _ _ (by first | exact hd | exact hd.1 | exact hd.2 | exact hd.2.1 | exact hd.2.2) (by first | exact hd | exact hd.1 | exact hd.2 | exact hd.2.1 | exact hd.2.2)).mono ?_; rintro en w5' ⟨rfl, hn5⟩)); (refine hK.out _ _ ?_ ?_ <;> first | (solve | (repeat (first | assumption | exact Nw.refl _ | refine Nw.alloc ?_ _ | refine Nw.drew ?_ | refine Nw.drewN2 ?_ _ | (refine Nw.trans ?_ (by assumption))))) | ((conv => lhs; whnf) <;> exact rfl) | exact rfl | exact congrArg (Value.int .u8) hq2 | exact congrArg (Value.int .u8) hq2' | exact hs5 | exact congrArg Value.bool hd0 | exact congrArg Value.bool (by simp))))
                      try simp only [Act.put, List.setIfInBounds_toArray, List.set_cons_zero, List.set_cons_succ, Nat.reduceAdd, List.length_nil, List.length_cons, List.nil_append, List.cons_append]
                    iterate 1
                      refine Stairs.that (TrS (trim xv)) (by first | assumption | simp) ?_ ?_
                      · intro x wR hR hd K hK
                        simp only [Act.put, List.setIfInBounds_toArray, List.set_cons_zero, List.set_cons_succ, Nat.reduceAdd, List.length_nil, List.length_cons, List.nil_append, List.cons_append, Say.ok] at hK ⊢
                        clear hd
                        change Hid _ at hK
                        obtain ⟨hcR, hfR, hzR⟩ := nwc hR
                        first | (refine wanted_yes ?_ ?_; rfl) | (refine wanted_no ?_ ?_; rfl)
                        first | (refine hK.out _ _ ?_ ?_ <;> first | (solve | (repeat (first | assumption | exact Nw.refl _ | refine Nw.alloc ?_ _ | refine Nw.drew ?_ | refine Nw.drewN2 ?_ _ | (refine Nw.trans ?_ (by assumption))))) | ((conv => lhs; whnf) <;> exact rfl) | exact rfl | exact congrArg (Value.int .u8) hq2 | exact congrArg (Value.int .u8) hq2' | exact hs5 | exact congrArg Value.bool hd0 | exact congrArg Value.bool (by simp)) | (go_step; first | (refine hK.out _ _ ?_ ?_ <;> first | (solve | (repeat (first | assumption | exact Nw.refl _ | refine Nw.alloc ?_ _ | refine Nw.drew ?_ | refine Nw.drewN2 ?_ _ | (refine Nw.trans ?_ (by assumption))))) | ((conv => lhs; whnf) <;> exact rfl) | exact rfl | exact congrArg (Value.int .u8) hq2 | exact congrArg (Value.int .u8) hq2' | exact hs5 | exact congrArg Value.bool hd0 | exact congrArg Value.bool (by simp)) | ((first | (go_at_call_of 27 (Value.slice p5 ys.length d5); refine (HTA.out _ (hn7.trans (by repeat (first | assumption | exact Nw.refl _ | refine Nw.alloc ?_ _ | refine Nw.drew ?_ | refine Nw.drewN2 ?_ _ | (refine Nw.trans ?_ (by assumption)))))).mono ?_; rintro en w5' ⟨v5, rfl, hs5, hf5, hn5⟩) | (go_at_call_of 27 (Value.slice p6 yv.length d6); refine (HTB.out _ (hn7.trans (by repeat (first | assumption | exact Nw.refl _ | refine Nw.alloc ?_ _ | refine Nw.drew ?_ | refine Nw.drewN2 ?_ _ | (refine Nw.trans ?_ (by assumption)))))).mono ?_; rintro en w5' ⟨v5, rfl, hs5, hf5, hn5⟩) | (go_at_call_of 27 (Value.slice p1 xs.length d1); refine (HTC.out _ (hn7.trans (by repeat (first | assumption | exact Nw.refl _ | refine Nw.alloc ?_ _ | refine Nw.drew ?_ | refine Nw.drewN2 ?_ _ | (refine Nw.trans ?_ (by assumption)))))).mono ?_; rintro en w5' ⟨v5, rfl, hs5, hf5, hn5⟩) | (go_at_call 27; refine (HTD.out _ (hn7.trans (by repeat (first | assumption | exact Nw.refl _ | refine Nw.alloc ?_ _ | refine Nw.drew ?_ | refine Nw.drewN2 ?_ _ | (refine Nw.trans ?_ (by assumption)))))).mono ?_; rintro en w5' ⟨v5, rfl, hs5, hf5, hn5⟩) | (go_at_call_of 26 (x 7); refine (HS1.out _ _ _ (by first | exact hd | exact hd.1 | exact hd.2 | exact hd.2.1 | exact hd.2.2) (by first | exact hd | exact hd.1 | exact hd.2 | exact hd.2.1 | exact hd.2.2)).mono ?_; rintro en w5' ⟨rfl, hn5⟩) | (go_at_call 26; refine (HS2.out _ _ _ (by first | exact hd | exact hd.1 | exact hd.2 | exact hd.2.1 | exact hd.2.2) (by first | exact hd | exact hd.1 | exact hd.2 | exact hd.2.1 | exact hd.2.2)).mono ?_; rintro en w5' ⟨rfl, hn5⟩)); (refine hK.out _ _ ?_ ?_ <;> first | (solve | (repeat (first | assumption | exact Nw.refl _ | refine Nw.alloc ?_ _ | refine Nw.drew ?_ | refine Nw.drewN2 ?_ _ | (refine Nw.trans ?_ (by assumption))))) | ((conv => lhs; whnf) <;> exact rfl) | exact rfl | exact congrArg (Value.int .u8) hq2 | exact congrArg (Value.int .u8) hq2' | exact hs5 | exact congrArg Value.bool hd0 | exact congrArg Value.bool (by simp))))
                      try simp only [Act.put, List.setIfInBounds_toArray, List.set_cons_zero, List.set_cons_succ, Nat.reduceAdd, List.length_nil, List.length_cons, List.nil_append, List.cons_append]
                    iterate 1
                      refine Stairs.is ?_ ?_ ?_
                      rotate_left 1
                      · intro x wR hR hd K hK
                        simp only [Act.put, List.setIfInBounds_toArray, List.set_cons_zero, List.set_cons_succ, Nat.reduceAdd, List.length_nil, List.length_cons, List.nil_append, List.cons_append, Say.ok] at hK ⊢
                        try simp [Region.binds, sayAt, List.getD_cons_zero, List.getD_cons_succ, Say.ok, Vl] at hd
                        change Hid _ at hK
                        obtain ⟨hcR, hfR, hzR⟩ := nwc hR
                        first | (refine wanted_yes ?_ ?_; rfl) | (refine wanted_no ?_ ?_; rfl)
                        first | (refine hK.out _ _ ?_ ?_ <;> first | (solve | (repeat (first | assumption | exact Nw.refl _ | refine Nw.alloc ?_ _ | refine Nw.drew ?_ | refine Nw.drewN2 ?_ _ | (refine Nw.trans ?_ (by assumption))))) | ((conv => lhs; whnf) <;> exact rfl) | exact rfl | exact congrArg (Value.int .u8) hq2 | exact congrArg (Value.int .u8) hq2' | exact hs5 | exact congrArg Value.bool hd0 | exact congrArg Value.bool (by simp)) | (go_step; first | (refine hK.out _ _ ?_ ?_ <;> first | (solve | (repeat (first | assumption | exact Nw.refl _ | refine Nw.alloc ?_ _ | refine Nw.drew ?_ | refine Nw.drewN2 ?_ _ | (refine Nw.trans ?_ (by assumption))))) | ((conv => lhs; whnf) <;> exact rfl) | exact rfl | exact congrArg (Value.int .u8) hq2 | exact congrArg (Value.int .u8) hq2' | exact hs5 | exact congrArg Value.bool hd0 | exact congrArg Value.bool (by simp)) | ((first | (go_at_call_of 27 (Value.slice p5 ys.length d5); refine (HTA.out _ (hn7.trans (by repeat (first | assumption | exact Nw.refl _ | refine Nw.alloc ?_ _ | refine Nw.drew ?_ | refine Nw.drewN2 ?_ _ | (refine Nw.trans ?_ (by assumption)))))).mono ?_; rintro en w5' ⟨v5, rfl, hs5, hf5, hn5⟩) | (go_at_call_of 27 (Value.slice p6 yv.length d6); refine (HTB.out _ (hn7.trans (by repeat (first | assumption | exact Nw.refl _ | refine Nw.alloc ?_ _ | refine Nw.drew ?_ | refine Nw.drewN2 ?_ _ | (refine Nw.trans ?_ (by assumption)))))).mono ?_; rintro en w5' ⟨v5, rfl, hs5, hf5, hn5⟩) | (go_at_call_of 27 (Value.slice p1 xs.length d1); refine (HTC.out _ (hn7.trans (by repeat (first | assumption | exact Nw.refl _ | refine Nw.alloc ?_ _ | refine Nw.drew ?_ | refine Nw.drewN2 ?_ _ | (refine Nw.trans ?_ (by assumption)))))).mono ?_; rintro en w5' ⟨v5, rfl, hs5, hf5, hn5⟩) | (go_at_call 27; refine (HTD.out _ (hn7.trans (by repeat (first | assumption | exact Nw.refl _ | refine Nw.alloc ?_ _ | refine Nw.drew ?_ | refine Nw.drewN2 ?_ _ | (refine Nw.trans ?_ (by assumption)))))).mono ?_; rintro en w5' ⟨v5, rfl, hs5, hf5, hn5⟩) | (go_at_call_of 26 (x 7); refine (HS1.out _ _ _ (by first | exact hd | exact hd.1 | exact hd.2 | exact hd.2.1 | exact hd.2.2) (by first | exact hd | exact hd.1 | exact hd.2 | exact hd.2.1 | exact hd.2.2)).mono ?_; rintro en w5' ⟨rfl, hn5⟩) | (go_at_call 26; refine (HS2.out _ _ _ (by first | exact hd | exact hd.1 | exact hd.2 | exact hd.2.1 | exact hd.2.2) (by first | exact hd | exact hd.1 | exact hd.2 | exact hd.2.1 | exact hd.2.2)).mono ?_; rintro en w5' ⟨rfl, hn5⟩)); (refine hK.out _ _ ?_ ?_ <;> first | (solve | (repeat (first | assumption | exact Nw.refl _ | refine Nw.alloc ?_ _ | refine Nw.drew ?_ | refine Nw.drewN2 ?_ _ | (refine Nw.trans ?_ (by assumption))))) | ((conv => lhs; whnf) <;> exact rfl) | exact rfl | exact congrArg (Value.int .u8) hq2 | exact congrArg (Value.int .u8) hq2' | exact hs5 | exact congrArg Value.bool hd0 | exact congrArg Value.bool (by simp))))
                      try simp only [Act.put, List.setIfInBounds_toArray, List.set_cons_zero, List.set_cons_succ, Nat.reduceAdd, List.length_nil, List.length_cons, List.nil_append, List.cons_append]
                    iterate 1
                      refine Stairs.is ?_ ?_ ?_
                      rotate_left 1
                      · intro x wR hR hd K hK
                        simp only [Act.put, List.setIfInBounds_toArray, List.set_cons_zero, List.set_cons_succ, Nat.reduceAdd, List.length_nil, List.length_cons, List.nil_append, List.cons_append, Say.ok] at hK ⊢
                        clear hd
                        change Hid _ at hK
                        obtain ⟨hcR, hfR, hzR⟩ := nwc hR
                        first | (refine wanted_yes ?_ ?_; rfl) | (refine wanted_no ?_ ?_; rfl)
                        first | (refine hK.out _ _ ?_ ?_ <;> first | (solve | (repeat (first | assumption | exact Nw.refl _ | refine Nw.alloc ?_ _ | refine Nw.drew ?_ | refine Nw.drewN2 ?_ _ | (refine Nw.trans ?_ (by assumption))))) | ((conv => lhs; whnf) <;> exact rfl) | exact rfl | exact congrArg (Value.int .u8) hq2 | exact congrArg (Value.int .u8) hq2' | exact hs5 | exact congrArg Value.bool hd0 | exact congrArg Value.bool (by simp)) | (go_step; first | (refine hK.out _ _ ?_ ?_ <;> first | (solve | (repeat (first | assumption | exact Nw.refl _ | refine Nw.alloc ?_ _ | refine Nw.drew ?_ | refine Nw.drewN2 ?_ _ | (refine Nw.trans ?_ (by assumption))))) | ((conv => lhs; whnf) <;> exact rfl) | exact rfl | exact congrArg (Value.int .u8) hq2 | exact congrArg (Value.int .u8) hq2' | exact hs5 | exact congrArg Value.bool hd0 | exact congrArg Value.bool (by simp)) | ((first | (go_at_call_of 27 (Value.slice p5 ys.length d5); refine (HTA.out _ (hn7.trans (by repeat (first | assumption | exact Nw.refl _ | refine Nw.alloc ?_ _ | refine Nw.drew ?_ | refine Nw.drewN2 ?_ _ | (refine Nw.trans ?_ (by assumption)))))).mono ?_; rintro en w5' ⟨v5, rfl, hs5, hf5, hn5⟩) | (go_at_call_of 27 (Value.slice p6 yv.length d6); refine (HTB.out _ (hn7.trans (by repeat (first | assumption | exact Nw.refl _ | refine Nw.alloc ?_ _ | refine Nw.drew ?_ | refine Nw.drewN2 ?_ _ | (refine Nw.trans ?_ (by assumption)))))).mono ?_; rintro en w5' ⟨v5, rfl, hs5, hf5, hn5⟩) | (go_at_call_of 27 (Value.slice p1 xs.length d1); refine (HTC.out _ (hn7.trans (by repeat (first | assumption | exact Nw.refl _ | refine Nw.alloc ?_ _ | refine Nw.drew ?_ | refine Nw.drewN2 ?_ _ | (refine Nw.trans ?_ (by assumption)))))).mono ?_; rintro en w5' ⟨v5, rfl, hs5, hf5, hn5⟩) | (go_at_call 27; refine (HTD.out _ (hn7.trans (by repeat (first | assumption | exact Nw.refl _ | refine Nw.alloc ?_ _ | refine Nw.drew ?_ | refine Nw.drewN2 ?_ _ | (refine Nw.trans ?_ (by assumption)))))).mono ?_; rintro en w5' ⟨v5, rfl, hs5, hf5, hn5⟩) | (go_at_call_of 26 (x 7); refine (HS1.out _ _ _ (by first | exact hd | exact hd.1 | exact hd.2 | exact hd.2.1 | exact hd.2.2) (by first | exact hd | exact hd.1 | exact hd.2 | exact hd.2.1 | exact hd.2.2)).mono ?_; rintro en w5' ⟨rfl, hn5⟩) | (go_at_call 26; refine (HS2.out _ _ _ (by first | exact hd | exact hd.1 | exact hd.2 | exact hd.2.1 | exact hd.2.2) (by first | exact hd | exact hd.1 | exact hd.2 | exact hd.2.1 | exact hd.2.2)).mono ?_; rintro en w5' ⟨rfl, hn5⟩)); (refine hK.out _ _ ?_ ?_ <;> first | (solve | (repeat (first | assumption | exact Nw.refl _ | refine Nw.alloc ?_ _ | refine Nw.drew ?_ | refine Nw.drewN2 ?_ _ | (refine Nw.trans ?_ (by assumption))))) | ((conv => lhs; whnf) <;> exact rfl) | exact rfl | exact congrArg (Value.int .u8) hq2 | exact congrArg (Value.int .u8) hq2' | exact hs5 | exact congrArg Value.bool hd0 | exact congrArg Value.bool (by simp))))
                      try simp only [Act.put, List.setIfInBounds_toArray, List.set_cons_zero, List.set_cons_succ, Nat.reduceAdd, List.length_nil, List.length_cons, List.nil_append, List.cons_append]
                    refine Stairs.nil ?_
                    intro x wR hR hx
                    clear hx
                    obtain ⟨hcR, hfR, hzR⟩ := nwc hR
                    replace hn7 := hn7.trans hR
                    clear hcR hfR hzR z0 z1 z2 z3 z4 u1 u2 gu hR
                    have hltj := HJL.out
                    go_wp2
                    go_roundw
                    case rel => exact ⟨j + 1, by omega, by go_num, by rw [HF.out], hn7⟩
                    case measure => (simp [intOf] <;> omega)
            · obtain rfl : qn = 0 := by omega
              obtain HF := hid (show lastK l xs xv (j + 1) = LK by rw [HLK.out, HIS.out]; rfl)
              as_aux_lemma =>
                refine wp_region_stairs (by kernel_rfl) (by kernel_rfl) (by kernel_rfl) ?_
                iterate 2
                  refine Stairs.is ?_ ?_ ?_
                  rotate_left 1
                  · intro x wR hR hd K hK
                    simp only [Act.put, List.setIfInBounds_toArray, List.set_cons_zero, List.set_cons_succ, Nat.reduceAdd, List.length_nil, List.length_cons, List.nil_append, List.cons_append, Say.ok] at hK ⊢
                    clear hd
                    change Hid _ at hK
                    obtain ⟨hcR, hfR, hzR⟩ := nwc hR
                    first | (refine wanted_yes ?_ ?_; rfl) | (refine wanted_no ?_ ?_; rfl)
                    first | (refine hK.out _ _ ?_ ?_ <;> first | (solve | (repeat (first | assumption | exact Nw.refl _ | refine Nw.alloc ?_ _ | refine Nw.drew ?_ | refine Nw.drewN2 ?_ _ | (refine Nw.trans ?_ (by assumption))))) | ((conv => lhs; whnf) <;> exact rfl) | exact rfl | exact congrArg (Value.int .u8) hq2 | exact congrArg (Value.int .u8) hq2' | exact hs5 | exact congrArg Value.bool hd0 | exact congrArg Value.bool (by simp)) | (go_step; first | (refine hK.out _ _ ?_ ?_ <;> first | (solve | (repeat (first | assumption | exact Nw.refl _ | refine Nw.alloc ?_ _ | refine Nw.drew ?_ | refine Nw.drewN2 ?_ _ | (refine Nw.trans ?_ (by assumption))))) | ((conv => lhs; whnf) <;> exact rfl) | exact rfl | exact congrArg (Value.int .u8) hq2 | exact congrArg (Value.int .u8) hq2' | exact hs5 | exact congrArg Value.bool hd0 | exact congrArg Value.bool (by simp)) | ((first | (go_at_call_of 27 (Value.slice p5 ys.length d5); refine (HTA.out _ (hn7.trans (by repeat (first | assumption | exact Nw.refl _ | refine Nw.alloc ?_ _ | refine Nw.drew ?_ | refine Nw.drewN2 ?_ _ | (refine Nw.trans ?_ (by assumption)))))).mono ?_; rintro en w5' ⟨v5, rfl, hs5, hf5, hn5⟩) | (go_at_call_of 27 (Value.slice p6 yv.length d6); refine (HTB.out _ (hn7.trans (by repeat (first | assumption | exact Nw.refl _ | refine Nw.alloc ?_ _ | refine Nw.drew ?_ | refine Nw.drewN2 ?_ _ | (refine Nw.trans ?_ (by assumption)))))).mono ?_; rintro en w5' ⟨v5, rfl, hs5, hf5, hn5⟩) | (go_at_call_of 27 (Value.slice p1 xs.length d1); refine (HTC.out _ (hn7.trans (by repeat (first | assumption | exact Nw.refl _ | refine Nw.alloc ?_ _ | refine Nw.drew ?_ | refine Nw.drewN2 ?_ _ | (refine Nw.trans ?_ (by assumption)))))).mono ?_; rintro en w5' ⟨v5, rfl, hs5, hf5, hn5⟩) | (go_at_call 27; refine (HTD.out _ (hn7.trans (by repeat (first | assumption | exact Nw.refl _ | refine Nw.alloc ?_ _ | refine Nw.drew ?_ | refine Nw.drewN2 ?_ _ | (refine Nw.trans ?_ (by assumption)))))).mono ?_; rintro en w5' ⟨v5, rfl, hs5, hf5, hn5⟩) | (go_at_call_of 26 (x 7); refine (HS1.out _ _ _ (by first | exact hd | exact hd.1 | exact hd.2 | exact hd.2.1 | exact hd.2.2) (by first | exact hd | exact hd.1 | exact hd.2 | exact hd.2.1 | exact hd.2.2)).mono ?_; rintro en w5' ⟨rfl, hn5⟩) | (go_at_call 26; refine (HS2.out _ _ _ (by first | exact hd | exact hd.1 | exact hd.2 | exact hd.2.1 | exact hd.2.2) (by first | exact hd | exact hd.1 | exact hd.2 | exact hd.2.1 | exact hd.2.2)).mono ?_; rintro en w5' ⟨rfl, hn5⟩)); (refine hK.out _ _ ?_ ?_ <;> first | (solve | (repeat (first | assumption | exact Nw.refl _ | refine Nw.alloc ?_ _ | refine Nw.drew ?_ | refine Nw.drewN2 ?_ _ | (refine Nw.trans ?_ (by assumption))))) | ((conv => lhs; whnf) <;> exact rfl) | exact rfl | exact congrArg (Value.int .u8) hq2 | exact congrArg (Value.int .u8) hq2' | exact hs5 | exact congrArg Value.bool hd0 | exact congrArg Value.bool (by simp))))
                  try simp only [Act.put, List.setIfInBounds_toArray, List.set_cons_zero, List.set_cons_succ, Nat.reduceAdd, List.length_nil, List.length_cons, List.nil_append, List.cons_append]
                iterate 1
                  refine Stairs.is (.int .u8 0) ?_ ?_
                  · intro x wR hR hd K hK
                    simp only [Act.put, List.setIfInBounds_toArray, List.set_cons_zero, List.set_cons_succ, Nat.reduceAdd, List.length_nil, List.length_cons, List.nil_append, List.cons_append, Say.ok] at hK ⊢
                    clear hd
                    change Hid _ at hK
                    obtain ⟨hcR, hfR, hzR⟩ := nwc hR
                    first | (refine wanted_yes ?_ ?_; rfl) | (refine wanted_no ?_ ?_; rfl)
                    first | (refine hK.out _ _ ?_ ?_ <;> first | (solve | (repeat (first | assumption | exact Nw.refl _ | refine Nw.alloc ?_ _ | refine Nw.drew ?_ | refine Nw.drewN2 ?_ _ | (refine Nw.trans ?_ (by assumption))))) | ((conv => lhs; whnf) <;> exact rfl) | exact rfl | exact congrArg (Value.int .u8) hq2 | exact congrArg (Value.int .u8) hq2' | exact hs5 | exact congrArg Value.bool hd0 | exact congrArg Value.bool (by simp)) | (go_step; first | (refine hK.out _ _ ?_ ?_ <;> first | (solve | (repeat (first | assumption | exact Nw.refl _ | refine Nw.alloc ?_ _ | refine Nw.drew ?_ | refine Nw.drewN2 ?_ _ | (refine Nw.trans ?_ (by assumption))))) | ((conv => lhs; whnf) <;> exact rfl) | exact rfl | exact congrArg (Value.int .u8) hq2 | exact congrArg (Value.int .u8) hq2' | exact hs5 | exact congrArg Value.bool hd0 | exact congrArg Value.bool (by simp)) | ((first | (go_at_call_of 27 (Value.slice p5 ys.length d5); refine (HTA.out _ (hn7.trans (by repeat (first | assumption | exact Nw.refl _ | refine Nw.alloc ?_ _ | refine Nw.drew ?_ | refine Nw.drewN2 ?_ _ | (refine Nw.trans ?_ (by assumption)))))).mono ?_; rintro en w5' ⟨v5, rfl, hs5, hf5, hn5⟩) | (go_at_call_of 27 (Value.slice p6 yv.length d6); refine (HTB.out _ (hn7.trans (by repeat (first | assumption | exact Nw.refl _ | refine Nw.alloc ?_ _ | refine Nw.drew ?_ | refine Nw.drewN2 ?_ _ | (refine Nw.trans ?_ (by assumption)))))).mono ?_; rintro en w5' ⟨v5, rfl, hs5, hf5, hn5⟩) | (go_at_call_of 27 (Value.slice p1 xs.length d1); refine (HTC.out _ (hn7.trans (by repeat (first | assumption | exact Nw.refl _ | refine Nw.alloc ?_ _ | refine Nw.drew ?_ | refine Nw.drewN2 ?_ _ | (refine Nw.trans ?_ (by assumption)))))).mono ?_; rintro en w5' ⟨v5, rfl, hs5, hf5, hn5⟩) | (go_at_call 27; refine (HTD.out _ (hn7.trans (by repeat (first | assumption | exact Nw.refl _ | refine Nw.alloc ?_ _ | refine Nw.drew ?_ | refine Nw.drewN2 ?_ _ | (refine Nw.trans ?_ (by assumption)))))).mono ?_; rintro en w5' ⟨v5, rfl, hs5, hf5, hn5⟩) | (go_at_call_of 26 (x 7); refine (HS1.out _ _ _ (by first | exact hd | exact hd.1 | exact hd.2 | exact hd.2.1 | exact hd.2.2) (by first | exact hd | exact hd.1 | exact hd.2 | exact hd.2.1 | exact hd.2.2)).mono ?_; rintro en w5' ⟨rfl, hn5⟩) | (go_at_call 26; refine (HS2.out _ _ _ (by first | exact hd | exact hd.1 | exact hd.2 | exact hd.2.1 | exact hd.2.2) (by first | exact hd | exact hd.1 | exact hd.2 | exact hd.2.1 | exact hd.2.2)).mono ?_; rintro en w5' ⟨rfl, hn5⟩)); (refine hK.out _ _ ?_ ?_ <;> first | (solve | (repeat (first | assumption | exact Nw.refl _ | refine Nw.alloc ?_ _ | refine Nw.drew ?_ | refine Nw.drewN2 ?_ _ | (refine Nw.trans ?_ (by assumption))))) | ((conv => lhs; whnf) <;> exact rfl) | exact rfl | exact congrArg (Value.int .u8) hq2 | exact congrArg (Value.int .u8) hq2' | exact hs5 | exact congrArg Value.bool hd0 | exact congrArg Value.bool (by simp))))
                  try simp only [Act.put, List.setIfInBounds_toArray, List.set_cons_zero, List.set_cons_succ, Nat.reduceAdd, List.length_nil, List.length_cons, List.nil_append, List.cons_append]
                iterate 19
                  refine Stairs.is ?_ ?_ ?_
                  rotate_left 1
                  · intro x wR hR hd K hK
                    simp only [Act.put, List.setIfInBounds_toArray, List.set_cons_zero, List.set_cons_succ, Nat.reduceAdd, List.length_nil, List.length_cons, List.nil_append, List.cons_append, Say.ok] at hK ⊢
                    clear hd
                    change Hid _ at hK
                    obtain ⟨hcR, hfR, hzR⟩ := nwc hR
                    first | (refine wanted_yes ?_ ?_; rfl) | (refine wanted_no ?_ ?_; rfl)
                    first | (refine hK.out _ _ ?_ ?_ <;> first | (solve | (repeat (first | assumption | exact Nw.refl _ | refine Nw.alloc ?_ _ | refine Nw.drew ?_ | refine Nw.drewN2 ?_ _ | (refine Nw.trans ?_ (by assumption))))) | ((conv => lhs; whnf) <;> exact rfl) | exact rfl | exact congrArg (Value.int .u8) hq2 | exact congrArg (Value.int .u8) hq2' | exact hs5 | exact congrArg Value.bool hd0 | exact congrArg Value.bool (by simp)) | (go_step; first | (refine hK.out _ _ ?_ ?_ <;> first | (solve | (repeat (first | assumption | exact Nw.refl _ | refine Nw.alloc ?_ _ | refine Nw.drew ?_ | refine Nw.drewN2 ?_ _ | (refine Nw.trans ?_ (by assumption))))) | ((conv => lhs; whnf) <;> exact rfl) | exact rfl | exact congrArg (Value.int .u8) hq2 | exact congrArg (Value.int .u8) hq2' | exact hs5 | exact congrArg Value.bool hd0 | exact congrArg Value.bool (by simp)) | ((first | (go_at_call_of 27 (Value.slice p5 ys.length d5); refine (HTA.out _ (hn7.trans (by repeat (first | assumption | exact Nw.refl _ | refine Nw.alloc ?_ _ | refine Nw.drew ?_ | refine Nw.drewN2 ?_ _ | (refine Nw.trans ?_ (by assumption)))))).mono ?_; rintro en w5' ⟨v5, rfl, hs5, hf5, hn5⟩) | (go_at_call_of 27 (Value.slice p6 yv.length d6); refine (HTB.out _ (hn7.trans (by repeat (first | assumption | exact Nw.refl _ | refine Nw.alloc ?_ _ | refine Nw.drew ?_ | refine Nw.drewN2 ?_ _ | (refine Nw.trans ?_ (by assumption)))))).mono ?_; rintro en w5' ⟨v5, rfl, hs5, hf5, hn5⟩) | (go_at_call_of 27 (Value.slice p1 xs.length d1); refine (HTC.out _ (hn7.trans (by repeat (first | assumption | exact Nw.refl _ | refine Nw.alloc ?_ _ | refine Nw.drew ?_ | refine Nw.drewN2 ?_ _ | (refine Nw.trans ?_ (by assumption)))))).mono ?_; rintro en w5' ⟨v5, rfl, hs5, hf5, hn5⟩) | (go_at_call 27; refine (HTD.out _ (hn7.trans (by repeat (first | assumption | exact Nw.refl _ | refine Nw.alloc ?_ _ | refine Nw.drew ?_ | refine Nw.drewN2 ?_ _ | (refine Nw.trans ?_ (by assumption)))))).mono ?_; rintro en w5' ⟨v5, rfl, hs5, hf5, hn5⟩) | (go_at_call_of 26 (x 7); refine (HS1.out _ _ _ (by first | exact hd | exact hd.1 | exact hd.2 | exact hd.2.1 | exact hd.2.2) (by first | exact hd | exact hd.1 | exact hd.2 | exact hd.2.1 | exact hd.2.2)).mono ?_; rintro en w5' ⟨rfl, hn5⟩) | (go_at_call 26; refine (HS2.out _ _ _ (by first | exact hd | exact hd.1 | exact hd.2 | exact hd.2.1 | exact hd.2.2) (by first | exact hd | exact hd.1 | exact hd.2 | exact hd.2.1 | exact hd.2.2)).mono ?_; rintro en w5' ⟨rfl, hn5⟩)); (refine hK.out _ _ ?_ ?_ <;> first | (solve | (repeat (first | assumption | exact Nw.refl _ | refine Nw.alloc ?_ _ | refine Nw.drew ?_ | refine Nw.drewN2 ?_ _ | (refine Nw.trans ?_ (by assumption))))) | ((conv => lhs; whnf) <;> exact rfl) | exact rfl | exact congrArg (Value.int .u8) hq2 | exact congrArg (Value.int .u8) hq2' | exact hs5 | exact congrArg Value.bool hd0 | exact congrArg Value.bool (by simp))))
                  try simp only [Act.put, List.setIfInBounds_toArray, List.set_cons_zero, List.set_cons_succ, Nat.reduceAdd, List.length_nil, List.length_cons, List.nil_append, List.cons_append]
                refine Stairs.nil ?_
                intro x wR hR hx
                clear hx
                obtain ⟨hcR, hfR, hzR⟩ := nwc hR
                replace hn7 := hn7.trans hR
                clear hcR hfR hzR z0 z1 z2 z3 z4 u1 u2 gu hR
                have hltj := HJL.out
                go_wp2
                go_roundw
                case rel => exact ⟨j + 1, by omega, by go_num, by rw [HF.out], hn7⟩
                case measure => (simp [intOf] <;> omega)
          · have hjk : j = k + 1 := by omega
            have HJK := hid hjk
            have hdj : decide ((j : Int) < (k : Int) + 1) = false := decide_eq_false (by omega)
            clear hjk
            by_cases hqq : qm = 1
            · subst hqq
              obtain rfl : xp = true := HXP.out
              have hgp1 := HGP.out (by first | exact trivial | rfl)
              obtain ⟨⟨rfl, rfl⟩, rfl⟩ : (gs = trim xx ∧ ge = xe) ∧ go = true := by simpa using hgp1
              clear hgp1 HGP HXE
              generalize trim xx = gs at *
              obtain ⟨k', hk', hlk, hgs, hge⟩ := HTO.out (by first | exact trivial | rfl)
              have hnWj := HW6.out.trans hn
              obtain ⟨b', off', q', w1', w2', w3', e', _, _, c0, c1, c2, c3, c4, s1, s2, s3⟩ := HC.out k' (by omega)
              cases e'
              obtain ⟨p7, d7, rfl, _⟩ := id s3.open
              obtain ⟨_, _, la3⟩ := HFT.out.2 k' (by omega)
              have HTX := hid (fun w' (h : Nw w6 w') => rtrim_c (.slice p7 (ac l k').x.length d7) (ac l k').x w' (s3.nw (HW6.out.trans h)) (by omega))
              have HSX := hid (fun w' u1 u2 (h1 : Set w' u1 gs) (h2 : Set w' u2 (trim (ac l k').x)) => show Calls Try.prog 26 #[u1, u2] w' (Gives (.bool true) w') by
                have := samewords_c u1 u2 gs (trim (ac l k').x) w' h1 h2
                rwa [decide_eq_true hgs] at this)
              replace c3 := hnWj.cell c3
              replace c4 := hnWj.cell c4
              rw [← hge] at c4
              have gg := World.block_lt_of_cell? wr _ c3
              simp only at gg
              rw [show lastK l xs xv j = (k' : Int) from by rw [HJK.out]; exact hlk]
              have HTS := hid (TrS.stab (trim (ac l k').x))
              generalize trim (ac l k').x = ty at *
              generalize (ac l k').x.length = ylx at *
              clear s1 s2 s3 c0 c1 c2 hgs hge HTO HNO
              have hd0 : decide ((k' : Int) < 0) = false := decide_eq_false (by omega)
              have hdl : decide ((l.length : Int) ≤ (k' : Int)) = false := decide_eq_false (by omega)
              have hkl : k' < l.length := by omega
              have y8j := hn.heap y8
              have y7j := hn.heap y75
              have g0 := heap_cell y7j 0
              have f0 := heap_cell y8j 0
              have f1 := heap_cell y8j 1
              have gN := lt_of_heap y7j
              have gN8 := lt_of_heap y8j
              simp only [List.getElem?_toArray, List.getElem?_cons_succ, List.getElem?_cons_zero] at g0 f0 f1
              clear y8j y7j
              have hst19 := HTS.out
              clear lb1 lb2 hlk hqb hj hltj HXP HTC HTD la3
              go_upto_region 19 with fail
              refine wp_region_stairs (by kernel_rfl) (by kernel_rfl) (by kernel_rfl) ?_
              iterate 2
                refine Stairs.is ?_ ?_ ?_
                rotate_left 1
                · intro x wR hR hd K hK
                  simp only [Act.put, List.setIfInBounds_toArray, List.set_cons_zero, List.set_cons_succ, Nat.reduceAdd, List.length_nil, List.length_cons, List.nil_append, List.cons_append, Say.ok] at hK ⊢
                  clear hd
                  change Hid _ at hK
                  obtain ⟨hcR, hfR, hzR⟩ := nwc hR
                  first | (refine wanted_yes ?_ ?_; rfl) | (refine wanted_no ?_ ?_; rfl)
                  first | (refine hK.out _ _ ?_ ?_ <;> first | (solve | (repeat (first | assumption | exact Nw.refl _ | refine Nw.alloc ?_ _ | refine Nw.drew ?_ | refine Nw.drewN2 ?_ _ | (refine Nw.trans ?_ (by assumption))))) | ((conv => lhs; whnf) <;> exact rfl) | exact rfl | exact congrArg (Value.int .u8) hq2 | exact congrArg (Value.int .u8) hq2' | exact hs5 | exact congrArg Value.bool hd0 | exact congrArg Value.bool (by simp)) | (go_step; first | (refine hK.out _ _ ?_ ?_ <;> first | (solve | (repeat (first | assumption | exact Nw.refl _ | refine Nw.alloc ?_ _ | refine Nw.drew ?_ | refine Nw.drewN2 ?_ _ | (refine Nw.trans ?_ (by assumption))))) | ((conv => lhs; whnf) <;> exact rfl) | exact rfl | exact congrArg (Value.int .u8) hq2 | exact congrArg (Value.int .u8) hq2' | exact hs5 | exact congrArg Value.bool hd0 | exact congrArg Value.bool (by simp)) | ((first | (go_at_call 27; refine (HTX.out _ (hn.trans (by repeat (first | assumption | exact Nw.refl _ | refine Nw.alloc ?_ _ | refine Nw.drew ?_ | refine Nw.drewN2 ?_ _ | (refine Nw.trans ?_ (by assumption)))))).mono ?_; rintro en w5' ⟨v5, rfl, hs5, hf5, hn5⟩) | (go_at_call 26; refine (HSX.out _ _ _ (hu.nw (hn.trans (by repeat (first | assumption | exact Nw.refl _ | refine Nw.alloc ?_ _ | refine Nw.drew ?_ | refine Nw.drewN2 ?_ _ | (refine Nw.trans ?_ (by assumption)))))) (by first | exact hd | exact hd.1 | exact hd.2 | exact hd.2.1 | exact hd.2.2)).mono ?_; rintro en w5' ⟨rfl, hn5⟩)); (refine hK.out _ _ ?_ ?_ <;> first | (solve | (repeat (first | assumption | exact Nw.refl _ | refine Nw.alloc ?_ _ | refine Nw.drew ?_ | refine Nw.drewN2 ?_ _ | (refine Nw.trans ?_ (by assumption))))) | ((conv => lhs; whnf) <;> exact rfl) | exact rfl | exact congrArg (Value.int .u8) hq2 | exact congrArg (Value.int .u8) hq2' | exact hs5 | exact congrArg Value.bool hd0 | exact congrArg Value.bool (by simp))))
                try simp only [Act.put, List.setIfInBounds_toArray, List.set_cons_zero, List.set_cons_succ, Nat.reduceAdd, List.length_nil, List.length_cons, List.nil_append, List.cons_append]
              iterate 1
                refine Stairs.is (.int .u8 1) ?_ ?_
                · intro x wR hR hd K hK
                  simp only [Act.put, List.setIfInBounds_toArray, List.set_cons_zero, List.set_cons_succ, Nat.reduceAdd, List.length_nil, List.length_cons, List.nil_append, List.cons_append, Say.ok] at hK ⊢
                  clear hd
                  change Hid _ at hK
                  obtain ⟨hcR, hfR, hzR⟩ := nwc hR
                  first | (refine wanted_yes ?_ ?_; rfl) | (refine wanted_no ?_ ?_; rfl)
                  first | (refine hK.out _ _ ?_ ?_ <;> first | (solve | (repeat (first | assumption | exact Nw.refl _ | refine Nw.alloc ?_ _ | refine Nw.drew ?_ | refine Nw.drewN2 ?_ _ | (refine Nw.trans ?_ (by assumption))))) | ((conv => lhs; whnf) <;> exact rfl) | exact rfl | exact congrArg (Value.int .u8) hq2 | exact congrArg (Value.int .u8) hq2' | exact hs5 | exact congrArg Value.bool hd0 | exact congrArg Value.bool (by simp)) | (go_step; first | (refine hK.out _ _ ?_ ?_ <;> first | (solve | (repeat (first | assumption | exact Nw.refl _ | refine Nw.alloc ?_ _ | refine Nw.drew ?_ | refine Nw.drewN2 ?_ _ | (refine Nw.trans ?_ (by assumption))))) | ((conv => lhs; whnf) <;> exact rfl) | exact rfl | exact congrArg (Value.int .u8) hq2 | exact congrArg (Value.int .u8) hq2' | exact hs5 | exact congrArg Value.bool hd0 | exact congrArg Value.bool (by simp)) | ((first | (go_at_call 27; refine (HTX.out _ (hn.trans (by repeat (first | assumption | exact Nw.refl _ | refine Nw.alloc ?_ _ | refine Nw.drew ?_ | refine Nw.drewN2 ?_ _ | (refine Nw.trans ?_ (by assumption)))))).mono ?_; rintro en w5' ⟨v5, rfl, hs5, hf5, hn5⟩) | (go_at_call 26; refine (HSX.out _ _ _ (hu.nw (hn.trans (by repeat (first | assumption | exact Nw.refl _ | refine Nw.alloc ?_ _ | refine Nw.drew ?_ | refine Nw.drewN2 ?_ _ | (refine Nw.trans ?_ (by assumption)))))) (by first | exact hd | exact hd.1 | exact hd.2 | exact hd.2.1 | exact hd.2.2)).mono ?_; rintro en w5' ⟨rfl, hn5⟩)); (refine hK.out _ _ ?_ ?_ <;> first | (solve | (repeat (first | assumption | exact Nw.refl _ | refine Nw.alloc ?_ _ | refine Nw.drew ?_ | refine Nw.drewN2 ?_ _ | (refine Nw.trans ?_ (by assumption))))) | ((conv => lhs; whnf) <;> exact rfl) | exact rfl | exact congrArg (Value.int .u8) hq2 | exact congrArg (Value.int .u8) hq2' | exact hs5 | exact congrArg Value.bool hd0 | exact congrArg Value.bool (by simp))))
                try simp only [Act.put, List.setIfInBounds_toArray, List.set_cons_zero, List.set_cons_succ, Nat.reduceAdd, List.length_nil, List.length_cons, List.nil_append, List.cons_append]
              iterate 9
                refine Stairs.is ?_ ?_ ?_
                rotate_left 1
                · intro x wR hR hd K hK
                  simp only [Act.put, List.setIfInBounds_toArray, List.set_cons_zero, List.set_cons_succ, Nat.reduceAdd, List.length_nil, List.length_cons, List.nil_append, List.cons_append, Say.ok] at hK ⊢
                  clear hd
                  change Hid _ at hK
                  obtain ⟨hcR, hfR, hzR⟩ := nwc hR
                  first | (refine wanted_yes ?_ ?_; rfl) | (refine wanted_no ?_ ?_; rfl)
                  first | (refine hK.out _ _ ?_ ?_ <;> first | (solve | (repeat (first | assumption | exact Nw.refl _ | refine Nw.alloc ?_ _ | refine Nw.drew ?_ | refine Nw.drewN2 ?_ _ | (refine Nw.trans ?_ (by assumption))))) | ((conv => lhs; whnf) <;> exact rfl) | exact rfl | exact congrArg (Value.int .u8) hq2 | exact congrArg (Value.int .u8) hq2' | exact hs5 | exact congrArg Value.bool hd0 | exact congrArg Value.bool (by simp)) | (go_step; first | (refine hK.out _ _ ?_ ?_ <;> first | (solve | (repeat (first | assumption | exact Nw.refl _ | refine Nw.alloc ?_ _ | refine Nw.drew ?_ | refine Nw.drewN2 ?_ _ | (refine Nw.trans ?_ (by assumption))))) | ((conv => lhs; whnf) <;> exact rfl) | exact rfl | exact congrArg (Value.int .u8) hq2 | exact congrArg (Value.int .u8) hq2' | exact hs5 | exact congrArg Value.bool hd0 | exact congrArg Value.bool (by simp)) | ((first | (go_at_call 27; refine (HTX.out _ (hn.trans (by repeat (first | assumption | exact Nw.refl _ | refine Nw.alloc ?_ _ | refine Nw.drew ?_ | refine Nw.drewN2 ?_ _ | (refine Nw.trans ?_ (by assumption)))))).mono ?_; rintro en w5' ⟨v5, rfl, hs5, hf5, hn5⟩) | (go_at_call 26; refine (HSX.out _ _ _ (hu.nw (hn.trans (by repeat (first | assumption | exact Nw.refl _ | refine Nw.alloc ?_ _ | refine Nw.drew ?_ | refine Nw.drewN2 ?_ _ | (refine Nw.trans ?_ (by assumption)))))) (by first | exact hd | exact hd.1 | exact hd.2 | exact hd.2.1 | exact hd.2.2)).mono ?_; rintro en w5' ⟨rfl, hn5⟩)); (refine hK.out _ _ ?_ ?_ <;> first | (solve | (repeat (first | assumption | exact Nw.refl _ | refine Nw.alloc ?_ _ | refine Nw.drew ?_ | refine Nw.drewN2 ?_ _ | (refine Nw.trans ?_ (by assumption))))) | ((conv => lhs; whnf) <;> exact rfl) | exact rfl | exact congrArg (Value.int .u8) hq2 | exact congrArg (Value.int .u8) hq2' | exact hs5 | exact congrArg Value.bool hd0 | exact congrArg Value.bool (by simp))))
                try simp only [Act.put, List.setIfInBounds_toArray, List.set_cons_zero, List.set_cons_succ, Nat.reduceAdd, List.length_nil, List.length_cons, List.nil_append, List.cons_append]
              iterate 1
                refine Stairs.is (.bool false) ?_ ?_
                · intro x wR hR hd K hK
                  simp only [Act.put, List.setIfInBounds_toArray, List.set_cons_zero, List.set_cons_succ, Nat.reduceAdd, List.length_nil, List.length_cons, List.nil_append, List.cons_append, Say.ok] at hK ⊢
                  clear hd
                  change Hid _ at hK
                  obtain ⟨hcR, hfR, hzR⟩ := nwc hR
                  first | (refine wanted_yes ?_ ?_; rfl) | (refine wanted_no ?_ ?_; rfl)
                  first | (refine hK.out _ _ ?_ ?_ <;> first | (solve | (repeat (first | assumption | exact Nw.refl _ | refine Nw.alloc ?_ _ | refine Nw.drew ?_ | refine Nw.drewN2 ?_ _ | (refine Nw.trans ?_ (by assumption))))) | ((conv => lhs; whnf) <;> exact rfl) | exact rfl | exact congrArg (Value.int .u8) hq2 | exact congrArg (Value.int .u8) hq2' | exact hs5 | exact congrArg Value.bool hd0 | exact congrArg Value.bool (by simp)) | (go_step; first | (refine hK.out _ _ ?_ ?_ <;> first | (solve | (repeat (first | assumption | exact Nw.refl _ | refine Nw.alloc ?_ _ | refine Nw.drew ?_ | refine Nw.drewN2 ?_ _ | (refine Nw.trans ?_ (by assumption))))) | ((conv => lhs; whnf) <;> exact rfl) | exact rfl | exact congrArg (Value.int .u8) hq2 | exact congrArg (Value.int .u8) hq2' | exact hs5 | exact congrArg Value.bool hd0 | exact congrArg Value.bool (by simp)) | ((first | (go_at_call 27; refine (HTX.out _ (hn.trans (by repeat (first | assumption | exact Nw.refl _ | refine Nw.alloc ?_ _ | refine Nw.drew ?_ | refine Nw.drewN2 ?_ _ | (refine Nw.trans ?_ (by assumption)))))).mono ?_; rintro en w5' ⟨v5, rfl, hs5, hf5, hn5⟩) | (go_at_call 26; refine (HSX.out _ _ _ (hu.nw (hn.trans (by repeat (first | assumption | exact Nw.refl _ | refine Nw.alloc ?_ _ | refine Nw.drew ?_ | refine Nw.drewN2 ?_ _ | (refine Nw.trans ?_ (by assumption)))))) (by first | exact hd | exact hd.1 | exact hd.2 | exact hd.2.1 | exact hd.2.2)).mono ?_; rintro en w5' ⟨rfl, hn5⟩)); (refine hK.out _ _ ?_ ?_ <;> first | (solve | (repeat (first | assumption | exact Nw.refl _ | refine Nw.alloc ?_ _ | refine Nw.drew ?_ | refine Nw.drewN2 ?_ _ | (refine Nw.trans ?_ (by assumption))))) | ((conv => lhs; whnf) <;> exact rfl) | exact rfl | exact congrArg (Value.int .u8) hq2 | exact congrArg (Value.int .u8) hq2' | exact hs5 | exact congrArg Value.bool hd0 | exact congrArg Value.bool (by simp))))
                try simp only [Act.put, List.setIfInBounds_toArray, List.set_cons_zero, List.set_cons_succ, Nat.reduceAdd, List.length_nil, List.length_cons, List.nil_append, List.cons_append]
              iterate 8
                refine Stairs.is ?_ ?_ ?_
                rotate_left 1
                · intro x wR hR hd K hK
                  simp only [Act.put, List.setIfInBounds_toArray, List.set_cons_zero, List.set_cons_succ, Nat.reduceAdd, List.length_nil, List.length_cons, List.nil_append, List.cons_append, Say.ok] at hK ⊢
                  clear hd
                  change Hid _ at hK
                  obtain ⟨hcR, hfR, hzR⟩ := nwc hR
                  first | (refine wanted_yes ?_ ?_; rfl) | (refine wanted_no ?_ ?_; rfl)
                  first | (refine hK.out _ _ ?_ ?_ <;> first | (solve | (repeat (first | assumption | exact Nw.refl _ | refine Nw.alloc ?_ _ | refine Nw.drew ?_ | refine Nw.drewN2 ?_ _ | (refine Nw.trans ?_ (by assumption))))) | ((conv => lhs; whnf) <;> exact rfl) | exact rfl | exact congrArg (Value.int .u8) hq2 | exact congrArg (Value.int .u8) hq2' | exact hs5 | exact congrArg Value.bool hd0 | exact congrArg Value.bool (by simp)) | (go_step; first | (refine hK.out _ _ ?_ ?_ <;> first | (solve | (repeat (first | assumption | exact Nw.refl _ | refine Nw.alloc ?_ _ | refine Nw.drew ?_ | refine Nw.drewN2 ?_ _ | (refine Nw.trans ?_ (by assumption))))) | ((conv => lhs; whnf) <;> exact rfl) | exact rfl | exact congrArg (Value.int .u8) hq2 | exact congrArg (Value.int .u8) hq2' | exact hs5 | exact congrArg Value.bool hd0 | exact congrArg Value.bool (by simp)) | ((first | (go_at_call 27; refine (HTX.out _ (hn.trans (by repeat (first | assumption | exact Nw.refl _ | refine Nw.alloc ?_ _ | refine Nw.drew ?_ | refine Nw.drewN2 ?_ _ | (refine Nw.trans ?_ (by assumption)))))).mono ?_; rintro en w5' ⟨v5, rfl, hs5, hf5, hn5⟩) | (go_at_call 26; refine (HSX.out _ _ _ (hu.nw (hn.trans (by repeat (first | assumption | exact Nw.refl _ | refine Nw.alloc ?_ _ | refine Nw.drew ?_ | refine Nw.drewN2 ?_ _ | (refine Nw.trans ?_ (by assumption)))))) (by first | exact hd | exact hd.1 | exact hd.2 | exact hd.2.1 | exact hd.2.2)).mono ?_; rintro en w5' ⟨rfl, hn5⟩)); (refine hK.out _ _ ?_ ?_ <;> first | (solve | (repeat (first | assumption | exact Nw.refl _ | refine Nw.alloc ?_ _ | refine Nw.drew ?_ | refine Nw.drewN2 ?_ _ | (refine Nw.trans ?_ (by assumption))))) | ((conv => lhs; whnf) <;> exact rfl) | exact rfl | exact congrArg (Value.int .u8) hq2 | exact congrArg (Value.int .u8) hq2' | exact hs5 | exact congrArg Value.bool hd0 | exact congrArg Value.bool (by simp))))
                try simp only [Act.put, List.setIfInBounds_toArray, List.set_cons_zero, List.set_cons_succ, Nat.reduceAdd, List.length_nil, List.length_cons, List.nil_append, List.cons_append]
              iterate 1
                refine Stairs.that (TrS ty) (by first | assumption | simp) ?_ ?_
                · intro x wR hR hd K hK
                  simp only [Act.put, List.setIfInBounds_toArray, List.set_cons_zero, List.set_cons_succ, Nat.reduceAdd, List.length_nil, List.length_cons, List.nil_append, List.cons_append, Say.ok] at hK ⊢
                  clear hd
                  change Hid _ at hK
                  obtain ⟨hcR, hfR, hzR⟩ := nwc hR
                  first | (refine wanted_yes ?_ ?_; rfl) | (refine wanted_no ?_ ?_; rfl)
                  first | (refine hK.out _ _ ?_ ?_ <;> first | (solve | (repeat (first | assumption | exact Nw.refl _ | refine Nw.alloc ?_ _ | refine Nw.drew ?_ | refine Nw.drewN2 ?_ _ | (refine Nw.trans ?_ (by assumption))))) | ((conv => lhs; whnf) <;> exact rfl) | exact rfl | exact congrArg (Value.int .u8) hq2 | exact congrArg (Value.int .u8) hq2' | exact hs5 | exact congrArg Value.bool hd0 | exact congrArg Value.bool (by simp)) | (go_step; first | (refine hK.out _ _ ?_ ?_ <;> first | (solve | (repeat (first | assumption | exact Nw.refl _ | refine Nw.alloc ?_ _ | refine Nw.drew ?_ | refine Nw.drewN2 ?_ _ | (refine Nw.trans ?_ (by assumption))))) | ((conv => lhs; whnf) <;> exact rfl) | exact rfl | exact congrArg (Value.int .u8) hq2 | exact congrArg (Value.int .u8) hq2' | exact hs5 | exact congrArg Value.bool hd0 | exact congrArg Value.bool (by simp)) | ((first | (go_at_call 27; refine (HTX.out _ (hn.trans (by repeat (first | assumption | exact Nw.refl _ | refine Nw.alloc ?_ _ | refine Nw.drew ?_ | refine Nw.drewN2 ?_ _ | (refine Nw.trans ?_ (by assumption)))))).mono ?_; rintro en w5' ⟨v5, rfl, hs5, hf5, hn5⟩) | (go_at_call 26; refine (HSX.out _ _ _ (hu.nw (hn.trans (by repeat (first | assumption | exact Nw.refl _ | refine Nw.alloc ?_ _ | refine Nw.drew ?_ | refine Nw.drewN2 ?_ _ | (refine Nw.trans ?_ (by assumption)))))) (by first | exact hd | exact hd.1 | exact hd.2 | exact hd.2.1 | exact hd.2.2)).mono ?_; rintro en w5' ⟨rfl, hn5⟩)); (refine hK.out _ _ ?_ ?_ <;> first | (solve | (repeat (first | assumption | exact Nw.refl _ | refine Nw.alloc ?_ _ | refine Nw.drew ?_ | refine Nw.drewN2 ?_ _ | (refine Nw.trans ?_ (by assumption))))) | ((conv => lhs; whnf) <;> exact rfl) | exact rfl | exact congrArg (Value.int .u8) hq2 | exact congrArg (Value.int .u8) hq2' | exact hs5 | exact congrArg Value.bool hd0 | exact congrArg Value.bool (by simp))))
                try simp only [Act.put, List.setIfInBounds_toArray, List.set_cons_zero, List.set_cons_succ, Nat.reduceAdd, List.length_nil, List.length_cons, List.nil_append, List.cons_append]
              iterate 1
                refine Stairs.is ?_ ?_ ?_
                rotate_left 1
                · intro x wR hR hd K hK
                  simp only [Act.put, List.setIfInBounds_toArray, List.set_cons_zero, List.set_cons_succ, Nat.reduceAdd, List.length_nil, List.length_cons, List.nil_append, List.cons_append, Say.ok] at hK ⊢
                  try simp [Region.binds, sayAt, List.getD_cons_zero, List.getD_cons_succ, Say.ok, Vl] at hd
                  change Hid _ at hK
                  obtain ⟨hcR, hfR, hzR⟩ := nwc hR
                  first | (refine wanted_yes ?_ ?_; rfl) | (refine wanted_no ?_ ?_; rfl)
                  first | (refine hK.out _ _ ?_ ?_ <;> first | (solve | (repeat (first | assumption | exact Nw.refl _ | refine Nw.alloc ?_ _ | refine Nw.drew ?_ | refine Nw.drewN2 ?_ _ | (refine Nw.trans ?_ (by assumption))))) | ((conv => lhs; whnf) <;> exact rfl) | exact rfl | exact congrArg (Value.int .u8) hq2 | exact congrArg (Value.int .u8) hq2' | exact hs5 | exact congrArg Value.bool hd0 | exact congrArg Value.bool (by simp)) | (go_step; first | (refine hK.out _ _ ?_ ?_ <;> first | (solve | (repeat (first | assumption | exact Nw.refl _ | refine Nw.alloc ?_ _ | refine Nw.drew ?_ | refine Nw.drewN2 ?_ _ | (refine Nw.trans ?_ (by assumption))))) | ((conv => lhs; whnf) <;> exact rfl) | exact rfl | exact congrArg (Value.int .u8) hq2 | exact congrArg (Value.int .u8) hq2' | exact hs5 | exact congrArg Value.bool hd0 | exact congrArg Value.bool (by simp)) | ((first | (go_at_call 27; refine (HTX.out _ (hn.trans (by repeat (first | assumption | exact Nw.refl _ | refine Nw.alloc ?_ _ | refine Nw.drew ?_ | refine Nw.drewN2 ?_ _ | (refine Nw.trans ?_ (by assumption)))))).mono ?_; rintro en w5' ⟨v5, rfl, hs5, hf5, hn5⟩) | (go_at_call 26; refine (HSX.out _ _ _ (hu.nw (hn.trans (by repeat (first | assumption | exact Nw.refl _ | refine Nw.alloc ?_ _ | refine Nw.drew ?_ | refine Nw.drewN2 ?_ _ | (refine Nw.trans ?_ (by assumption)))))) (by first | exact hd | exact hd.1 | exact hd.2 | exact hd.2.1 | exact hd.2.2)).mono ?_; rintro en w5' ⟨rfl, hn5⟩)); (refine hK.out _ _ ?_ ?_ <;> first | (solve | (repeat (first | assumption | exact Nw.refl _ | refine Nw.alloc ?_ _ | refine Nw.drew ?_ | refine Nw.drewN2 ?_ _ | (refine Nw.trans ?_ (by assumption))))) | ((conv => lhs; whnf) <;> exact rfl) | exact rfl | exact congrArg (Value.int .u8) hq2 | exact congrArg (Value.int .u8) hq2' | exact hs5 | exact congrArg Value.bool hd0 | exact congrArg Value.bool (by simp))))
                try simp only [Act.put, List.setIfInBounds_toArray, List.set_cons_zero, List.set_cons_succ, Nat.reduceAdd, List.length_nil, List.length_cons, List.nil_append, List.cons_append]
              iterate 10
                refine Stairs.is ?_ ?_ ?_
                rotate_left 1
                · intro x wR hR hd K hK
                  simp only [Act.put, List.setIfInBounds_toArray, List.set_cons_zero, List.set_cons_succ, Nat.reduceAdd, List.length_nil, List.length_cons, List.nil_append, List.cons_append, Say.ok] at hK ⊢
                  clear hd
                  change Hid _ at hK
                  obtain ⟨hcR, hfR, hzR⟩ := nwc hR
                  first | (refine wanted_yes ?_ ?_; rfl) | (refine wanted_no ?_ ?_; rfl)
                  first | (refine hK.out _ _ ?_ ?_ <;> first | (solve | (repeat (first | assumption | exact Nw.refl _ | refine Nw.alloc ?_ _ | refine Nw.drew ?_ | refine Nw.drewN2 ?_ _ | (refine Nw.trans ?_ (by assumption))))) | ((conv => lhs; whnf) <;> exact rfl) | exact rfl | exact congrArg (Value.int .u8) hq2 | exact congrArg (Value.int .u8) hq2' | exact hs5 | exact congrArg Value.bool hd0 | exact congrArg Value.bool (by simp)) | (go_step; first | (refine hK.out _ _ ?_ ?_ <;> first | (solve | (repeat (first | assumption | exact Nw.refl _ | refine Nw.alloc ?_ _ | refine Nw.drew ?_ | refine Nw.drewN2 ?_ _ | (refine Nw.trans ?_ (by assumption))))) | ((conv => lhs; whnf) <;> exact rfl) | exact rfl | exact congrArg (Value.int .u8) hq2 | exact congrArg (Value.int .u8) hq2' | exact hs5 | exact congrArg Value.bool hd0 | exact congrArg Value.bool (by simp)) | ((first | (go_at_call 27; refine (HTX.out _ (hn.trans (by repeat (first | assumption | exact Nw.refl _ | refine Nw.alloc ?_ _ | refine Nw.drew ?_ | refine Nw.drewN2 ?_ _ | (refine Nw.trans ?_ (by assumption)))))).mono ?_; rintro en w5' ⟨v5, rfl, hs5, hf5, hn5⟩) | (go_at_call 26; refine (HSX.out _ _ _ (hu.nw (hn.trans (by repeat (first | assumption | exact Nw.refl _ | refine Nw.alloc ?_ _ | refine Nw.drew ?_ | refine Nw.drewN2 ?_ _ | (refine Nw.trans ?_ (by assumption)))))) (by first | exact hd | exact hd.1 | exact hd.2 | exact hd.2.1 | exact hd.2.2)).mono ?_; rintro en w5' ⟨rfl, hn5⟩)); (refine hK.out _ _ ?_ ?_ <;> first | (solve | (repeat (first | assumption | exact Nw.refl _ | refine Nw.alloc ?_ _ | refine Nw.drew ?_ | refine Nw.drewN2 ?_ _ | (refine Nw.trans ?_ (by assumption))))) | ((conv => lhs; whnf) <;> exact rfl) | exact rfl | exact congrArg (Value.int .u8) hq2 | exact congrArg (Value.int .u8) hq2' | exact hs5 | exact congrArg Value.bool hd0 | exact congrArg Value.bool (by simp))))
                try simp only [Act.put, List.setIfInBounds_toArray, List.set_cons_zero, List.set_cons_succ, Nat.reduceAdd, List.length_nil, List.length_cons, List.nil_append, List.cons_append]
              iterate 1
                refine Stairs.is (.bool false) ?_ ?_
                · intro x wR hR hd K hK
                  simp only [Act.put, List.setIfInBounds_toArray, List.set_cons_zero, List.set_cons_succ, Nat.reduceAdd, List.length_nil, List.length_cons, List.nil_append, List.cons_append, Say.ok] at hK ⊢
                  clear hd
                  change Hid _ at hK
                  obtain ⟨hcR, hfR, hzR⟩ := nwc hR
                  first | (refine wanted_yes ?_ ?_; rfl) | (refine wanted_no ?_ ?_; rfl)
                  first | (refine hK.out _ _ ?_ ?_ <;> first | (solve | (repeat (first | assumption | exact Nw.refl _ | refine Nw.alloc ?_ _ | refine Nw.drew ?_ | refine Nw.drewN2 ?_ _ | (refine Nw.trans ?_ (by assumption))))) | ((conv => lhs; whnf) <;> exact rfl) | exact rfl | exact congrArg (Value.int .u8) hq2 | exact congrArg (Value.int .u8) hq2' | exact hs5 | exact congrArg Value.bool hd0 | exact congrArg Value.bool (by simp)) | (go_step; first | (refine hK.out _ _ ?_ ?_ <;> first | (solve | (repeat (first | assumption | exact Nw.refl _ | refine Nw.alloc ?_ _ | refine Nw.drew ?_ | refine Nw.drewN2 ?_ _ | (refine Nw.trans ?_ (by assumption))))) | ((conv => lhs; whnf) <;> exact rfl) | exact rfl | exact congrArg (Value.int .u8) hq2 | exact congrArg (Value.int .u8) hq2' | exact hs5 | exact congrArg Value.bool hd0 | exact congrArg Value.bool (by simp)) | ((first | (go_at_call 27; refine (HTX.out _ (hn.trans (by repeat (first | assumption | exact Nw.refl _ | refine Nw.alloc ?_ _ | refine Nw.drew ?_ | refine Nw.drewN2 ?_ _ | (refine Nw.trans ?_ (by assumption)))))).mono ?_; rintro en w5' ⟨v5, rfl, hs5, hf5, hn5⟩) | (go_at_call 26; refine (HSX.out _ _ _ (hu.nw (hn.trans (by repeat (first | assumption | exact Nw.refl _ | refine Nw.alloc ?_ _ | refine Nw.drew ?_ | refine Nw.drewN2 ?_ _ | (refine Nw.trans ?_ (by assumption)))))) (by first | exact hd | exact hd.1 | exact hd.2 | exact hd.2.1 | exact hd.2.2)).mono ?_; rintro en w5' ⟨rfl, hn5⟩)); (refine hK.out _ _ ?_ ?_ <;> first | (solve | (repeat (first | assumption | exact Nw.refl _ | refine Nw.alloc ?_ _ | refine Nw.drew ?_ | refine Nw.drewN2 ?_ _ | (refine Nw.trans ?_ (by assumption))))) | ((conv => lhs; whnf) <;> exact rfl) | exact rfl | exact congrArg (Value.int .u8) hq2 | exact congrArg (Value.int .u8) hq2' | exact hs5 | exact congrArg Value.bool hd0 | exact congrArg Value.bool (by simp))))
                try simp only [Act.put, List.setIfInBounds_toArray, List.set_cons_zero, List.set_cons_succ, Nat.reduceAdd, List.length_nil, List.length_cons, List.nil_append, List.cons_append]
              iterate 17
                refine Stairs.is ?_ ?_ ?_
                rotate_left 1
                · intro x wR hR hd K hK
                  simp only [Act.put, List.setIfInBounds_toArray, List.set_cons_zero, List.set_cons_succ, Nat.reduceAdd, List.length_nil, List.length_cons, List.nil_append, List.cons_append, Say.ok] at hK ⊢
                  clear hd
                  change Hid _ at hK
                  obtain ⟨hcR, hfR, hzR⟩ := nwc hR
                  first | (refine wanted_yes ?_ ?_; rfl) | (refine wanted_no ?_ ?_; rfl)
                  first | (refine hK.out _ _ ?_ ?_ <;> first | (solve | (repeat (first | assumption | exact Nw.refl _ | refine Nw.alloc ?_ _ | refine Nw.drew ?_ | refine Nw.drewN2 ?_ _ | (refine Nw.trans ?_ (by assumption))))) | ((conv => lhs; whnf) <;> exact rfl) | exact rfl | exact congrArg (Value.int .u8) hq2 | exact congrArg (Value.int .u8) hq2' | exact hs5 | exact congrArg Value.bool hd0 | exact congrArg Value.bool (by simp)) | (go_step; first | (refine hK.out _ _ ?_ ?_ <;> first | (solve | (repeat (first | assumption | exact Nw.refl _ | refine Nw.alloc ?_ _ | refine Nw.drew ?_ | refine Nw.drewN2 ?_ _ | (refine Nw.trans ?_ (by assumption))))) | ((conv => lhs; whnf) <;> exact rfl) | exact rfl | exact congrArg (Value.int .u8) hq2 | exact congrArg (Value.int .u8) hq2' | exact hs5 | exact congrArg Value.bool hd0 | exact congrArg Value.bool (by simp)) | ((first | (go_at_call 27; refine (HTX.out _ (hn.trans (by repeat (first | assumption | exact Nw.refl _ | refine Nw.alloc ?_ _ | refine Nw.drew ?_ | refine Nw.drewN2 ?_ _ | (refine Nw.trans ?_ (by assumption)))))).mono ?_; rintro en w5' ⟨v5, rfl, hs5, hf5, hn5⟩) | (go_at_call 26; refine (HSX.out _ _ _ (hu.nw (hn.trans (by repeat (first | assumption | exact Nw.refl _ | refine Nw.alloc ?_ _ | refine Nw.drew ?_ | refine Nw.drewN2 ?_ _ | (refine Nw.trans ?_ (by assumption)))))) (by first | exact hd | exact hd.1 | exact hd.2 | exact hd.2.1 | exact hd.2.2)).mono ?_; rintro en w5' ⟨rfl, hn5⟩)); (refine hK.out _ _ ?_ ?_ <;> first | (solve | (repeat (first | assumption | exact Nw.refl _ | refine Nw.alloc ?_ _ | refine Nw.drew ?_ | refine Nw.drewN2 ?_ _ | (refine Nw.trans ?_ (by assumption))))) | ((conv => lhs; whnf) <;> exact rfl) | exact rfl | exact congrArg (Value.int .u8) hq2 | exact congrArg (Value.int .u8) hq2' | exact hs5 | exact congrArg Value.bool hd0 | exact congrArg Value.bool (by simp))))
                try simp only [Act.put, List.setIfInBounds_toArray, List.set_cons_zero, List.set_cons_succ, Nat.reduceAdd, List.length_nil, List.length_cons, List.nil_append, List.cons_append]
              refine Stairs.nil ?_
              intro x wR hR hx
              clear hx
              obtain ⟨hcR, hfR, hzR⟩ := nwc hR
              replace hn := hn.trans hR
              clear hcR hfR hzR hR g0 f0 f1 gN gN8 c3 c4 gg
              have HGL := hid (getM_len m1 xs xv)
              have HLN := hid (fun w' (h : Nw w6 w') => len_st (hst5.nw h))
              have hml1 := HML.out.1
              have hml2 := HML.out.2
              have hrm := HRM.out
              rw [← HGL.out] at hml1 hml2
              have HST := hid hst5
              clear HGL hst5
              generalize hmq : (getM m1 xs xv).l.length = ml at HLN hml1 hml2
              clear hmq HML HRM HFT HC
              have hdm2 : decide ((k : Int) + 1 < (ml : Int)) = false := decide_eq_false (by omega)
              go_upto_region 21 with fail
              go_wp2_with (first
                | (go_at_call 28; refine (HLN.out _ hn).mono ?_; rintro en u1 ⟨rfl, hn5⟩; have hnL := hn.trans hn5; clear hn5)
                | (go_at_call 28; refine (HLN.out _ hnL).mono ?_; rintro en u2 ⟨rfl, hn6⟩; have hnM := hnL.trans hn6; clear hn6)
                | fail)
              all_goals first | (exfalso; omega) | skip
              all_goals (go_roundw; (case rel => exact ⟨k + 1, _, by omega, by go_num, HST.out.nw hnM, hid (inv_get HIV.out xs xv)⟩); (case measure => (simp [intOf] <;> omega)))
            · obtain rfl : qm = 0 := by omega
              obtain rfl : xp = false := HXP.out
              clear HGP HXE
              cases go with
              | true =>
                obtain ⟨k', hk', hlk, hgs, hge⟩ := HTO.out (by first | exact trivial | rfl)
                have hnWj := HW6.out.trans hn
                obtain ⟨b', off', q', w1', w2', w3', e', _, _, c0, c1, c2, c3, c4, s1, s2, s3⟩ := HC.out k' (by omega)
                cases e'
                obtain ⟨p7, d7, rfl, _⟩ := id s3.open
                obtain ⟨_, _, la3⟩ := HFT.out.2 k' (by omega)
                have HTX := hid (fun w' (h : Nw w6 w') => rtrim_c (.slice p7 (ac l k').x.length d7) (ac l k').x w' (s3.nw (HW6.out.trans h)) (by omega))
                have HSX := hid (fun w' u1 u2 (h1 : Set w' u1 gs) (h2 : Set w' u2 (trim (ac l k').x)) => show Calls Try.prog 26 #[u1, u2] w' (Gives (.bool true) w') by
                  have := samewords_c u1 u2 gs (trim (ac l k').x) w' h1 h2
                  rwa [decide_eq_true hgs] at this)
                replace c3 := hnWj.cell c3
                replace c4 := hnWj.cell c4
                rw [← hge] at c4
                have gg := World.block_lt_of_cell? wr _ c3
                simp only at gg
                rw [show lastK l xs xv j = (k' : Int) from by rw [HJK.out]; exact hlk]
                have HTS := hid (TrS.stab (trim (ac l k').x))
                generalize trim (ac l k').x = ty at *
                generalize (ac l k').x.length = ylx at *
                clear s1 s2 s3 c0 c1 c2 hgs hge HTO HNO
                have hd0 : decide ((k' : Int) < 0) = false := decide_eq_false (by omega)
                have hdl : decide ((l.length : Int) ≤ (k' : Int)) = false := decide_eq_false (by omega)
                have hkl : k' < l.length := by omega
                have y8j := hn.heap y8
                have y7j := hn.heap y75
                have g0 := heap_cell y7j 0
                have f0 := heap_cell y8j 0
                have f1 := heap_cell y8j 1
                have gN := lt_of_heap y7j
                have gN8 := lt_of_heap y8j
                simp only [List.getElem?_toArray, List.getElem?_cons_succ, List.getElem?_cons_zero] at g0 f0 f1
                clear y8j y7j
                have hst19 := HTS.out
                clear lb1 lb2 hlk hqb hj hltj HXP HTC HTD la3
                go_upto_region 19 with fail
                refine wp_region_stairs (by kernel_rfl) (by kernel_rfl) (by kernel_rfl) ?_
                iterate 2
                  refine Stairs.is ?_ ?_ ?_
                  rotate_left 1
                  · intro x wR hR hd K hK
                    simp only [Act.put, List.setIfInBounds_toArray, List.set_cons_zero, List.set_cons_succ, Nat.reduceAdd, List.length_nil, List.length_cons, List.nil_append, List.cons_append, Say.ok] at hK ⊢
                    clear hd
                    change Hid _ at hK
                    obtain ⟨hcR, hfR, hzR⟩ := nwc hR
                    first | (refine wanted_yes ?_ ?_; rfl) | (refine wanted_no ?_ ?_; rfl)
                    first | (refine hK.out _ _ ?_ ?_ <;> first | (solve | (repeat (first | assumption | exact Nw.refl _ | refine Nw.alloc ?_ _ | refine Nw.drew ?_ | refine Nw.drewN2 ?_ _ | (refine Nw.trans ?_ (by assumption))))) | ((conv => lhs; whnf) <;> exact rfl) | exact rfl | exact congrArg (Value.int .u8) hq2 | exact congrArg (Value.int .u8) hq2' | exact hs5 | exact congrArg Value.bool hd0 | exact congrArg Value.bool (by simp)) | (go_step; first | (refine hK.out _ _ ?_ ?_ <;> first | (solve | (repeat (first | assumption | exact Nw.refl _ | refine Nw.alloc ?_ _ | refine Nw.drew ?_ | refine Nw.drewN2 ?_ _ | (refine Nw.trans ?_ (by assumption))))) | ((conv => lhs; whnf) <;> exact rfl) | exact rfl | exact congrArg (Value.int .u8) hq2 | exact congrArg (Value.int .u8) hq2' | exact hs5 | exact congrArg Value.bool hd0 | exact congrArg Value.bool (by simp)) | ((first | (go_at_call 27; refine (HTX.out _ (hn.trans (by repeat (first | assumption | exact Nw.refl _ | refine Nw.alloc ?_ _ | refine Nw.drew ?_ | refine Nw.drewN2 ?_ _ | (refine Nw.trans ?_ (by assumption)))))).mono ?_; rintro en w5' ⟨v5, rfl, hs5, hf5, hn5⟩) | (go_at_call 26; refine (HSX.out _ _ _ (hu.nw (hn.trans (by repeat (first | assumption | exact Nw.refl _ | refine Nw.alloc ?_ _ | refine Nw.drew ?_ | refine Nw.drewN2 ?_ _ | (refine Nw.trans ?_ (by assumption)))))) (by first | exact hd | exact hd.1 | exact hd.2 | exact hd.2.1 | exact hd.2.2)).mono ?_; rintro en w5' ⟨rfl, hn5⟩)); (refine hK.out _ _ ?_ ?_ <;> first | (solve | (repeat (first | assumption | exact Nw.refl _ | refine Nw.alloc ?_ _ | refine Nw.drew ?_ | refine Nw.drewN2 ?_ _ | (refine Nw.trans ?_ (by assumption))))) | ((conv => lhs; whnf) <;> exact rfl) | exact rfl | exact congrArg (Value.int .u8) hq2 | exact congrArg (Value.int .u8) hq2' | exact hs5 | exact congrArg Value.bool hd0 | exact congrArg Value.bool (by simp))))
                  try simp only [Act.put, List.setIfInBounds_toArray, List.set_cons_zero, List.set_cons_succ, Nat.reduceAdd, List.length_nil, List.length_cons, List.nil_append, List.cons_append]
                iterate 1
                  refine Stairs.is (.int .u8 0) ?_ ?_
                  · intro x wR hR hd K hK
                    simp only [Act.put, List.setIfInBounds_toArray, List.set_cons_zero, List.set_cons_succ, Nat.reduceAdd, List.length_nil, List.length_cons, List.nil_append, List.cons_append, Say.ok] at hK ⊢
                    clear hd
                    change Hid _ at hK
                    obtain ⟨hcR, hfR, hzR⟩ := nwc hR
                    first | (refine wanted_yes ?_ ?_; rfl) | (refine wanted_no ?_ ?_; rfl)
                    first | (refine hK.out _ _ ?_ ?_ <;> first | (solve | (repeat (first | assumption | exact Nw.refl _ | refine Nw.alloc ?_ _ | refine Nw.drew ?_ | refine Nw.drewN2 ?_ _ | (refine Nw.trans ?_ (by assumption))))) | ((conv => lhs; whnf) <;> exact rfl) | exact rfl | exact congrArg (Value.int .u8) hq2 | exact congrArg (Value.int .u8) hq2' | exact hs5 | exact congrArg Value.bool hd0 | exact congrArg Value.bool (by simp)) | (go_step; first | (refine hK.out _ _ ?_ ?_ <;> first | (solve | (repeat (first | assumption | exact Nw.refl _ | refine Nw.alloc ?_ _ | refine Nw.drew ?_ | refine Nw.drewN2 ?_ _ | (refine Nw.trans ?_ (by assumption))))) | ((conv => lhs; whnf) <;> exact rfl) | exact rfl | exact congrArg (Value.int .u8) hq2 | exact congrArg (Value.int .u8) hq2' | exact hs5 | exact congrArg Value.bool hd0 | exact congrArg Value.bool (by simp)) | ((first | (go_at_call 27; refine (HTX.out _ (hn.trans (by repeat (first | assumption | exact Nw.refl _ | refine Nw.alloc ?_ _ | refine Nw.drew ?_ | refine Nw.drewN2 ?_ _ | (refine Nw.trans ?_ (by assumption)))))).mono ?_; rintro en w5' ⟨v5, rfl, hs5, hf5, hn5⟩) | (go_at_call 26; refine (HSX.out _ _ _ (hu.nw (hn.trans (by repeat (first | assumption | exact Nw.refl _ | refine Nw.alloc ?_ _ | refine Nw.drew ?_ | refine Nw.drewN2 ?_ _ | (refine Nw.trans ?_ (by assumption)))))) (by first | exact hd | exact hd.1 | exact hd.2 | exact hd.2.1 | exact hd.2.2)).mono ?_; rintro en w5' ⟨rfl, hn5⟩)); (refine hK.out _ _ ?_ ?_ <;> first | (solve | (repeat (first | assumption | exact Nw.refl _ | refine Nw.alloc ?_ _ | refine Nw.drew ?_ | refine Nw.drewN2 ?_ _ | (refine Nw.trans ?_ (by assumption))))) | ((conv => lhs; whnf) <;> exact rfl) | exact rfl | exact congrArg (Value.int .u8) hq2 | exact congrArg (Value.int .u8) hq2' | exact hs5 | exact congrArg Value.bool hd0 | exact congrArg Value.bool (by simp))))
                  try simp only [Act.put, List.setIfInBounds_toArray, List.set_cons_zero, List.set_cons_succ, Nat.reduceAdd, List.length_nil, List.length_cons, List.nil_append, List.cons_append]
                iterate 9
                  refine Stairs.is ?_ ?_ ?_
                  rotate_left 1
                  · intro x wR hR hd K hK
                    simp only [Act.put, List.setIfInBounds_toArray, List.set_cons_zero, List.set_cons_succ, Nat.reduceAdd, List.length_nil, List.length_cons, List.nil_append, List.cons_append, Say.ok] at hK ⊢
                    clear hd
                    change Hid _ at hK
                    obtain ⟨hcR, hfR, hzR⟩ := nwc hR
                    first | (refine wanted_yes ?_ ?_; rfl) | (refine wanted_no ?_ ?_; rfl)
                    first | (refine hK.out _ _ ?_ ?_ <;> first | (solve | (repeat (first | assumption | exact Nw.refl _ | refine Nw.alloc ?_ _ | refine Nw.drew ?_ | refine Nw.drewN2 ?_ _ | (refine Nw.trans ?_ (by assumption))))) | ((conv => lhs; whnf) <;> exact rfl) | exact rfl | exact congrArg (Value.int .u8) hq2 | exact congrArg (Value.int .u8) hq2' | exact hs5 | exact congrArg Value.bool hd0 | exact congrArg Value.bool (by simp)) | (go_step; first | (refine hK.out _ _ ?_ ?_ <;> first | (solve | (repeat (first | assumption | exact Nw.refl _ | refine Nw.alloc ?_ _ | refine Nw.drew ?_ | refine Nw.drewN2 ?_ _ | (refine Nw.trans ?_ (by assumption))))) | ((conv => lhs; whnf) <;> exact rfl) | exact rfl | exact congrArg (Value.int .u8) hq2 | exact congrArg (Value.int .u8) hq2' | exact hs5 | exact congrArg Value.bool hd0 | exact congrArg Value.bool (by simp)) | ((first | (go_at_call 27; refine (HTX.out _ (hn.trans (by repeat (first | assumption | exact Nw.refl _ | refine Nw.alloc ?_ _ | refine Nw.drew ?_ | refine Nw.drewN2 ?_ _ | (refine Nw.trans ?_ (by assumption)))))).mono ?_; rintro en w5' ⟨v5, rfl, hs5, hf5, hn5⟩) | (go_at_call 26; refine (HSX.out _ _ _ (hu.nw (hn.trans (by repeat (first | assumption | exact Nw.refl _ | refine Nw.alloc ?_ _ | refine Nw.drew ?_ | refine Nw.drewN2 ?_ _ | (refine Nw.trans ?_ (by assumption)))))) (by first | exact hd | exact hd.1 | exact hd.2 | exact hd.2.1 | exact hd.2.2)).mono ?_; rintro en w5' ⟨rfl, hn5⟩)); (refine hK.out _ _ ?_ ?_ <;> first | (solve | (repeat (first | assumption | exact Nw.refl _ | refine Nw.alloc ?_ _ | refine Nw.drew ?_ | refine Nw.drewN2 ?_ _ | (refine Nw.trans ?_ (by assumption))))) | ((conv => lhs; whnf) <;> exact rfl) | exact rfl | exact congrArg (Value.int .u8) hq2 | exact congrArg (Value.int .u8) hq2' | exact hs5 | exact congrArg Value.bool hd0 | exact congrArg Value.bool (by simp))))
                  try simp only [Act.put, List.setIfInBounds_toArray, List.set_cons_zero, List.set_cons_succ, Nat.reduceAdd, List.length_nil, List.length_cons, List.nil_append, List.cons_append]
                iterate 1
                  refine Stairs.is (.bool false) ?_ ?_
                  · intro x wR hR hd K hK
                    simp only [Act.put, List.setIfInBounds_toArray, List.set_cons_zero, List.set_cons_succ, Nat.reduceAdd, List.length_nil, List.length_cons, List.nil_append, List.cons_append, Say.ok] at hK ⊢
                    clear hd
                    change Hid _ at hK
                    obtain ⟨hcR, hfR, hzR⟩ := nwc hR
                    first | (refine wanted_yes ?_ ?_; rfl) | (refine wanted_no ?_ ?_; rfl)
                    first | (refine hK.out _ _ ?_ ?_ <;> first | (solve | (repeat (first | assumption | exact Nw.refl _ | refine Nw.alloc ?_ _ | refine Nw.drew ?_ | refine Nw.drewN2 ?_ _ | (refine Nw.trans ?_ (by assumption))))) | ((conv => lhs; whnf) <;> exact rfl) | exact rfl | exact congrArg (Value.int .u8) hq2 | exact congrArg (Value.int .u8) hq2' | exact hs5 | exact congrArg Value.bool hd0 | exact congrArg Value.bool (by simp)) | (go_step; first | (refine hK.out _ _ ?_ ?_ <;> first | (solve | (repeat (first | assumption | exact Nw.refl _ | refine Nw.alloc ?_ _ | refine Nw.drew ?_ | refine Nw.drewN2 ?_ _ | (refine Nw.trans ?_ (by assumption))))) | ((conv => lhs; whnf) <;> exact rfl) | exact rfl | exact congrArg (Value.int .u8) hq2 | exact congrArg (Value.int .u8) hq2' | exact hs5 | exact congrArg Value.bool hd0 | exact congrArg Value.bool (by simp)) | ((first | (go_at_call 27; refine (HTX.out _ (hn.trans (by repeat (first | assumption | exact Nw.refl _ | refine Nw.alloc ?_ _ | refine Nw.drew ?_ | refine Nw.drewN2 ?_ _ | (refine Nw.trans ?_ (by assumption)))))).mono ?_; rintro en w5' ⟨v5, rfl, hs5, hf5, hn5⟩) | (go_at_call 26; refine (HSX.out _ _ _ (hu.nw (hn.trans (by repeat (first | assumption | exact Nw.refl _ | refine Nw.alloc ?_ _ | refine Nw.drew ?_ | refine Nw.drewN2 ?_ _ | (refine Nw.trans ?_ (by assumption)))))) (by first | exact hd | exact hd.1 | exact hd.2 | exact hd.2.1 | exact hd.2.2)).mono ?_; rintro en w5' ⟨rfl, hn5⟩)); (refine hK.out _ _ ?_ ?_ <;> first | (solve | (repeat (first | assumption | exact Nw.refl _ | refine Nw.alloc ?_ _ | refine Nw.drew ?_ | refine Nw.drewN2 ?_ _ | (refine Nw.trans ?_ (by assumption))))) | ((conv => lhs; whnf) <;> exact rfl) | exact rfl | exact congrArg (Value.int .u8) hq2 | exact congrArg (Value.int .u8) hq2' | exact hs5 | exact congrArg Value.bool hd0 | exact congrArg Value.bool (by simp))))
                  try simp only [Act.put, List.setIfInBounds_toArray, List.set_cons_zero, List.set_cons_succ, Nat.reduceAdd, List.length_nil, List.length_cons, List.nil_append, List.cons_append]
                iterate 8
                  refine Stairs.is ?_ ?_ ?_
                  rotate_left 1
                  · intro x wR hR hd K hK
                    simp only [Act.put, List.setIfInBounds_toArray, List.set_cons_zero, List.set_cons_succ, Nat.reduceAdd, List.length_nil, List.length_cons, List.nil_append, List.cons_append, Say.ok] at hK ⊢
                    clear hd
                    change Hid _ at hK
                    obtain ⟨hcR, hfR, hzR⟩ := nwc hR
                    first | (refine wanted_yes ?_ ?_; rfl) | (refine wanted_no ?_ ?_; rfl)
                    first | (refine hK.out _ _ ?_ ?_ <;> first | (solve | (repeat (first | assumption | exact Nw.refl _ | refine Nw.alloc ?_ _ | refine Nw.drew ?_ | refine Nw.drewN2 ?_ _ | (refine Nw.trans ?_ (by assumption))))) | ((conv => lhs; whnf) <;> exact rfl) | exact rfl | exact congrArg (Value.int .u8) hq2 | exact congrArg (Value.int .u8) hq2' | exact hs5 | exact congrArg Value.bool hd0 | exact congrArg Value.bool (by simp)) | (go_step; first | (refine hK.out _ _ ?_ ?_ <;> first | (solve | (repeat (first | assumption | exact Nw.refl _ | refine Nw.alloc ?_ _ | refine Nw.drew ?_ | refine Nw.drewN2 ?_ _ | (refine Nw.trans ?_ (by assumption))))) | ((conv => lhs; whnf) <;> exact rfl) | exact rfl | exact congrArg (Value.int .u8) hq2 | exact congrArg (Value.int .u8) hq2' | exact hs5 | exact congrArg Value.bool hd0 | exact congrArg Value.bool (by simp)) | ((first | (go_at_call 27; refine (HTX.out _ (hn.trans (by repeat (first | assumption | exact Nw.refl _ | refine Nw.alloc ?_ _ | refine Nw.drew ?_ | refine Nw.drewN2 ?_ _ | (refine Nw.trans ?_ (by assumption)))))).mono ?_; rintro en w5' ⟨v5, rfl, hs5, hf5, hn5⟩) | (go_at_call 26; refine (HSX.out _ _ _ (hu.nw (hn.trans (by repeat (first | assumption | exact Nw.refl _ | refine Nw.alloc ?_ _ | refine Nw.drew ?_ | refine Nw.drewN2 ?_ _ | (refine Nw.trans ?_ (by assumption)))))) (by first | exact hd | exact hd.1 | exact hd.2 | exact hd.2.1 | exact hd.2.2)).mono ?_; rintro en w5' ⟨rfl, hn5⟩)); (refine hK.out _ _ ?_ ?_ <;> first | (solve | (repeat (first | assumption | exact Nw.refl _ | refine Nw.alloc ?_ _ | refine Nw.drew ?_ | refine Nw.drewN2 ?_ _ | (refine Nw.trans ?_ (by assumption))))) | ((conv => lhs; whnf) <;> exact rfl) | exact rfl | exact congrArg (Value.int .u8) hq2 | exact congrArg (Value.int .u8) hq2' | exact hs5 | exact congrArg Value.bool hd0 | exact congrArg Value.bool (by simp))))
                  try simp only [Act.put, List.setIfInBounds_toArray, List.set_cons_zero, List.set_cons_succ, Nat.reduceAdd, List.length_nil, List.length_cons, List.nil_append, List.cons_append]
                iterate 1
                  refine Stairs.that (TrS ty) (by first | assumption | simp) ?_ ?_
                  · intro x wR hR hd K hK
                    simp only [Act.put, List.setIfInBounds_toArray, List.set_cons_zero, List.set_cons_succ, Nat.reduceAdd, List.length_nil, List.length_cons, List.nil_append, List.cons_append, Say.ok] at hK ⊢
                    clear hd
                    change Hid _ at hK
                    obtain ⟨hcR, hfR, hzR⟩ := nwc hR
                    first | (refine wanted_yes ?_ ?_; rfl) | (refine wanted_no ?_ ?_; rfl)
                    first | (refine hK.out _ _ ?_ ?_ <;> first | (solve | (repeat (first | assumption | exact Nw.refl _ | refine Nw.alloc ?_ _ | refine Nw.drew ?_ | refine Nw.drewN2 ?_ _ | (refine Nw.trans ?_ (by assumption))))) | ((conv => lhs; whnf) <;> exact rfl) | exact rfl | exact congrArg (Value.int .u8) hq2 | exact congrArg (Value.int .u8) hq2' | exact hs5 | exact congrArg Value.bool hd0 | exact congrArg Value.bool (by simp)) | (go_step; first | (refine hK.out _ _ ?_ ?_ <;> first | (solve | (repeat (first | assumption | exact Nw.refl _ | refine Nw.alloc ?_ _ | refine Nw.drew ?_ | refine Nw.drewN2 ?_ _ | (refine Nw.trans ?_ (by assumption))))) | ((conv => lhs; whnf) <;> exact rfl) | exact rfl | exact congrArg (Value.int .u8) hq2 | exact congrArg (Value.int .u8) hq2' | exact hs5 | exact congrArg Value.bool hd0 | exact congrArg Value.bool (by simp)) | ((first | (go_at_call 27; refine (HTX.out _ (hn.trans (by repeat (first | assumption | exact Nw.refl _ | refine Nw.alloc ?_ _ | refine Nw.drew ?_ | refine Nw.drewN2 ?_ _ | (refine Nw.trans ?_ (by assumption)))))).mono ?_; rintro en w5' ⟨v5, rfl, hs5, hf5, hn5⟩) | (go_at_call 26; refine (HSX.out _ _ _ (hu.nw (hn.trans (by repeat (first | assumption | exact Nw.refl _ | refine Nw.alloc ?_ _ | refine Nw.drew ?_ | refine Nw.drewN2 ?_ _ | (refine Nw.trans ?_ (by assumption)))))) (by first | exact hd | exact hd.1 | exact hd.2 | exact hd.2.1 | exact hd.2.2)).mono ?_; rintro en w5' ⟨rfl, hn5⟩)); (refine hK.out _ _ ?_ ?_ <;> first | (solve | (repeat (first | assumption | exact Nw.refl _ | refine Nw.alloc ?_ _ | refine Nw.drew ?_ | refine Nw.drewN2 ?_ _ | (refine Nw.trans ?_ (by assumption))))) | ((conv => lhs; whnf) <;> exact rfl) | exact rfl | exact congrArg (Value.int .u8) hq2 | exact congrArg (Value.int .u8) hq2' | exact hs5 | exact congrArg Value.bool hd0 | exact congrArg Value.bool (by simp))))
                  try simp only [Act.put, List.setIfInBounds_toArray, List.set_cons_zero, List.set_cons_succ, Nat.reduceAdd, List.length_nil, List.length_cons, List.nil_append, List.cons_append]
                iterate 1
                  refine Stairs.is ?_ ?_ ?_
                  rotate_left 1
                  · intro x wR hR hd K hK
                    simp only [Act.put, List.setIfInBounds_toArray, List.set_cons_zero, List.set_cons_succ, Nat.reduceAdd, List.length_nil, List.length_cons, List.nil_append, List.cons_append, Say.ok] at hK ⊢
                    try simp [Region.binds, sayAt, List.getD_cons_zero, List.getD_cons_succ, Say.ok, Vl] at hd
                    change Hid _ at hK
                    obtain ⟨hcR, hfR, hzR⟩ := nwc hR
                    first | (refine wanted_yes ?_ ?_; rfl) | (refine wanted_no ?_ ?_; rfl)
                    first | (refine hK.out _ _ ?_ ?_ <;> first | (solve | (repeat (first | assumption | exact Nw.refl _ | refine Nw.alloc ?_ _ | refine Nw.drew ?_ | refine Nw.drewN2 ?_ _ | (refine Nw.trans ?_ (by assumption))))) | ((conv => lhs; whnf) <;> exact rfl) | exact rfl | exact congrArg (Value.int .u8) hq2 | exact congrArg (Value.int .u8) hq2' | exact hs5 | exact congrArg Value.bool hd0 | exact congrArg Value.bool (by simp)) | (go_step; first | (refine hK.out _ _ ?_ ?_ <;> first | (solve | (repeat (first | assumption | exact Nw.refl _ | refine Nw.alloc ?_ _ | refine Nw.drew ?_ | refine Nw.drewN2 ?_ _ | (refine Nw.trans ?_ (by assumption))))) | ((conv => lhs; whnf) <;> exact rfl) | exact rfl | exact congrArg (Value.int .u8) hq2 | exact congrArg (Value.int .u8) hq2' | exact hs5 | exact congrArg Value.bool hd0 | exact congrArg Value.bool (by simp)) | ((first | (go_at_call 27; refine (HTX.out _ (hn.trans (by repeat (first | assumption | exact Nw.refl _ | refine Nw.alloc ?_ _ | refine Nw.drew ?_ | refine Nw.drewN2 ?_ _ | (refine Nw.trans ?_ (by assumption)))))).mono ?_; rintro en w5' ⟨v5, rfl, hs5, hf5, hn5⟩) | (go_at_call 26; refine (HSX.out _ _ _ (hu.nw (hn.trans (by repeat (first | assumption | exact Nw.refl _ | refine Nw.alloc ?_ _ | refine Nw.drew ?_ | refine Nw.drewN2 ?_ _ | (refine Nw.trans ?_ (by assumption)))))) (by first | exact hd | exact hd.1 | exact hd.2 | exact hd.2.1 | exact hd.2.2)).mono ?_; rintro en w5' ⟨rfl, hn5⟩)); (refine hK.out _ _ ?_ ?_ <;> first | (solve | (repeat (first | assumption | exact Nw.refl _ | refine Nw.alloc ?_ _ | refine Nw.drew ?_ | refine Nw.drewN2 ?_ _ | (refine Nw.trans ?_ (by assumption))))) | ((conv => lhs; whnf) <;> exact rfl) | exact rfl | exact congrArg (Value.int .u8) hq2 | exact congrArg (Value.int .u8) hq2' | exact hs5 | exact congrArg Value.bool hd0 | exact congrArg Value.bool (by simp))))
                  try simp only [Act.put, List.setIfInBounds_toArray, List.set_cons_zero, List.set_cons_succ, Nat.reduceAdd, List.length_nil, List.length_cons, List.nil_append, List.cons_append]
                iterate 10
                  refine Stairs.is ?_ ?_ ?_
                  rotate_left 1
                  · intro x wR hR hd K hK
                    simp only [Act.put, List.setIfInBounds_toArray, List.set_cons_zero, List.set_cons_succ, Nat.reduceAdd, List.length_nil, List.length_cons, List.nil_append, List.cons_append, Say.ok] at hK ⊢
                    clear hd
                    change Hid _ at hK
                    obtain ⟨hcR, hfR, hzR⟩ := nwc hR
                    first | (refine wanted_yes ?_ ?_; rfl) | (refine wanted_no ?_ ?_; rfl)
                    first | (refine hK.out _ _ ?_ ?_ <;> first | (solve | (repeat (first | assumption | exact Nw.refl _ | refine Nw.alloc ?_ _ | refine Nw.drew ?_ | refine Nw.drewN2 ?_ _ | (refine Nw.trans ?_ (by assumption))))) | ((conv => lhs; whnf) <;> exact rfl) | exact rfl | exact congrArg (Value.int .u8) hq2 | exact congrArg (Value.int .u8) hq2' | exact hs5 | exact congrArg Value.bool hd0 | exact congrArg Value.bool (by simp)) | (go_step; first | (refine hK.out _ _ ?_ ?_ <;> first | (solve | (repeat (first | assumption | exact Nw.refl _ | refine Nw.alloc ?_ _ | refine Nw.drew ?_ | refine Nw.drewN2 ?_ _ | (refine Nw.trans ?_ (by assumption))))) | ((conv => lhs; whnf) <;> exact rfl) | exact rfl | exact congrArg (Value.int .u8) hq2 | exact congrArg (Value.int .u8) hq2' | exact hs5 | exact congrArg Value.bool hd0 | exact congrArg Value.bool (by simp)) | ((first | (go_at_call 27; refine (HTX.out _ (hn.trans (by repeat (first | assumption | exact Nw.refl _ | refine Nw.alloc ?_ _ | refine Nw.drew ?_ | refine Nw.drewN2 ?_ _ | (refine Nw.trans ?_ (by assumption)))))).mono ?_; rintro en w5' ⟨v5, rfl, hs5, hf5, hn5⟩) | (go_at_call 26; refine (HSX.out _ _ _ (hu.nw (hn.trans (by repeat (first | assumption | exact Nw.refl _ | refine Nw.alloc ?_ _ | refine Nw.drew ?_ | refine Nw.drewN2 ?_ _ | (refine Nw.trans ?_ (by assumption)))))) (by first | exact hd | exact hd.1 | exact hd.2 | exact hd.2.1 | exact hd.2.2)).mono ?_; rintro en w5' ⟨rfl, hn5⟩)); (refine hK.out _ _ ?_ ?_ <;> first | (solve | (repeat (first | assumption | exact Nw.refl _ | refine Nw.alloc ?_ _ | refine Nw.drew ?_ | refine Nw.drewN2 ?_ _ | (refine Nw.trans ?_ (by assumption))))) | ((conv => lhs; whnf) <;> exact rfl) | exact rfl | exact congrArg (Value.int .u8) hq2 | exact congrArg (Value.int .u8) hq2' | exact hs5 | exact congrArg Value.bool hd0 | exact congrArg Value.bool (by simp))))
                  try simp only [Act.put, List.setIfInBounds_toArray, List.set_cons_zero, List.set_cons_succ, Nat.reduceAdd, List.length_nil, List.length_cons, List.nil_append, List.cons_append]
                iterate 1
                  refine Stairs.is (.bool false) ?_ ?_
                  · intro x wR hR hd K hK
                    simp only [Act.put, List.setIfInBounds_toArray, List.set_cons_zero, List.set_cons_succ, Nat.reduceAdd, List.length_nil, List.length_cons, List.nil_append, List.cons_append, Say.ok] at hK ⊢
                    clear hd
                    change Hid _ at hK
                    obtain ⟨hcR, hfR, hzR⟩ := nwc hR
                    first | (refine wanted_yes ?_ ?_; rfl) | (refine wanted_no ?_ ?_; rfl)
                    first | (refine hK.out _ _ ?_ ?_ <;> first | (solve | (repeat (first | assumption | exact Nw.refl _ | refine Nw.alloc ?_ _ | refine Nw.drew ?_ | refine Nw.drewN2 ?_ _ | (refine Nw.trans ?_ (by assumption))))) | ((conv => lhs; whnf) <;> exact rfl) | exact rfl | exact congrArg (Value.int .u8) hq2 | exact congrArg (Value.int .u8) hq2' | exact hs5 | exact congrArg Value.bool hd0 | exact congrArg Value.bool (by simp)) | (go_step; first | (refine hK.out _ _ ?_ ?_ <;> first | (solve | (repeat (first | assumption | exact Nw.refl _ | refine Nw.alloc ?_ _ | refine Nw.drew ?_ | refine Nw.drewN2 ?_ _ | (refine Nw.trans ?_ (by assumption))))) | ((conv => lhs; whnf) <;> exact rfl) | exact rfl | exact congrArg (Value.int .u8) hq2 | exact congrArg (Value.int .u8) hq2' | exact hs5 | exact congrArg Value.bool hd0 | exact congrArg Value.bool (by simp)) | ((first | (go_at_call 27; refine (HTX.out _ (hn.trans (by repeat (first | assumption | exact Nw.refl _ | refine Nw.alloc ?_ _ | refine Nw.drew ?_ | refine Nw.drewN2 ?_ _ | (refine Nw.trans ?_ (by assumption)))))).mono ?_; rintro en w5' ⟨v5, rfl, hs5, hf5, hn5⟩) | (go_at_call 26; refine (HSX.out _ _ _ (hu.nw (hn.trans (by repeat (first | assumption | exact Nw.refl _ | refine Nw.alloc ?_ _ | refine Nw.drew ?_ | refine Nw.drewN2 ?_ _ | (refine Nw.trans ?_ (by assumption)))))) (by first | exact hd | exact hd.1 | exact hd.2 | exact hd.2.1 | exact hd.2.2)).mono ?_; rintro en w5' ⟨rfl, hn5⟩)); (refine hK.out _ _ ?_ ?_ <;> first | (solve | (repeat (first | assumption | exact Nw.refl _ | refine Nw.alloc ?_ _ | refine Nw.drew ?_ | refine Nw.drewN2 ?_ _ | (refine Nw.trans ?_ (by assumption))))) | ((conv => lhs; whnf) <;> exact rfl) | exact rfl | exact congrArg (Value.int .u8) hq2 | exact congrArg (Value.int .u8) hq2' | exact hs5 | exact congrArg Value.bool hd0 | exact congrArg Value.bool (by simp))))
                  try simp only [Act.put, List.setIfInBounds_toArray, List.set_cons_zero, List.set_cons_succ, Nat.reduceAdd, List.length_nil, List.length_cons, List.nil_append, List.cons_append]
                iterate 17
                  refine Stairs.is ?_ ?_ ?_
                  rotate_left 1
                  · intro x wR hR hd K hK
                    simp only [Act.put, List.setIfInBounds_toArray, List.set_cons_zero, List.set_cons_succ, Nat.reduceAdd, List.length_nil, List.length_cons, List.nil_append, List.cons_append, Say.ok] at hK ⊢
                    clear hd
                    change Hid _ at hK
                    obtain ⟨hcR, hfR, hzR⟩ := nwc hR
                    first | (refine wanted_yes ?_ ?_; rfl) | (refine wanted_no ?_ ?_; rfl)
                    first | (refine hK.out _ _ ?_ ?_ <;> first | (solve | (repeat (first | assumption | exact Nw.refl _ | refine Nw.alloc ?_ _ | refine Nw.drew ?_ | refine Nw.drewN2 ?_ _ | (refine Nw.trans ?_ (by assumption))))) | ((conv => lhs; whnf) <;> exact rfl) | exact rfl | exact congrArg (Value.int .u8) hq2 | exact congrArg (Value.int .u8) hq2' | exact hs5 | exact congrArg Value.bool hd0 | exact congrArg Value.bool (by simp)) | (go_step; first | (refine hK.out _ _ ?_ ?_ <;> first | (solve | (repeat (first | assumption | exact Nw.refl _ | refine Nw.alloc ?_ _ | refine Nw.drew ?_ | refine Nw.drewN2 ?_ _ | (refine Nw.trans ?_ (by assumption))))) | ((conv => lhs; whnf) <;> exact rfl) | exact rfl | exact congrArg (Value.int .u8) hq2 | exact congrArg (Value.int .u8) hq2' | exact hs5 | exact congrArg Value.bool hd0 | exact congrArg Value.bool (by simp)) | ((first | (go_at_call 27; refine (HTX.out _ (hn.trans (by repeat (first | assumption | exact Nw.refl _ | refine Nw.alloc ?_ _ | refine Nw.drew ?_ | refine Nw.drewN2 ?_ _ | (refine Nw.trans ?_ (by assumption)))))).mono ?_; rintro en w5' ⟨v5, rfl, hs5, hf5, hn5⟩) | (go_at_call 26; refine (HSX.out _ _ _ (hu.nw (hn.trans (by repeat (first | assumption | exact Nw.refl _ | refine Nw.alloc ?_ _ | refine Nw.drew ?_ | refine Nw.drewN2 ?_ _ | (refine Nw.trans ?_ (by assumption)))))) (by first | exact hd | exact hd.1 | exact hd.2 | exact hd.2.1 | exact hd.2.2)).mono ?_; rintro en w5' ⟨rfl, hn5⟩)); (refine hK.out _ _ ?_ ?_ <;> first | (solve | (repeat (first | assumption | exact Nw.refl _ | refine Nw.alloc ?_ _ | refine Nw.drew ?_ | refine Nw.drewN2 ?_ _ | (refine Nw.trans ?_ (by assumption))))) | ((conv => lhs; whnf) <;> exact rfl) | exact rfl | exact congrArg (Value.int .u8) hq2 | exact congrArg (Value.int .u8) hq2' | exact hs5 | exact congrArg Value.bool hd0 | exact congrArg Value.bool (by simp))))
                  try simp only [Act.put, List.setIfInBounds_toArray, List.set_cons_zero, List.set_cons_succ, Nat.reduceAdd, List.length_nil, List.length_cons, List.nil_append, List.cons_append]
                refine Stairs.nil ?_
                intro x wR hR hx
                clear hx
                obtain ⟨hcR, hfR, hzR⟩ := nwc hR
                replace hn := hn.trans hR
                clear hcR hfR hzR hR g0 f0 f1 gN gN8 c3 c4 gg
                have HGL := hid (getM_len m1 xs xv)
                have HLN := hid (fun w' (h : Nw w6 w') => len_st (hst5.nw h))
                have hml1 := HML.out.1
                have hml2 := HML.out.2
                have hrm := HRM.out
                rw [← HGL.out] at hml1 hml2
                have HST := hid hst5
                clear HGL hst5
                generalize hmq : (getM m1 xs xv).l.length = ml at HLN hml1 hml2
                clear hmq HML HRM HFT HC
                have hdm2 : decide ((k : Int) + 1 < (ml : Int)) = false := decide_eq_false (by omega)
                go_upto_region 21 with fail
                go_wp2_with (first
                  | (go_at_call 28; refine (HLN.out _ hn).mono ?_; rintro en u1 ⟨rfl, hn5⟩; have hnL := hn.trans hn5; clear hn5)
                  | (go_at_call 28; refine (HLN.out _ hnL).mono ?_; rintro en u2 ⟨rfl, hn6⟩; have hnM := hnL.trans hn6; clear hn6)
                  | fail)
                all_goals first | (exfalso; omega) | skip
                all_goals (go_roundw; (case rel => exact ⟨k + 1, _, by omega, by go_num, HST.out.nw hnM, hid (inv_get HIV.out xs xv)⟩); (case measure => (simp [intOf] <;> omega)))
              | false =>
                have HN0 := HNO.out (by first | exact trivial | rfl)
                obtain ⟨rfl, rfl⟩ : gs = [] ∧ ge = false := by simpa using HN0
                clear HN0 HNO HTO
                have y7j := hn.heap y75
                have y8j := hn.heap y8
                have g0 := heap_cell y7j 0
                have f0 := heap_cell y8j 0
                have f1 := heap_cell y8j 1
                have gN := lt_of_heap y7j
                have gN8 := lt_of_heap y8j
                simp only [List.getElem?_toArray, List.getElem?_cons_succ, List.getElem?_cons_zero, List.length_nil] at g0 f0 f1
                clear y8j y7j lb1 lb2 hqb hj hltj HXP HTC HTD
                go_upto_region 19 with fail
                refine wp_region_stairs (by kernel_rfl) (by kernel_rfl) (by kernel_rfl) ?_
                iterate 2
                  refine Stairs.is ?_ ?_ ?_
                  rotate_left 1
                  · intro x wR hR hd K hK
                    simp only [Act.put, List.setIfInBounds_toArray, List.set_cons_zero, List.set_cons_succ, Nat.reduceAdd, List.length_nil, List.length_cons, List.nil_append, List.cons_append, Say.ok] at hK ⊢
                    clear hd
                    change Hid _ at hK
                    obtain ⟨hcR, hfR, hzR⟩ := nwc hR
                    first | (refine wanted_yes ?_ ?_; rfl) | (refine wanted_no ?_ ?_; rfl)
                    first | (refine hK.out _ _ ?_ ?_ <;> first | (solve | (repeat (first | assumption | exact Nw.refl _ | refine Nw.alloc ?_ _ | refine Nw.drew ?_ | refine Nw.drewN2 ?_ _ | (refine Nw.trans ?_ (by assumption))))) | ((conv => lhs; whnf) <;> exact rfl) | exact rfl | exact congrArg (Value.int .u8) hq2 | exact congrArg (Value.int .u8) hq2' | exact hs5 | exact congrArg Value.bool hd0 | exact congrArg Value.bool (by simp)) | (go_step; first | (refine hK.out _ _ ?_ ?_ <;> first | (solve | (repeat (first | assumption | exact Nw.refl _ | refine Nw.alloc ?_ _ | refine Nw.drew ?_ | refine Nw.drewN2 ?_ _ | (refine Nw.trans ?_ (by assumption))))) | ((conv => lhs; whnf) <;> exact rfl) | exact rfl | exact congrArg (Value.int .u8) hq2 | exact congrArg (Value.int .u8) hq2' | exact hs5 | exact congrArg Value.bool hd0 | exact congrArg Value.bool (by simp)) | ((first | fail); (refine hK.out _ _ ?_ ?_ <;> first | (solve | (repeat (first | assumption | exact Nw.refl _ | refine Nw.alloc ?_ _ | refine Nw.drew ?_ | refine Nw.drewN2 ?_ _ | (refine Nw.trans ?_ (by assumption))))) | ((conv => lhs; whnf) <;> exact rfl) | exact rfl | exact congrArg (Value.int .u8) hq2 | exact congrArg (Value.int .u8) hq2' | exact hs5 | exact congrArg Value.bool hd0 | exact congrArg Value.bool (by simp))))
                  try simp only [Act.put, List.setIfInBounds_toArray, List.set_cons_zero, List.set_cons_succ, Nat.reduceAdd, List.length_nil, List.length_cons, List.nil_append, List.cons_append]
                iterate 1
                  refine Stairs.is (.int .u8 0) ?_ ?_
                  · intro x wR hR hd K hK
                    simp only [Act.put, List.setIfInBounds_toArray, List.set_cons_zero, List.set_cons_succ, Nat.reduceAdd, List.length_nil, List.length_cons, List.nil_append, List.cons_append, Say.ok] at hK ⊢
                    clear hd
                    change Hid _ at hK
                    obtain ⟨hcR, hfR, hzR⟩ := nwc hR
                    first | (refine wanted_yes ?_ ?_; rfl) | (refine wanted_no ?_ ?_; rfl)
                    first | (refine hK.out _ _ ?_ ?_ <;> first | (solve | (repeat (first | assumption | exact Nw.refl _ | refine Nw.alloc ?_ _ | refine Nw.drew ?_ | refine Nw.drewN2 ?_ _ | (refine Nw.trans ?_ (by assumption))))) | ((conv => lhs; whnf) <;> exact rfl) | exact rfl | exact congrArg (Value.int .u8) hq2 | exact congrArg (Value.int .u8) hq2' | exact hs5 | exact congrArg Value.bool hd0 | exact congrArg Value.bool (by simp)) | (go_step; first | (refine hK.out _ _ ?_ ?_ <;> first | (solve | (repeat (first | assumption | exact Nw.refl _ | refine Nw.alloc ?_ _ | refine Nw.drew ?_ | refine Nw.drewN2 ?_ _ | (refine Nw.trans ?_ (by assumption))))) | ((conv => lhs; whnf) <;> exact rfl) | exact rfl | exact congrArg (Value.int .u8) hq2 | exact congrArg (Value.int .u8) hq2' | exact hs5 | exact congrArg Value.bool hd0 | exact congrArg Value.bool (by simp)) | ((first | fail); (refine hK.out _ _ ?_ ?_ <;> first | (solve | (repeat (first | assumption | exact Nw.refl _ | refine Nw.alloc ?_ _ | refine Nw.drew ?_ | refine Nw.drewN2 ?_ _ | (refine Nw.trans ?_ (by assumption))))) | ((conv => lhs; whnf) <;> exact rfl) | exact rfl | exact congrArg (Value.int .u8) hq2 | exact congrArg (Value.int .u8) hq2' | exact hs5 | exact congrArg Value.bool hd0 | exact congrArg Value.bool (by simp))))
                  try simp only [Act.put, List.setIfInBounds_toArray, List.set_cons_zero, List.set_cons_succ, Nat.reduceAdd, List.length_nil, List.length_cons, List.nil_append, List.cons_append]
                iterate 40
                  refine Stairs.is ?_ ?_ ?_
                  rotate_left 1
                  · intro x wR hR hd K hK
                    simp only [Act.put, List.setIfInBounds_toArray, List.set_cons_zero, List.set_cons_succ, Nat.reduceAdd, List.length_nil, List.length_cons, List.nil_append, List.cons_append, Say.ok] at hK ⊢
                    clear hd
                    change Hid _ at hK
                    obtain ⟨hcR, hfR, hzR⟩ := nwc hR
                    first | (refine wanted_yes ?_ ?_; rfl) | (refine wanted_no ?_ ?_; rfl)
                    first | (refine hK.out _ _ ?_ ?_ <;> first | (solve | (repeat (first | assumption | exact Nw.refl _ | refine Nw.alloc ?_ _ | refine Nw.drew ?_ | refine Nw.drewN2 ?_ _ | (refine Nw.trans ?_ (by assumption))))) | ((conv => lhs; whnf) <;> exact rfl) | exact rfl | exact congrArg (Value.int .u8) hq2 | exact congrArg (Value.int .u8) hq2' | exact hs5 | exact congrArg Value.bool hd0 | exact congrArg Value.bool (by simp)) | (go_step; first | (refine hK.out _ _ ?_ ?_ <;> first | (solve | (repeat (first | assumption | exact Nw.refl _ | refine Nw.alloc ?_ _ | refine Nw.drew ?_ | refine Nw.drewN2 ?_ _ | (refine Nw.trans ?_ (by assumption))))) | ((conv => lhs; whnf) <;> exact rfl) | exact rfl | exact congrArg (Value.int .u8) hq2 | exact congrArg (Value.int .u8) hq2' | exact hs5 | exact congrArg Value.bool hd0 | exact congrArg Value.bool (by simp)) | ((first | fail); (refine hK.out _ _ ?_ ?_ <;> first | (solve | (repeat (first | assumption | exact Nw.refl _ | refine Nw.alloc ?_ _ | refine Nw.drew ?_ | refine Nw.drewN2 ?_ _ | (refine Nw.trans ?_ (by assumption))))) | ((conv => lhs; whnf) <;> exact rfl) | exact rfl | exact congrArg (Value.int .u8) hq2 | exact congrArg (Value.int .u8) hq2' | exact hs5 | exact congrArg Value.bool hd0 | exact congrArg Value.bool (by simp))))
                  try simp only [Act.put, List.setIfInBounds_toArray, List.set_cons_zero, List.set_cons_succ, Nat.reduceAdd, List.length_nil, List.length_cons, List.nil_append, List.cons_append]
                iterate 1
                  refine Stairs.is (.int .i64 0) ?_ ?_
                  · intro x wR hR hd K hK
                    simp only [Act.put, List.setIfInBounds_toArray, List.set_cons_zero, List.set_cons_succ, Nat.reduceAdd, List.length_nil, List.length_cons, List.nil_append, List.cons_append, Say.ok] at hK ⊢
                    clear hd
                    change Hid _ at hK
                    obtain ⟨hcR, hfR, hzR⟩ := nwc hR
                    first | (refine wanted_yes ?_ ?_; rfl) | (refine wanted_no ?_ ?_; rfl)
                    first | (refine hK.out _ _ ?_ ?_ <;> first | (solve | (repeat (first | assumption | exact Nw.refl _ | refine Nw.alloc ?_ _ | refine Nw.drew ?_ | refine Nw.drewN2 ?_ _ | (refine Nw.trans ?_ (by assumption))))) | ((conv => lhs; whnf) <;> exact rfl) | exact rfl | exact congrArg (Value.int .u8) hq2 | exact congrArg (Value.int .u8) hq2' | exact hs5 | exact congrArg Value.bool hd0 | exact congrArg Value.bool (by simp)) | (go_step; first | (refine hK.out _ _ ?_ ?_ <;> first | (solve | (repeat (first | assumption | exact Nw.refl _ | refine Nw.alloc ?_ _ | refine Nw.drew ?_ | refine Nw.drewN2 ?_ _ | (refine Nw.trans ?_ (by assumption))))) | ((conv => lhs; whnf) <;> exact rfl) | exact rfl | exact congrArg (Value.int .u8) hq2 | exact congrArg (Value.int .u8) hq2' | exact hs5 | exact congrArg Value.bool hd0 | exact congrArg Value.bool (by simp)) | ((first | fail); (refine hK.out _ _ ?_ ?_ <;> first | (solve | (repeat (first | assumption | exact Nw.refl _ | refine Nw.alloc ?_ _ | refine Nw.drew ?_ | refine Nw.drewN2 ?_ _ | (refine Nw.trans ?_ (by assumption))))) | ((conv => lhs; whnf) <;> exact rfl) | exact rfl | exact congrArg (Value.int .u8) hq2 | exact congrArg (Value.int .u8) hq2' | exact hs5 | exact congrArg Value.bool hd0 | exact congrArg Value.bool (by simp))))
                  try simp only [Act.put, List.setIfInBounds_toArray, List.set_cons_zero, List.set_cons_succ, Nat.reduceAdd, List.length_nil, List.length_cons, List.nil_append, List.cons_append]
                iterate 1
                  refine Stairs.is (.bool false) ?_ ?_
                  · intro x wR hR hd K hK
                    simp only [Act.put, List.setIfInBounds_toArray, List.set_cons_zero, List.set_cons_succ, Nat.reduceAdd, List.length_nil, List.length_cons, List.nil_append, List.cons_append, Say.ok] at hK ⊢
                    clear hd
                    change Hid _ at hK
                    obtain ⟨hcR, hfR, hzR⟩ := nwc hR
                    first | (refine wanted_yes ?_ ?_; rfl) | (refine wanted_no ?_ ?_; rfl)
                    first | (refine hK.out _ _ ?_ ?_ <;> first | (solve | (repeat (first | assumption | exact Nw.refl _ | refine Nw.alloc ?_ _ | refine Nw.drew ?_ | refine Nw.drewN2 ?_ _ | (refine Nw.trans ?_ (by assumption))))) | ((conv => lhs; whnf) <;> exact rfl) | exact rfl | exact congrArg (Value.int .u8) hq2 | exact congrArg (Value.int .u8) hq2' | exact hs5 | exact congrArg Value.bool hd0 | exact congrArg Value.bool (by simp)) | (go_step; first | (refine hK.out _ _ ?_ ?_ <;> first | (solve | (repeat (first | assumption | exact Nw.refl _ | refine Nw.alloc ?_ _ | refine Nw.drew ?_ | refine Nw.drewN2 ?_ _ | (refine Nw.trans ?_ (by assumption))))) | ((conv => lhs; whnf) <;> exact rfl) | exact rfl | exact congrArg (Value.int .u8) hq2 | exact congrArg (Value.int .u8) hq2' | exact hs5 | exact congrArg Value.bool hd0 | exact congrArg Value.bool (by simp)) | ((first | fail); (refine hK.out _ _ ?_ ?_ <;> first | (solve | (repeat (first | assumption | exact Nw.refl _ | refine Nw.alloc ?_ _ | refine Nw.drew ?_ | refine Nw.drewN2 ?_ _ | (refine Nw.trans ?_ (by assumption))))) | ((conv => lhs; whnf) <;> exact rfl) | exact rfl | exact congrArg (Value.int .u8) hq2 | exact congrArg (Value.int .u8) hq2' | exact hs5 | exact congrArg Value.bool hd0 | exact congrArg Value.bool (by simp))))
                  try simp only [Act.put, List.setIfInBounds_toArray, List.set_cons_zero, List.set_cons_succ, Nat.reduceAdd, List.length_nil, List.length_cons, List.nil_append, List.cons_append]
                iterate 6
                  refine Stairs.is ?_ ?_ ?_
                  rotate_left 1
                  · intro x wR hR hd K hK
                    simp only [Act.put, List.setIfInBounds_toArray, List.set_cons_zero, List.set_cons_succ, Nat.reduceAdd, List.length_nil, List.length_cons, List.nil_append, List.cons_append, Say.ok] at hK ⊢
                    clear hd
                    change Hid _ at hK
                    obtain ⟨hcR, hfR, hzR⟩ := nwc hR
                    first | (refine wanted_yes ?_ ?_; rfl) | (refine wanted_no ?_ ?_; rfl)
                    first | (refine hK.out _ _ ?_ ?_ <;> first | (solve | (repeat (first | assumption | exact Nw.refl _ | refine Nw.alloc ?_ _ | refine Nw.drew ?_ | refine Nw.drewN2 ?_ _ | (refine Nw.trans ?_ (by assumption))))) | ((conv => lhs; whnf) <;> exact rfl) | exact rfl | exact congrArg (Value.int .u8) hq2 | exact congrArg (Value.int .u8) hq2' | exact hs5 | exact congrArg Value.bool hd0 | exact congrArg Value.bool (by simp)) | (go_step; first | (refine hK.out _ _ ?_ ?_ <;> first | (solve | (repeat (first | assumption | exact Nw.refl _ | refine Nw.alloc ?_ _ | refine Nw.drew ?_ | refine Nw.drewN2 ?_ _ | (refine Nw.trans ?_ (by assumption))))) | ((conv => lhs; whnf) <;> exact rfl) | exact rfl | exact congrArg (Value.int .u8) hq2 | exact congrArg (Value.int .u8) hq2' | exact hs5 | exact congrArg Value.bool hd0 | exact congrArg Value.bool (by simp)) | ((first | fail); (refine hK.out _ _ ?_ ?_ <;> first | (solve | (repeat (first | assumption | exact Nw.refl _ | refine Nw.alloc ?_ _ | refine Nw.drew ?_ | refine Nw.drewN2 ?_ _ | (refine Nw.trans ?_ (by assumption))))) | ((conv => lhs; whnf) <;> exact rfl) | exact rfl | exact congrArg (Value.int .u8) hq2 | exact congrArg (Value.int .u8) hq2' | exact hs5 | exact congrArg Value.bool hd0 | exact congrArg Value.bool (by simp))))
                  try simp only [Act.put, List.setIfInBounds_toArray, List.set_cons_zero, List.set_cons_succ, Nat.reduceAdd, List.length_nil, List.length_cons, List.nil_append, List.cons_append]
                refine Stairs.nil ?_
                intro x wR hR hx
                clear hx
                obtain ⟨hcR, hfR, hzR⟩ := nwc hR
                replace hn := hn.trans hR
                clear hcR hfR hzR hR g0 f0 f1 gN gN8
                have HGL := hid (getM_len m1 xs xv)
                have HLN := hid (fun w' (h : Nw w6 w') => len_st (hst5.nw h))
                have hml1 := HML.out.1
                have hml2 := HML.out.2
                have hrm := HRM.out
                rw [← HGL.out] at hml1 hml2
                have HST := hid hst5
                clear HGL hst5
                generalize hmq : (getM m1 xs xv).l.length = ml at HLN hml1 hml2
                clear hmq HML HRM HFT HC
                have hdm2 : decide ((k : Int) + 1 < (ml : Int)) = false := decide_eq_false (by omega)
                go_upto_region 21 with fail
                go_wp2_with (first
                  | (go_at_call 28; refine (HLN.out _ hn).mono ?_; rintro en u1 ⟨rfl, hn5⟩; have hnL := hn.trans hn5; clear hn5)
                  | (go_at_call 28; refine (HLN.out _ hnL).mono ?_; rintro en u2 ⟨rfl, hn6⟩; have hnM := hnL.trans hn6; clear hn6)
                  | fail)
                all_goals first | (exfalso; omega) | skip
                all_goals (go_roundw; (case rel => exact ⟨k + 1, _, by omega, by go_num, HST.out.nw hnM, hid (inv_get HIV.out xs xv)⟩); (case measure => (simp [intOf] <;> omega)))
    · obtain rfl : k = l.length := by omega
      have hdk : decide (l.length < l.length) = false := decide_eq_false (by omega)
      go_wp2_with (first
        | (go_at_call 20; refine (awake_c _).mono ?_; rintro en w8 ⟨rfl, hn8⟩)
        | fail)
      go_ret
      exact ⟨rfl, hst.base.trans hn8⟩
end Mm
end Go.Proofs.Ythellicimicieaa
