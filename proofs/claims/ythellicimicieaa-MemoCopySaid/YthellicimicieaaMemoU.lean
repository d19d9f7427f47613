/- MemoCopy walked. No condition. -/
import Derived.Test.YthellicimicieaaMemoT
set_option linter.unusedSimpArgs false
set_option linter.unusedVariables false
namespace Go.Proofs.Ythellicimicieaa
open Go.ChangeShapes Go.WideShapes Go.ChangeAt Go.RowKit
namespace Mm
open Go.Proofs.Ythellicimicieaa.Words (Wd wd trim Set ws ws_one ws_length same same_c samewords_c rtrim_c HandsW)
set_option maxRecDepth 20000 in
set_option maxHeartbeats 3200000 in
theorem copy_walk (room : Int) (v1 v2 v3 : Value) (l1 l2 l3 : List Ac) (w : World) (h1 : Acs w v1 l1) (h2 : Acs w v2 l2) (h3 : Acs w v3 l3) : Calls Try.prog 8 #[.int .i64 room, v1, v2, v3] w fun en w' => en = .returned (.bool true) ∧ Nw w w' := by
  have HG1 := hid (fun w' (h : Nw w w') => great_c v1 l1 w' (h1.nw h))
  have HG2 := hid (fun w' (h : Nw w w') => great_c v2 l2 w' (h2.nw h))
  have HG3 := hid (fun w' (h : Nw w w') => great_c v3 l3 w' (h3.nw h))
  have HL1 := hid h1
  have HL2 := hid h2
  have HL3 := hid h3
  obtain ⟨p1, k1, rfl, hcap1, hmx1, _, hc1⟩ := h1
  obtain ⟨p2, k2, rfl, _, _, _, _⟩ := h2
  obtain ⟨p3, k3, rfl, _, _, _, _⟩ := h3
  unfold maxLen at hmx1
  have HC := hid hc1
  clear hc1
  have hn0 := Nw.refl w
  go_enter Try.func8, Try.ntmps8
  go_upto_region 3 with (first
    | (go_at_call_of 19 (Value.slice p1 l1.length k1); refine (HG1.out _ hn0).mono ?_; rintro en wA ⟨hnA, hA⟩; rcases hA with ⟨rfl, hfA⟩ | ⟨rfl, hfA⟩)
    | (go_at_call_of 19 (Value.slice p2 l2.length k2); refine (HG2.out _ hnA).mono ?_; rintro en wB ⟨hnB', hB⟩; have hnB := hnA.trans hnB'; rcases hB with ⟨rfl, hfB⟩ | ⟨rfl, hfB⟩)
    | (go_at_call_of 19 (Value.slice p3 l3.length k3); refine (HG3.out _ hnB).mono ?_; rintro en wC ⟨hnC', hC⟩; have hnC := hnB.trans hnC'; rcases hC with ⟨rfl, hfC⟩ | ⟨rfl, hfC⟩)
    | (go_at_call 20; refine (awake_c _).mono ?_; rintro en w8 ⟨rfl, hn8⟩)
    | fail)
  rotate_left
  · go_ret
    exact ⟨rfl, (by repeat (first | assumption | exact Nw.refl _ | refine Nw.alloc ?_ _ | refine Nw.drew ?_ | refine Nw.drewN2 ?_ _ | (refine Nw.trans ?_ (by assumption))))⟩
  · go_ret
    exact ⟨rfl, (by repeat (first | assumption | exact Nw.refl _ | refine Nw.alloc ?_ _ | refine Nw.drew ?_ | refine Nw.drewN2 ?_ _ | (refine Nw.trans ?_ (by assumption))))⟩
  · go_ret
    exact ⟨rfl, (by repeat (first | assumption | exact Nw.refl _ | refine Nw.alloc ?_ _ | refine Nw.drew ?_ | refine Nw.drewN2 ?_ _ | (refine Nw.trans ?_ (by assumption))))⟩
  have HN := hid (new_c (fun _ => False) room wC)
  clear HG1 HG2 HG3 hnA hnB hnB' hnC'
  have z1 := hnC.size
  go_upto_region 4 with (first
    | (go_at_call 21; refine HN.out.mono ?_; rintro en w2 ⟨am, rfl, ha1, ha2, hn2, hm⟩; have HR := hid (rnew_c (fun k => False ∨ k = am) room w2))
    | (go_at_call 23; refine HR.out.mono ?_; rintro en w3 ⟨ar, rfl, hb1, hb2, hn3, hr⟩; clear HR; have HS := hid (rnew_c (fun k => (False ∨ k = am) ∨ k = ar) room w3))
    | (go_at_call 23; refine HS.out.mono ?_; rintro en w4 ⟨as_, rfl, hs1, hs2, hn4, hs⟩)
    | fail)
  have z2 := hn2.size
  have z3 := hn3.size
  have z4 := hn4.size
  generalize hm0 : (⟨rm room, [], 0⟩ : Me) = m0 at *
  clear hm0
  obtain ⟨P3, hP3⟩ : ∃ P3 : Nat → Prop, P3 = fun k => ((False ∨ k = am) ∨ k = ar) ∨ k = as_ := ⟨_, rfl⟩
  have hP3' : ∀ k, P3 k ↔ (k = am ∨ k = ar ∨ k = as_) := fun k => by rw [hP3]; simp [or_assoc]
  have hm4 : MI w4 P3 am am (.slice none 0 0) noV m0 := hm.ext (hn3.trans hn4) ⟨fun k q => by rw [hP3' k]; rcases q with q | q; exact q.elim; exact Or.inl q, fun k q => by rw [hP3' k] at q; rcases q with q | q | q; exact Or.inl (Or.inr q); exact Or.inr (by omega); exact Or.inr (by omega), fun k q => by rw [hP3' k] at q; omega⟩
  have hr4 : RI w4 P3 ar ar (.slice none 0 0) noV m0 := hr.ext hn4 ⟨fun k q => by rw [hP3' k]; rcases q with (q | q) | q; exact q.elim; exact Or.inl q; exact Or.inr (Or.inl q), fun k q => by rw [hP3' k] at q; rcases q with q | q | q; exact Or.inl (Or.inl (Or.inr q)); exact Or.inl (Or.inr q); exact Or.inr (by omega), fun k q => by rw [hP3' k] at q; omega⟩
  have hs4 : RI w4 P3 as_ as_ (.slice none 0 0) noV m0 := by rw [hP3]; exact hs
  have hlow4 : ∀ k, P3 k → k < w4.heap.size := fun k q => by rw [hP3' k] at q; omega
  have hPW4 : ∀ k, P3 k → w.heap.size ≤ k := fun k q => by rw [hP3' k] at q; omega
  have hW4 : Nw w w4 := hnC.trans (hn2.trans (hn3.trans hn4))
  have hd1 : am ≠ as_ := by omega
  have hd2 : ar ≠ as_ := by omega
  clear hP3 hP3' hm hr hs HN HS hn2 hn3 hn4 hnC z1 z2 z3 z4 ha1 ha2 hb1 hb2 hs1 hs2
  have HD := hid (did_c w _ l1 w4 HL1.out hfA.ok P3 am ar am ar _ _ _ _ m0 hm4 hr4 hlow4 hPW4 hW4)
  go_upto_region 6 with (first
    | (go_at_call 22; refine HD.out.mono ?_; rintro en w5 ⟨rfl, hdo⟩)
    | fail)
  obtain ⟨P5, vm, fm, vr, fr, hmid⟩ := hdo.mid
  have hs5 : RI w5 P5 as_ as_ (.slice none 0 0) noV m0 := hs4.frame hmid.md hmid.ext (fun q => by rcases q with (q | q) | (q | q); exact hd1 q.symm; cases q; exact hd2 q.symm; cases q) (fun k hk => by cases hk) (fun k q => by rcases q with q | q; exact (hm4.own2 q).1; exact (hr4.own2 q).1)
  have hW5 : Nw w w5 := hW4.ofMods hmid.md (fun k q => by rcases q with q | q; exact hPW4 k (hm4.own2 q).1; exact hPW4 k (hr4.own2 q).1)
  have hPW5 : ∀ k, P5 k → w.heap.size ≤ k := fun k q => by rcases hmid.ext.new k q with q | q; exact hPW4 k q; exact Nat.le_trans hW4.size q
  have hlow5 := hmid.ext.low
  have hm5 := hmid.mi
  have hr5 := hmid.ri
  have HLO := hid (show ∀ k, Own2 am vm k ∨ Own2 ar vr k → k < w5.heap.size ∧ k ≠ as_ from fun k q => by
    rcases q with q | q
    · obtain ⟨g1, cs, g2⟩ := hm5.own2 q
      refine ⟨hlow5 k g1, fun e => ?_⟩
      rcases g2 with g2 | g2
      · exact type_ne g2 hs5.blk (by decide) e
      · exact type_ne g2 hs5.blk (by decide) e
    · refine ⟨hlow5 k (hr5.own2 q).1, fun e => ?_⟩
      rcases q with q | q
      · exact hd2 (q.symm.trans e)
      · obtain ⟨_, cur, g2⟩ := row_block hr5.row.own q
        exact type_ne g2 hs5.blk (by decide) e)
  have hsZ := hs5.lt
  have HRT := hid (run_take m0 l1)
  have HRA := hid (show run m0 (l1.take l1.length) = run m0 l1 by rw [List.take_length])
  have HOK := hid hfA.ok
  have hM := hm5.ok
  clear hmid hdo HD hm4 hr4 hs4 hlow4 hPW4 hW4
  generalize run m0 l1 = M at *
  have HCP := hid (copy_c P5 am am vm fm M w5 hm5 hlow5)
  go_upto_region 7 with (first
    | (go_at_call 29; refine HCP.out.mono ?_; rintro en w6 ⟨ac, vc, P6, rfl, hca, hcv, hn6, hx6, hc6⟩)
    | fail)
  have hm6 := hm5.ext hn6 hx6
  have hr6 := hr5.ext hn6 hx6
  have hs6 := hs5.ext hn6 hx6
  have hW6 := hW5.trans hn6
  have hPW6 : ∀ k, P6 k → w.heap.size ≤ k := fun k q => by rcases hx6.new k q with q | q; exact hPW5 k q; exact Nat.le_trans hW5.size q
  have hz56 := hn6.size
  have HLc := hid (fun w' (h : Nw w6 w') => len_c P6 _ ac vc fm M w' (hc6.nw h))
  have HLm := hid (fun w' (h : Nw w6 w') => len_c P6 _ am vm fm M w' (hm6.nw h))
  have HCc := hid (fun w' (h : Nw w6 w') => cells_c P6 _ ac vc fm M w' (hc6.nw h))
  have HCm := hid (fun w' (h : Nw w6 w') => cells_c P6 _ am vm fm M w' (hm6.nw h))
  have hlow6 := hx6.low
  clear hm5 hr5 hs5 hW5 hPW5 hlow5 HCP hx6 hn6
  generalize w5.heap.size = Z at *
  generalize M.l.length = nl at *
  generalize cells M.l = nc at *
  go_upto_region 10 with (first
    | (go_at_call_of 28 (Value.pointer (some ⟨ac, 0, none⟩)); refine (HLc.out _ (Nw.refl _)).mono ?_; rintro en u1 ⟨rfl, hu1⟩)
    | (go_at_call_of 28 (Value.pointer (some ⟨am, 0, none⟩)); refine (HLm.out _ hu1).mono ?_; rintro en u2 ⟨rfl, hu2'⟩; have hu2 := hu1.trans hu2')
    | (go_at_call_of 30 (Value.pointer (some ⟨ac, 0, none⟩)); refine (HCc.out _ hu2).mono ?_; rintro en u3 ⟨rfl, hu3'⟩; have hu3 := hu2.trans hu3')
    | (go_at_call_of 30 (Value.pointer (some ⟨am, 0, none⟩)); refine (HCm.out _ hu3).mono ?_; rintro en w7 ⟨rfl, hu4'⟩; have hn7 := hu3.trans hu4')
    | fail)
  replace hm6 := hm6.nw hn7
  replace hr6 := hr6.nw hn7
  replace hs6 := hs6.nw hn7
  replace hc6 := hc6.nw hn7
  replace hW6 := hW6.trans hn7
  replace hlow6 : ∀ k, P6 k → k < w7.heap.size := fun k q => Nat.lt_of_lt_of_le (hlow6 k q) hn7.size
  have hz57 := Nat.le_trans hz56 hn7.size
  clear hu1 hu2 hu2' hu3 hu3' hu4' hn7 HLc HLm HCc HCm hz56
  go_loopw [14, 64] (fun _ i wr => ∃ (k : Nat) (P' : Nat → Prop) (vs : Value) (fs : Nat → V3), k ≤ l1.length ∧ i = .int .i64 k ∧ Ext w7 P6 wr P' ∧ RI wr P' as_ as_ vs fs (run m0 (l1.take k)) ∧ Mods (fun j => j = as_) w7 wr ∧ (∀ j, vs.ownBlock = some j → w7.heap.size ≤ j)) (fun _ i _ => l1.length - (intOf i).toNat)
  case atStart => exact ⟨0, P6, _, _, Nat.zero_le _, rfl, Ext.refl hlow6 (Nat.le_refl _), hs6, Mods.refl _ _, fun j hj => by cases hj⟩
  case round =>
    obtain ⟨k, P', vs, fs, hk, rfl, hx, hsr, hmd, hvs⟩ := hrel
    by_cases hlt : k < l1.length
    · have hdk : decide (k < l1.length) = true := decide_eq_true hlt
      have hWr : Nw w wr := hW6.ofMods hmd (fun j q => by rw [q]; exact hPW6 _ hs6.mine)
      obtain ⟨b, off, q, x1, x2, x3, rfl, hq, hp, c0, c1, c2, c3, c4, s1, s2, s3⟩ := HC.out k hlt
      replace c0 := hWr.cell c0
      replace c1 := hWr.cell c1
      replace c2 := hWr.cell c2
      replace c3 := hWr.cell c3
      replace c4 := hWr.cell c4
      replace s1 := s1.nw hWr
      replace s2 := s2.nw hWr
      replace s3 := s3.nw hWr
      have gg := World.block_lt_of_cell? wr _ c0
      simp only at gg
      have hok := HOK.out k hlt
      have hrt := HRT.out k hlt
      obtain ⟨q1, d1, rfl, _⟩ := id s1.open
      obtain ⟨q2, d2, rfl, _⟩ := id s2.open
      obtain ⟨q3, d3, rfl, _⟩ := id s3.open
      obtain ⟨qm, hqm⟩ : ∃ qm, q % 2 = qm := ⟨_, rfl⟩
      have hq2 : (q : Int) % 2 = (qm : Int) := by omega
      have hqb : qm < 2 := by omega
      rw [hqm] at hp
      clear hqm
      have HXP := hid hp
      clear hp
      generalize Mm.ac l1 k = x at *
      obtain ⟨xp, xs, xv, xx, xe⟩ := x
      dsimp only at HXP c4 s1 s2 s3 c1 c2 c3
      obtain ⟨ls, lv, lx⟩ := hok
      dsimp only at ls lv lx
      go_upto_region 12 with fail
      obtain ⟨g0, g1, g2, g3, g4, hzz, hnA⟩ := box5 wr (.int .u8 (q : Int)) (.slice q1 xs.length d1) (.slice q2 xv.length d2) (.slice q3 xx.length d3) (.bool xe) 44
      generalize wr.alloc (.cells #[.int .u8 (q : Int), .slice q1 xs.length d1, .slice q2 xv.length d2, .slice q3 xx.length d3, .bool xe] 44) = w8 at *
      generalize wr.heap.size = N at *
      have hsr8 := hsr.nw hnA
      have hx8 : Ext w7 P6 w8 P' := ⟨hx.sub, hx.new, fun j q => Nat.lt_of_lt_of_le (hx.low j q) hnA.size⟩
      have hmd8 := hmd.nw hnA
      have hz8 := hmd8.size
      replace s1 := s1.nw hnA
      replace s2 := s2.nw hnA
      replace s3 := s3.nw hnA
      have HRO := hid (fun w9 M' (h : RO w8 P' as_ as_ vs M' w9) => show ∃ (P'' : Nat → Prop) (vs' : Value) (fs' : Nat → V3), Ext w7 P6 w9 P'' ∧ RI w9 P'' as_ as_ vs' fs' M' ∧ Mods (fun j => j = as_) w7 w9 ∧ (∀ j, vs'.ownBlock = some j → w7.heap.size ≤ j) by
        obtain ⟨P'', vs', fs', e1, e2, e3, hr9, hd9, ho9⟩ := h
        refine ⟨P'', vs', fs', hx8.trans ⟨e1, e2, e3⟩ hz8, hr9, ?_, fun j hj => ?_⟩
        · exact ⟨hd9.os.trans hmd8.os, hd9.tape.trans hmd8.tape, hd9.output.trans hmd8.output, Nat.le_trans hmd8.size hd9.size, fun j hj hs => (hd9.block j (Nat.lt_of_lt_of_le hj hmd8.size) (fun q => by
            rcases q with q | q
            · exact hs q
            · have := hvs j q; omega)).trans (hmd8.block j hj hs)⟩
        · rcases ho9 j hj with q | q
          · exact hvs j q
          · omega)
      clear c0 c1 c2 c3 c4 gg hnA hsr hx hmd hWr
      by_cases hq1 : qm = 1
      · subst hq1
        obtain rfl : xp = true := HXP.out
        change run m0 (l1.take (k + 1)) = putM (run m0 (l1.take k)) xs xv xx xe at hrt
        have HRT2 := hid hrt
        clear hrt HXP
        generalize run m0 (l1.take k) = Mk at *
        have HP := hid (rput_c P' as_ as_ vs fs Mk _ _ _ xs xv xx xe w8 hsr8 hx8.low s1 s2 s3 ls lv lx)
        go_wp2_with (first
          | (go_at_call 31; refine HP.out.mono ?_; rintro en w9 ⟨rfl, hro⟩)
          | fail)
        obtain ⟨P9, vs9, fs9, e1, e2, e3, e4⟩ := HRO.out _ _ hro
        go_roundw
        case rel => exact ⟨k + 1, P9, vs9, fs9, by omega, by go_num, e1, by rw [HRT2.out]; exact e2, e3, e4⟩
        case measure => (simp [intOf] <;> omega)
      · obtain rfl : qm = 0 := by omega
        obtain rfl : xp = false := HXP.out
        change run m0 (l1.take (k + 1)) = getM (run m0 (l1.take k)) xs xv at hrt
        have HRT2 := hid hrt
        clear hrt HXP
        generalize run m0 (l1.take k) = Mk at *
        have HP := hid (rget_c P' as_ as_ vs fs Mk _ _ xs xv w8 hsr8 hx8.low s1 s2 ls lv)
        go_wp2_with (first
          | (go_at_call 32; refine HP.out.mono ?_; rintro en w9 ⟨⟨u, rfl, _⟩, hro⟩)
          | fail)
        obtain ⟨P9, vs9, fs9, e1, e2, e3, e4⟩ := HRO.out _ _ hro
        go_roundw
        case rel => exact ⟨k + 1, P9, vs9, fs9, by omega, by go_num, e1, by rw [HRT2.out]; exact e2, e3, e4⟩
        case measure => (simp [intOf] <;> omega)
    · obtain rfl : k = l1.length := by omega
      have hdk : decide (l1.length < l1.length) = false := decide_eq_false (by omega)
      rw [HRA.out] at hsr
      have HHI := hid (show ∀ j, Own2 ac vc j ∨ Own2 as_ vs j → Z ≤ j ∨ j = as_ from fun j q => by
        rcases q with (q | q) | (q | q)
        · exact Or.inl (by omega)
        · exact Or.inl (hcv j q)
        · exact Or.inr q
        · exact Or.inl (Nat.le_trans hz57 (hvs j q)))
      have hWr : Nw w wr := hW6.ofMods hmd (fun j q => by rw [q]; exact hPW6 _ hs6.mine)
      have hSP : ∀ j, j = as_ → P6 j := fun j q => by rw [q]; exact hs6.mine
      have hc8 : MI wr P' Z ac vc fm M := hc6.frame hmd hx (fun q => by omega) (fun j hj q => by have := hcv j hj; omega) hSP
      have hm8 : MI wr P' am am vm fm M := hm6.frame hmd hx (fun q => (HLO.out am (Or.inl (Or.inl rfl))).2 q) (fun j hj q => (HLO.out j (Or.inl (Or.inr hj))).2 q) hSP
      have hr8 : RI wr P' ar ar vr fr M := hr6.frame hmd hx (fun q => (HLO.out ar (Or.inr (Or.inl rfl))).2 q) (fun j hj q => (HLO.out j (Or.inr (Or.inr hj))).2 q) hSP
      have hPW8 : ∀ j, P' j → w.heap.size ≤ j := fun j q => by rcases hx.new j q with q | q; exact hPW6 j q; exact Nat.le_trans hW6.size q
      have hZ8 := Nat.le_trans hz57 hmd.size
      have HD1 := hid (did_c w _ l2 wr HL2.out hfB.ok P' Z as_ ac as_ vc vs fm fs M hc8 hsr hx.low hPW8 hWr)
      have HX1 := hid (fun wd (h : DO wr P' Z as_ ac vc as_ vs (run M l2) wd) => show ∃ P9 vc9 fc9 vs9 fs9, MI wd P9 Z ac vc9 fc9 (run M l2) ∧ RI wd P9 as_ as_ vs9 fs9 (run M l2) ∧ MI wd P9 am am vm fm M ∧ RI wd P9 ar ar vr fr M ∧ (∀ j, P9 j → j < wd.heap.size) ∧ (∀ j, P9 j → w.heap.size ≤ j) ∧ Nw w wd ∧ (∀ j, Own2 ac vc9 j ∨ Own2 as_ vs9 j → Z ≤ j ∨ j = as_) by
        obtain ⟨P9, vc9, fc9, vs9, fs9, hmid⟩ := h.mid
        have hS : ∀ j, Own2 ac vc j ∨ Own2 as_ vs j → P' j := fun j q => by
          rcases q with q | q
          · exact (hc8.own2 q).1
          · exact (hsr.own2 q).1
        have no : ∀ j, (Own2 am vm j ∨ Own2 ar vr j) → ¬ (Own2 ac vc j ∨ Own2 as_ vs j) := fun j h1 h2 => by
          have := HLO.out j h1; have := HHI.out j h2; omega
        refine ⟨P9, vc9, fc9, vs9, fs9, hmid.mi, hmid.ri, hm8.frame hmid.md hmid.ext (no am (Or.inl (Or.inl rfl))) (fun j hj => no j (Or.inl (Or.inr hj))) hS, hr8.frame hmid.md hmid.ext (no ar (Or.inr (Or.inl rfl))) (fun j hj => no j (Or.inr (Or.inr hj))) hS, hmid.ext.low, fun j q => ?_, hWr.ofMods hmid.md (fun j q => hPW8 j (hS j q)), fun j q => ?_⟩
        · rcases hmid.ext.new j q with q | q
          · exact hPW8 j q
          · exact Nat.le_trans hWr.size q
        · rcases q with (q | q) | (q | q)
          · exact Or.inl (by omega)
          · rcases hmid.o1 j q with q | q
            · exact HHI.out j (Or.inl (Or.inr q))
            · exact Or.inl (by omega)
          · exact Or.inr q
          · rcases hmid.o2 j q with q | q
            · exact HHI.out j (Or.inr (Or.inr q))
            · exact Or.inl (by omega))
      clear hc6 hm6 hr6 hs6 hc8 hm8 hr8 hsr hx hmd hvs hW6 hPW6 hWr hPW8 hlow6 hSP HRT HRA HOK HC
      go_wp2_with (first
        | (go_at_call 22; refine HD1.out.mono ?_; rintro en wd ⟨rfl, hdo1⟩; obtain ⟨P9, vc9, fc9, vs9, fs9, hc9, hs9, hm9, hr9, hlow9, hPW9, hW9, hhi9⟩ := HX1.out wd hdo1; have HD2 := hid (did_c w _ l3 wd HL3.out hfC.ok P9 am ar am ar vm vr fm fr M hm9 hr9 hlow9 hPW9 hW9); clear HD1 HX1 hdo1)
        | (go_at_call 22; refine HD2.out.mono ?_; rintro en we ⟨rfl, hdo2⟩; obtain ⟨P10, vm10, fm10, vr10, fr10, hmid2⟩ := hdo2.mid; have hS2 : ∀ j, Own2 am vm j ∨ Own2 ar vr j → P9 j := (fun j q => by rcases q with q | q; exact (hm9.own2 q).1; exact (hr9.own2 q).1); have no2 : ∀ j, (Own2 ac vc9 j ∨ Own2 as_ vs9 j) → ¬ (Own2 am vm j ∨ Own2 ar vr j) := (fun j h1 h2 => by have := HLO.out j h2; have := hhi9 j h1; omega); have hc10 := hc9.frame hmid2.md hmid2.ext (no2 ac (Or.inl (Or.inl rfl))) (fun j hj => no2 j (Or.inl (Or.inr hj))) hS2; have hs10 := hs9.frame hmid2.md hmid2.ext (no2 as_ (Or.inr (Or.inl rfl))) (fun j hj => no2 j (Or.inr (Or.inr hj))) hS2; have hW10 := hW9.ofMods hmid2.md (fun j q => hPW9 j (hS2 j q)); have hPW10 : ∀ j, P10 j → w.heap.size ≤ j := (fun j q => by rcases hmid2.ext.new j q with q | q; exact hPW9 j q; exact Nat.le_trans hW9.size q); have HD3 := hid (did_c w _ l3 we HL3.out hfC.ok P10 Z as_ ac as_ vc9 vs9 fc9 fs9 (run M l2) hc10 hs10 hmid2.ext.low hPW10 hW10); clear HD2 hdo2 hc9 hs9 hm9 hr9)
        | (go_at_call 22; refine HD3.out.mono ?_; rintro en wf ⟨rfl, hdo3⟩)
        | (go_at_call 20; refine (awake_c _).mono ?_; rintro en w8 ⟨rfl, hn8⟩)
        | fail)
      go_ret
      obtain ⟨P11, vc11, fc11, vs11, fs11, hmid3⟩ := hdo3.mid
      exact ⟨rfl, (hW10.ofMods hmid3.md (fun j q => hPW10 j (by rcases q with q | q; exact (hc10.own2 q).1; exact (hs10.own2 q).1))).trans hn8⟩
end Mm
end Go.Proofs.Ythellicimicieaa
