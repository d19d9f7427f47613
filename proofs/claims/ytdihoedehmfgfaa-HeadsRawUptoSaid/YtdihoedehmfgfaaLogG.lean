/- The contracts of watchglassref8.Records (without a cut) and watchglassref8.Decode. No condition but lengths. -/
import Derived.Test.YtdihoedehmfgfaaLogE
import Derived.Test.YtdihoedehmfgfaaLogF
import Derived.Test.YtdihoedehmfgfaaRecG
import Derived.Test.YtdihoedehmfgfaaTrP
set_option linter.unusedSimpArgs false
set_option linter.unusedVariables false
namespace Go.Proofs.Ytdihoedehmfgfaa
open Go.ChangeShapes Go.WideShapes Go.ChangeAt Go.RowKit
namespace Lg
open Go.Proofs.Ytdihoedehmfgfaa.Lx (isIn nameB strs_open strs_cell)
open Go.Proofs.Ytdihoedehmfgfaa.Sum (byte put right Hands8 HandsR)
open Go.Proofs.Ytdihoedehmfgfaa.Rec (rises rec_ get putE rec_len put_len i64s_open i64_cell HandsGO)
open Go.Proofs.Ytdihoedehmfgfaa.Tr (T Es tm ids mayP namesP nmB nOk namesTo Evs EC Small box2 lt_alloc TrR EvOwn CpSt CloneS ints_shape strs_not evc own_apart info_event HandsTE results_cell2)
/-- The time of the last event; 0 without one. -/
def lastT (es : Es) : Int := if es.length = 0 then 0 else tm es (es.length - 1)
theorem lastT_snoc (es : Es) (x : Int × List Int) : lastT (es ++ [x]) = x.1 := by
  unfold lastT
  rw [if_neg (by simp), List.length_append, List.length_singleton, Nat.add_sub_cancel, Tr.tm_snoc]
theorem lastT_no {es : Es} {t : Int} (h0 : 0 ≤ t) (h : ¬ t < lastT es) : ¬ (0 < es.length ∧ t < tm es (es.length - 1)) := by
  rintro ⟨h1, h2⟩
  unfold lastT at h
  rw [if_neg (by omega)] at h
  exact h h2
theorem lastT_yes {es : Es} {t : Int} (h0 : 0 ≤ t) (h : t < lastT es) : 0 < es.length ∧ t < tm es (es.length - 1) := by
  unfold lastT at h
  split at h
  · omega
  · exact ⟨by omega, h⟩
theorem headR_ok (b : List UInt8) (l : List ByteArray) (i : Int) (h : headR b 5 = (l, i, 0)) : ∃ n : Nat, i = n ∧ 9 ≤ n ∧ n ≤ b.length ∧ namesP l = true := head_ok b l i (by rw [← head_same]; exact h)
theorem recs_no {b : List UInt8} {l : List ByteArray} {i e m : Int} (h : headR b m = (l, i, e)) (he : e ≠ 0) : recordsP b m = (⟨[], []⟩, e) := by
  unfold recordsP
  rw [h]
  exact if_pos he
theorem recs_yes {b : List UInt8} {l : List ByteArray} {i : Nat} {es : Es} {f m : Int} (h : headR b m = (l, (i : Int), 0)) (hr : recs b l.length (b.length + 1) i [] = (es, f)) : recordsP b m = ((⟨l, es⟩ : T), f) := by
  unfold recordsP recsP
  rw [h]
  dsimp only
  rw [Int.toNat_natCast, hr]
  exact if_neg (by decide)
theorem ev_cell {w w2 wr : World} {B : Nat} {e : TypeId} {size n : Nat} {xs : List Value} {v x : Value} {z j : Nat} (hg : w.grownBy w2 v.ownBlock) (hrow : wr.ownsRow B e size v n xs) (hzr : wr.heap.size ≤ z) (hz : z < w.heap.size) (hc : w.cell? ⟨z, j, none⟩ = some x) : w2.cell? ⟨z, j, none⟩ = some x := by
  have hb := hg.block z hz (fun e => by have := (World.ownsRow.lt hrow _ e.symm).2; omega)
  unfold World.cell? at *
  rw [hb]
  exact hc
set_option maxRecDepth 20000 in
set_option maxHeartbeats 1600000 in
theorem rrecords_c (v : Value) (b : List UInt8) (q : Int) (w : World) (hb : Bytes w v b) (hl : b.length ≤ 1000000000) (hq1 : -9223372036854775808 ≤ q) (hq2 : q ≤ 9223372036854775807) (hq : ¬ (0 ≤ q ∧ q < b.length)) : Calls Try.prog 90 #[v, .int .i64 q] w (HandsTE w (recordsP b 5)) := by
  obtain ⟨l, i0, e0, hH⟩ : ∃ l i e, headR b 5 = (l, i, e) := ⟨_, _, _, rfl⟩
  have HHD := hid (fun w' (h : Nw w w') => show Calls Try.prog 41 #[v, .bool false] w' (HandsHd w' (l, i0, e0)) by rw [← hH]; exact rhead_c v b w' (hb.nw h) hl)
  obtain ⟨p, cap, rfl, hcap, hmx, hp0, hc⟩ := hb.open
  have hmx' := hmx
  unfold maxLen at hmx
  have HC := hid hc
  clear hb
  obtain ⟨dq, hdq⟩ : ∃ d, d = decide (0 ≤ q) := ⟨_, rfl⟩
  have hdq2 : dq = true → decide (q < (b.length : Int)) = false := fun h => decide_eq_false (by rw [hdq, decide_eq_true_iff] at h; omega)
  have HQ1 := hid hdq.symm
  have HQ2 := hid hdq2
  clear hdq hdq2 hq
  by_cases he : e0 = 0
  · subst he
    obtain ⟨i1, rfl, hi9, hib, hnm⟩ := headR_ok b l i0 hH
    obtain ⟨pb, po, rfl⟩ := hc.place (by rw [u8s_length]; omega)
    have HD := hid (fun es f h => recs_yes (es := es) (f := f) hH h)
    have hl64 := names_le hnm
    clear hc hH hnm hp0
    go_enter Try.func90, Try.ntmps90
    go_upto_region 1 with fail
    have y2 := heap_new w (.cells #[.slice none 0 0, .slice none 0 0] 34)
    have hn := (Nw.refl w).alloc (.cells #[.slice none 0 0, .slice none 0 0] 34)
    have hz0 := lt_alloc w (.cells #[.slice none 0 0, .slice none 0 0] 34)
    generalize w.alloc (.cells #[.slice none 0 0, .slice none 0 0] 34) = w0 at *
    have hdq := HQ1.out
    cases dq
    · skip
      go_upto_region 8 with (first
        | (go_at_call 41; refine (HHD.out _ (by repeat (first | assumption | exact Nw.refl _ | refine Nw.alloc ?_ _ | refine Nw.drew ?_ | refine Nw.drewN2 ?_ _ | (refine Nw.trans ?_ (by assumption))))).mono ?_; rintro e w1 ⟨v1, rfl, hs1, hn1⟩; obtain ⟨q1, c1, rfl, _⟩ := strs_open hs1; dsimp only at hs1 ⊢)
        | fail)
      have y5 := heap_new w1 (.cells #[.slice q1 l.length c1, .slice none 0 0] 34)
      have hnL : Nw w0 (w1.alloc (.cells #[.slice q1 l.length c1, .slice none 0 0] 34)) := hn1.alloc _
      have s1 := hs1.nw ((Nw.refl w1).alloc (.cells #[.slice q1 l.length c1, .slice none 0 0] 34))
      have hg5 := lt_alloc w1 (.cells #[.slice q1 l.length c1, .slice none 0 0] 34)
      have hg50 := hn1.size
      clear hs1 hn1
      generalize w1.alloc (.cells #[.slice q1 l.length c1, .slice none 0 0] 34) = wL at *
      generalize w1.heap.size = g5 at *
      have hz2 : w.heap.size < wL.heap.size := by omega
      have HS1 := hid (fun wr {v es} (h : CpSt wL g5 (.slice q1 l.length c1) v es wr) => show Sl wr (.slice q1 l.length c1) (Lx.strs l) from Sl.mods s1 h.2.2 (fun h0 j hj e => by subst e; exact absurd rfl (Tr.Sl.apart (s1.nw (Nw.refl _)) y5 strs_not h0 _ hj)))
      go_wp2
      go_loopw [8, 11] (fun at_ lt wr => ∃ (i : Nat) (es : Es) (v : Value) (f : Nat), at_ = .int .i64 i ∧ lt = .int .u64 (lastT es) ∧ i ≤ b.length ∧ es.length ≤ i ∧ b.length ≤ i + f ∧ Hid (recs b l.length (b.length + 1) i1 [] = recs b l.length (f + 1) i es) ∧ CpSt wL g5 (.slice q1 l.length c1) v es wr) (fun at_ _ _ => b.length - (intOf at_).toNat)
      case atStart => exact ⟨i1, [], _, b.length, rfl, rfl, hib, Nat.zero_le _, by omega, hid rfl, y5, EvOwn.nil _ _, Mods.refl _ _⟩
      case round =>
        clear s1 y5
        obtain ⟨i, es, v, f, rfl, rfl, hi, hel, hif, HQ, hst⟩ := hrel
        have hnr : Nw w0 wr := hnL.ofMods hst.2.2 (fun j e => by omega)
        have hnw := hn.trans hnr
        obtain ⟨qv, cv, rfl⟩ := hst.2.1.shape (n := es.length) rfl
        obtain ⟨tt, ll, nn, ee, hG⟩ : ∃ tt ll nn ee, get (b.drop i) l.length = ((tt, ll), nn, ee) := ⟨_, _, _, _, rfl⟩
        have HGT := hid (fun w' va (hva : Bytes w' va (b.drop i)) => show Calls Try.prog 100 #[va, .int .i64 (l.length : Int)] w' (HandsGO w' ((tt, ll), nn, ee)) by rw [← hG]; exact Rec.rget_o va (b.drop i) l.length w' hva (by rw [List.length_drop]; omega) (by omega) (by omega))
        have hBi : ∀ w', Nw wr w' → Bytes w' (.slice (some ⟨pb, po + i, none⟩) (b.length - i) (cap - i)) (b.drop i) := fun w' h => by
          have := bytes_sub (HC.out.nw (hnw.trans h)) hcap hmx' i (b.length - i) (by omega)
          rwa [List.take_of_length_le (by rw [List.length_drop]; exact Nat.le_refl _)] at this
        have HB := hid hBi
        have hck : (b.length : Int) - i = ((b.length - i : Nat) : Int) := by omega
        clear hBi
        by_cases hci : cap = i
        · have HB0 := hid (show ∀ w', Nw wr w' → Bytes w' (.slice (some ⟨pb, po, none⟩) (b.length - i) 0) (b.drop i) from fun w' _ => by
            have e : b.drop i = [] := List.drop_eq_nil_of_le (by omega)
            rw [e, show b.length - i = 0 by omega]
            exact Bytes.mk (fun _ h => by cases h) rfl (Nat.zero_le _) (by simp [maxLen]) (fun _ => rfl))
          clear HB
          go_upto_region 10 with (first
            | (go_at_call 100; refine (HGT.out _ _ (HB0.out _ (by repeat (first | assumption | exact Nw.refl _ | refine Nw.alloc ?_ _ | refine Nw.drew ?_ | refine Nw.drewN2 ?_ _ | (refine Nw.trans ?_ (by assumption)))))).mono ?_; rintro e w4 ⟨v4, rfl, ho4, hn4⟩; obtain ⟨p4, c4, rfl⟩ := ints_shape ho4; dsimp only at ho4 ⊢)
            | fail)
          clear hci
          have hnz : Nw wr (w4.alloc (.cells #[.int .u64 tt, .slice p4 ll.length c4] 38)) := hn4.alloc _
          obtain ⟨z0, z1⟩ := box2 w4 (.int .u64 tt) (.slice p4 ll.length c4) 38
          have hoz := ho4.nw ((Nw.refl w4).alloc (.cells #[.int .u64 tt, .slice p4 ll.length c4] 38))
          have hzr := hn4.size
          have hLr := hst.2.2.size
          clear ho4 hn4
          generalize w4.alloc (.cells #[.int .u64 tt, .slice p4 ll.length c4] 38) = wz at *
          generalize w4.heap.size = zE at *
          have hstz := hst.nw hnz
          have y2z := (hnr.trans hnz).heap y2
          have e0 := heap_cell hstz.1 0
          have e1 := heap_cell hstz.1 1
          simp only [List.getElem?_toArray, List.getElem?_cons_succ, List.getElem?_cons_zero] at e0 e1
          by_cases hee : ee = 0
          · subst hee
            obtain ⟨m, rfl, hm14, hmle, ht0, ht1, hr64⟩ := get_ok _ _ _ _ _ hG
            rw [List.length_drop] at hmle
            by_cases htt : tt < lastT es
            · have hd3 : decide (tt < lastT es) = true := decide_eq_true htt
              have hy := lastT_yes ht0 htt
              have HF := hid (HD.out _ _ (HQ.out.trans (recs_fall hG hy.1 hy.2)))
              clear HQ htt hm14 hmle ht0 ht1 hr64 hy
              generalize lastT es = tj at *
              have hstR := hstz
              have y2R := y2z
              have d0 := heap_cell y2R 0
              have d1 := heap_cell y2R 1
              simp only [List.getElem?_toArray, List.getElem?_cons_succ, List.getElem?_cons_zero] at d0 d1
              have f0 := heap_frozen y2R 0
              have f1 := heap_frozen y2R 1
              go_wp2
              ((try simp only [Exit.inBlock, Exit.then]); refine bodyPost_ret (results_cell2 rfl _ _ _ _ _ _ _ rfl (heap_set (heap_set y2R 0 (.slice q1 l.length c1)) 1 (.slice qv es.length cv)) Try.underlying34 rfl (by kernel_rfl)) rfl ?_)
              rw [HF.out]
              have s1R := HS1.out _ hstR
              exact ⟨_, rfl, ⟨_, _, rfl, Tr.Sl.set2 (a := .slice q1 l.length c1) (b := .slice none 0 0) (Tr.Sl.set2 s1R y2R strs_not) (heap_set y2R 0 _) strs_not, (EvOwn.set (a := .slice q1 l.length c1) (b := .slice none 0 0) (EvOwn.set hstR.2.1 hz2 y2R (fun _ => nofun) (fun _ => nofun)) hz2 (heap_set y2R 0 _) (fun _ => nofun) (fun _ => nofun)).evs⟩, (((hn.trans (hnr.trans hnz)).setCell (p := ⟨w.heap.size, 0, none⟩) (Nat.le_refl _) _).setCell (p := ⟨w.heap.size, 1, none⟩) (Nat.le_refl _) _)⟩
            · have hd3 : decide (tt < lastT es) = false := decide_eq_false htt
              have HG := hid (recs_go (f := f) (es := es) (p := l.length) hG (lastT_no ht0 htt))
              clear htt hG ht0 ht1 hr64
              generalize lastT es = tj at *
              obtain ⟨vs, hvl, hrow, hall⟩ := hst.2.1
              have hRz : Nw wr (wz.alloc (.cells #[.int .u64 tt, .slice p4 ll.length c4] 38)) := hnz.alloc _
              have hoR := hoz.nw ((Nw.refl wz).alloc (.cells #[.int .u64 tt, .slice p4 ll.length c4] 38))
              have hB : wL.heap.size ≤ (wz.alloc (.cells #[.int .u64 tt, .slice p4 ll.length c4] 38)).heap.size := Nat.le_trans hst.2.2.size hRz.size
              have hel2 : es.length + 1 ≤ i + m := by omega
              have hib2 : i + m ≤ b.length := by omega
              obtain ⟨f', rfl⟩ : ∃ f', f = f' + 1 := ⟨f - 1, by omega⟩
              have hif2 : b.length ≤ i + m + f' := by omega
              have hel3 : es.length ≤ 1000000000 := by omega
              have hm1 : 1 ≤ m := by omega
              have g1 := World.block_lt_of_cell? wz _ z0
              have hzE : zE < (wz.alloc (.cells #[.int .u64 tt, .slice p4 ll.length c4] 38)).heap.size := Nat.lt_of_lt_of_le g1 (Nat.le_of_lt (lt_alloc wz _))
              have z0a := ((Nw.refl wz).alloc (.cells #[.int .u64 tt, .slice p4 ll.length c4] 38)).cell z0
              simp only at g1
              clear hm14 hmle hel hif
              go_wp2_with (first
                | (at_builtin; refine appat rfl _ _ _ rfl _ _ _ _ Try.underlying32 info_event rfl (by decide) (by decide) hB (hRz.ownsRow hrow) rfl rfl (show [Value.int .u64 tt, Value.slice p4 ll.length c4].length = 2 from rfl) (Tr.cells_newAt wz [_, _] _ _ _ rfl) (by simp [Value.oneCell']) ?_ ?_; rotate_left; (omega); intro v2 w2 hown2 hg2 hat2; obtain ⟨⟨q9, c9, rfl⟩, y9, hst2⟩ := CpSt.step hst hRz hg5 rfl hvl hrow hall hoR hown2 hg2 hat2; have z09 := ev_cell hg2 hrow hzr hzE z0a; have y91 := heap_cell y9 1; have y9f := heap_frozen y9 1; simp only [List.getElem?_toArray, List.getElem?_cons_succ, List.getElem?_cons_zero] at y91)
                | fail)
              go_roundw
              case rel => exact ⟨i + m, es ++ [(tt, ll)], _, f', by go_num, by rw [lastT_snoc], hib2, by rw [List.length_append, List.length_singleton]; exact hel2, hif2, hid (HQ.out.trans HG.out), hst2⟩
              case measure => (simp [intOf] <;> omega)
          · have hde : (ee == 0) = false := beq_eq_false_iff_ne.2 hee
            have hde2 : (ee != 0) = true := by simpa using hee
            have HF := hid (HD.out _ _ (HQ.out.trans (recs_stop hG hee)))
            clear HQ
            generalize lastT es = tj at *
            have hstR := hstz
            have y2R := y2z
            have d0 := heap_cell y2R 0
            have d1 := heap_cell y2R 1
            simp only [List.getElem?_toArray, List.getElem?_cons_succ, List.getElem?_cons_zero] at d0 d1
            have f0 := heap_frozen y2R 0
            have f1 := heap_frozen y2R 1
            go_wp2
            ((try simp only [Exit.inBlock, Exit.then]); refine bodyPost_ret (results_cell2 rfl _ _ _ _ _ _ _ rfl (heap_set (heap_set y2R 0 (.slice q1 l.length c1)) 1 (.slice qv es.length cv)) Try.underlying34 rfl (by kernel_rfl)) rfl ?_)
            rw [HF.out]
            have s1R := HS1.out _ hstR
            exact ⟨_, rfl, ⟨_, _, rfl, Tr.Sl.set2 (a := .slice q1 l.length c1) (b := .slice none 0 0) (Tr.Sl.set2 s1R y2R strs_not) (heap_set y2R 0 _) strs_not, (EvOwn.set (a := .slice q1 l.length c1) (b := .slice none 0 0) (EvOwn.set hstR.2.1 hz2 y2R (fun _ => nofun) (fun _ => nofun)) hz2 (heap_set y2R 0 _) (fun _ => nofun) (fun _ => nofun)).evs⟩, (((hn.trans (hnr.trans hnz)).setCell (p := ⟨w.heap.size, 0, none⟩) (Nat.le_refl _) _).setCell (p := ⟨w.heap.size, 1, none⟩) (Nat.le_refl _) _)⟩
        · have HB0 := HB
          clear HB
          go_upto_region 10 with (first
            | (go_at_call 100; refine (HGT.out _ _ (HB0.out _ (by repeat (first | assumption | exact Nw.refl _ | refine Nw.alloc ?_ _ | refine Nw.drew ?_ | refine Nw.drewN2 ?_ _ | (refine Nw.trans ?_ (by assumption)))))).mono ?_; rintro e w4 ⟨v4, rfl, ho4, hn4⟩; obtain ⟨p4, c4, rfl⟩ := ints_shape ho4; dsimp only at ho4 ⊢)
            | fail)
          clear hci
          have hnz : Nw wr (w4.alloc (.cells #[.int .u64 tt, .slice p4 ll.length c4] 38)) := hn4.alloc _
          obtain ⟨z0, z1⟩ := box2 w4 (.int .u64 tt) (.slice p4 ll.length c4) 38
          have hoz := ho4.nw ((Nw.refl w4).alloc (.cells #[.int .u64 tt, .slice p4 ll.length c4] 38))
          have hzr := hn4.size
          have hLr := hst.2.2.size
          clear ho4 hn4
          generalize w4.alloc (.cells #[.int .u64 tt, .slice p4 ll.length c4] 38) = wz at *
          generalize w4.heap.size = zE at *
          have hstz := hst.nw hnz
          have y2z := (hnr.trans hnz).heap y2
          have e0 := heap_cell hstz.1 0
          have e1 := heap_cell hstz.1 1
          simp only [List.getElem?_toArray, List.getElem?_cons_succ, List.getElem?_cons_zero] at e0 e1
          by_cases hee : ee = 0
          · subst hee
            obtain ⟨m, rfl, hm14, hmle, ht0, ht1, hr64⟩ := get_ok _ _ _ _ _ hG
            rw [List.length_drop] at hmle
            by_cases htt : tt < lastT es
            · have hd3 : decide (tt < lastT es) = true := decide_eq_true htt
              have hy := lastT_yes ht0 htt
              have HF := hid (HD.out _ _ (HQ.out.trans (recs_fall hG hy.1 hy.2)))
              clear HQ htt hm14 hmle ht0 ht1 hr64 hy
              generalize lastT es = tj at *
              have hstR := hstz
              have y2R := y2z
              have d0 := heap_cell y2R 0
              have d1 := heap_cell y2R 1
              simp only [List.getElem?_toArray, List.getElem?_cons_succ, List.getElem?_cons_zero] at d0 d1
              have f0 := heap_frozen y2R 0
              have f1 := heap_frozen y2R 1
              go_wp2
              ((try simp only [Exit.inBlock, Exit.then]); refine bodyPost_ret (results_cell2 rfl _ _ _ _ _ _ _ rfl (heap_set (heap_set y2R 0 (.slice q1 l.length c1)) 1 (.slice qv es.length cv)) Try.underlying34 rfl (by kernel_rfl)) rfl ?_)
              rw [HF.out]
              have s1R := HS1.out _ hstR
              exact ⟨_, rfl, ⟨_, _, rfl, Tr.Sl.set2 (a := .slice q1 l.length c1) (b := .slice none 0 0) (Tr.Sl.set2 s1R y2R strs_not) (heap_set y2R 0 _) strs_not, (EvOwn.set (a := .slice q1 l.length c1) (b := .slice none 0 0) (EvOwn.set hstR.2.1 hz2 y2R (fun _ => nofun) (fun _ => nofun)) hz2 (heap_set y2R 0 _) (fun _ => nofun) (fun _ => nofun)).evs⟩, (((hn.trans (hnr.trans hnz)).setCell (p := ⟨w.heap.size, 0, none⟩) (Nat.le_refl _) _).setCell (p := ⟨w.heap.size, 1, none⟩) (Nat.le_refl _) _)⟩
            · have hd3 : decide (tt < lastT es) = false := decide_eq_false htt
              have HG := hid (recs_go (f := f) (es := es) (p := l.length) hG (lastT_no ht0 htt))
              clear htt hG ht0 ht1 hr64
              generalize lastT es = tj at *
              obtain ⟨vs, hvl, hrow, hall⟩ := hst.2.1
              have hRz : Nw wr (wz.alloc (.cells #[.int .u64 tt, .slice p4 ll.length c4] 38)) := hnz.alloc _
              have hoR := hoz.nw ((Nw.refl wz).alloc (.cells #[.int .u64 tt, .slice p4 ll.length c4] 38))
              have hB : wL.heap.size ≤ (wz.alloc (.cells #[.int .u64 tt, .slice p4 ll.length c4] 38)).heap.size := Nat.le_trans hst.2.2.size hRz.size
              have hel2 : es.length + 1 ≤ i + m := by omega
              have hib2 : i + m ≤ b.length := by omega
              obtain ⟨f', rfl⟩ : ∃ f', f = f' + 1 := ⟨f - 1, by omega⟩
              have hif2 : b.length ≤ i + m + f' := by omega
              have hel3 : es.length ≤ 1000000000 := by omega
              have hm1 : 1 ≤ m := by omega
              have g1 := World.block_lt_of_cell? wz _ z0
              have hzE : zE < (wz.alloc (.cells #[.int .u64 tt, .slice p4 ll.length c4] 38)).heap.size := Nat.lt_of_lt_of_le g1 (Nat.le_of_lt (lt_alloc wz _))
              have z0a := ((Nw.refl wz).alloc (.cells #[.int .u64 tt, .slice p4 ll.length c4] 38)).cell z0
              simp only at g1
              clear hm14 hmle hel hif
              go_wp2_with (first
                | (at_builtin; refine appat rfl _ _ _ rfl _ _ _ _ Try.underlying32 info_event rfl (by decide) (by decide) hB (hRz.ownsRow hrow) rfl rfl (show [Value.int .u64 tt, Value.slice p4 ll.length c4].length = 2 from rfl) (Tr.cells_newAt wz [_, _] _ _ _ rfl) (by simp [Value.oneCell']) ?_ ?_; rotate_left; (omega); intro v2 w2 hown2 hg2 hat2; obtain ⟨⟨q9, c9, rfl⟩, y9, hst2⟩ := CpSt.step hst hRz hg5 rfl hvl hrow hall hoR hown2 hg2 hat2; have z09 := ev_cell hg2 hrow hzr hzE z0a; have y91 := heap_cell y9 1; have y9f := heap_frozen y9 1; simp only [List.getElem?_toArray, List.getElem?_cons_succ, List.getElem?_cons_zero] at y91)
                | fail)
              go_roundw
              case rel => exact ⟨i + m, es ++ [(tt, ll)], _, f', by go_num, by rw [lastT_snoc], hib2, by rw [List.length_append, List.length_singleton]; exact hel2, hif2, hid (HQ.out.trans HG.out), hst2⟩
              case measure => (simp [intOf] <;> omega)
          · have hde : (ee == 0) = false := beq_eq_false_iff_ne.2 hee
            have hde2 : (ee != 0) = true := by simpa using hee
            have HF := hid (HD.out _ _ (HQ.out.trans (recs_stop hG hee)))
            clear HQ
            generalize lastT es = tj at *
            have hstR := hstz
            have y2R := y2z
            have d0 := heap_cell y2R 0
            have d1 := heap_cell y2R 1
            simp only [List.getElem?_toArray, List.getElem?_cons_succ, List.getElem?_cons_zero] at d0 d1
            have f0 := heap_frozen y2R 0
            have f1 := heap_frozen y2R 1
            go_wp2
            ((try simp only [Exit.inBlock, Exit.then]); refine bodyPost_ret (results_cell2 rfl _ _ _ _ _ _ _ rfl (heap_set (heap_set y2R 0 (.slice q1 l.length c1)) 1 (.slice qv es.length cv)) Try.underlying34 rfl (by kernel_rfl)) rfl ?_)
            rw [HF.out]
            have s1R := HS1.out _ hstR
            exact ⟨_, rfl, ⟨_, _, rfl, Tr.Sl.set2 (a := .slice q1 l.length c1) (b := .slice none 0 0) (Tr.Sl.set2 s1R y2R strs_not) (heap_set y2R 0 _) strs_not, (EvOwn.set (a := .slice q1 l.length c1) (b := .slice none 0 0) (EvOwn.set hstR.2.1 hz2 y2R (fun _ => nofun) (fun _ => nofun)) hz2 (heap_set y2R 0 _) (fun _ => nofun) (fun _ => nofun)).evs⟩, (((hn.trans (hnr.trans hnz)).setCell (p := ⟨w.heap.size, 0, none⟩) (Nat.le_refl _) _).setCell (p := ⟨w.heap.size, 1, none⟩) (Nat.le_refl _) _)⟩
    · have hdq2 := HQ2.out rfl
      go_upto_region 8 with (first
        | (go_at_call 41; refine (HHD.out _ (by repeat (first | assumption | exact Nw.refl _ | refine Nw.alloc ?_ _ | refine Nw.drew ?_ | refine Nw.drewN2 ?_ _ | (refine Nw.trans ?_ (by assumption))))).mono ?_; rintro e w1 ⟨v1, rfl, hs1, hn1⟩; obtain ⟨q1, c1, rfl, _⟩ := strs_open hs1; dsimp only at hs1 ⊢)
        | fail)
      have y5 := heap_new w1 (.cells #[.slice q1 l.length c1, .slice none 0 0] 34)
      have hnL : Nw w0 (w1.alloc (.cells #[.slice q1 l.length c1, .slice none 0 0] 34)) := hn1.alloc _
      have s1 := hs1.nw ((Nw.refl w1).alloc (.cells #[.slice q1 l.length c1, .slice none 0 0] 34))
      have hg5 := lt_alloc w1 (.cells #[.slice q1 l.length c1, .slice none 0 0] 34)
      have hg50 := hn1.size
      clear hs1 hn1
      generalize w1.alloc (.cells #[.slice q1 l.length c1, .slice none 0 0] 34) = wL at *
      generalize w1.heap.size = g5 at *
      have hz2 : w.heap.size < wL.heap.size := by omega
      have HS1 := hid (fun wr {v es} (h : CpSt wL g5 (.slice q1 l.length c1) v es wr) => show Sl wr (.slice q1 l.length c1) (Lx.strs l) from Sl.mods s1 h.2.2 (fun h0 j hj e => by subst e; exact absurd rfl (Tr.Sl.apart (s1.nw (Nw.refl _)) y5 strs_not h0 _ hj)))
      go_wp2
      go_loopw [8, 11] (fun at_ lt wr => ∃ (i : Nat) (es : Es) (v : Value) (f : Nat), at_ = .int .i64 i ∧ lt = .int .u64 (lastT es) ∧ i ≤ b.length ∧ es.length ≤ i ∧ b.length ≤ i + f ∧ Hid (recs b l.length (b.length + 1) i1 [] = recs b l.length (f + 1) i es) ∧ CpSt wL g5 (.slice q1 l.length c1) v es wr) (fun at_ _ _ => b.length - (intOf at_).toNat)
      case atStart => exact ⟨i1, [], _, b.length, rfl, rfl, hib, Nat.zero_le _, by omega, hid rfl, y5, EvOwn.nil _ _, Mods.refl _ _⟩
      case round =>
        clear s1 y5
        obtain ⟨i, es, v, f, rfl, rfl, hi, hel, hif, HQ, hst⟩ := hrel
        have hnr : Nw w0 wr := hnL.ofMods hst.2.2 (fun j e => by omega)
        have hnw := hn.trans hnr
        obtain ⟨qv, cv, rfl⟩ := hst.2.1.shape (n := es.length) rfl
        obtain ⟨tt, ll, nn, ee, hG⟩ : ∃ tt ll nn ee, get (b.drop i) l.length = ((tt, ll), nn, ee) := ⟨_, _, _, _, rfl⟩
        have HGT := hid (fun w' va (hva : Bytes w' va (b.drop i)) => show Calls Try.prog 100 #[va, .int .i64 (l.length : Int)] w' (HandsGO w' ((tt, ll), nn, ee)) by rw [← hG]; exact Rec.rget_o va (b.drop i) l.length w' hva (by rw [List.length_drop]; omega) (by omega) (by omega))
        have hBi : ∀ w', Nw wr w' → Bytes w' (.slice (some ⟨pb, po + i, none⟩) (b.length - i) (cap - i)) (b.drop i) := fun w' h => by
          have := bytes_sub (HC.out.nw (hnw.trans h)) hcap hmx' i (b.length - i) (by omega)
          rwa [List.take_of_length_le (by rw [List.length_drop]; exact Nat.le_refl _)] at this
        have HB := hid hBi
        have hck : (b.length : Int) - i = ((b.length - i : Nat) : Int) := by omega
        clear hBi
        by_cases hci : cap = i
        · have HB0 := hid (show ∀ w', Nw wr w' → Bytes w' (.slice (some ⟨pb, po, none⟩) (b.length - i) 0) (b.drop i) from fun w' _ => by
            have e : b.drop i = [] := List.drop_eq_nil_of_le (by omega)
            rw [e, show b.length - i = 0 by omega]
            exact Bytes.mk (fun _ h => by cases h) rfl (Nat.zero_le _) (by simp [maxLen]) (fun _ => rfl))
          clear HB
          go_upto_region 10 with (first
            | (go_at_call 100; refine (HGT.out _ _ (HB0.out _ (by repeat (first | assumption | exact Nw.refl _ | refine Nw.alloc ?_ _ | refine Nw.drew ?_ | refine Nw.drewN2 ?_ _ | (refine Nw.trans ?_ (by assumption)))))).mono ?_; rintro e w4 ⟨v4, rfl, ho4, hn4⟩; obtain ⟨p4, c4, rfl⟩ := ints_shape ho4; dsimp only at ho4 ⊢)
            | fail)
          clear hci
          have hnz : Nw wr (w4.alloc (.cells #[.int .u64 tt, .slice p4 ll.length c4] 38)) := hn4.alloc _
          obtain ⟨z0, z1⟩ := box2 w4 (.int .u64 tt) (.slice p4 ll.length c4) 38
          have hoz := ho4.nw ((Nw.refl w4).alloc (.cells #[.int .u64 tt, .slice p4 ll.length c4] 38))
          have hzr := hn4.size
          have hLr := hst.2.2.size
          clear ho4 hn4
          generalize w4.alloc (.cells #[.int .u64 tt, .slice p4 ll.length c4] 38) = wz at *
          generalize w4.heap.size = zE at *
          have hstz := hst.nw hnz
          have y2z := (hnr.trans hnz).heap y2
          have e0 := heap_cell hstz.1 0
          have e1 := heap_cell hstz.1 1
          simp only [List.getElem?_toArray, List.getElem?_cons_succ, List.getElem?_cons_zero] at e0 e1
          by_cases hee : ee = 0
          · subst hee
            obtain ⟨m, rfl, hm14, hmle, ht0, ht1, hr64⟩ := get_ok _ _ _ _ _ hG
            rw [List.length_drop] at hmle
            by_cases htt : tt < lastT es
            · have hd3 : decide (tt < lastT es) = true := decide_eq_true htt
              have hy := lastT_yes ht0 htt
              have HF := hid (HD.out _ _ (HQ.out.trans (recs_fall hG hy.1 hy.2)))
              clear HQ htt hm14 hmle ht0 ht1 hr64 hy
              generalize lastT es = tj at *
              have hstR := hstz
              have y2R := y2z
              have d0 := heap_cell y2R 0
              have d1 := heap_cell y2R 1
              simp only [List.getElem?_toArray, List.getElem?_cons_succ, List.getElem?_cons_zero] at d0 d1
              have f0 := heap_frozen y2R 0
              have f1 := heap_frozen y2R 1
              go_wp2
              ((try simp only [Exit.inBlock, Exit.then]); refine bodyPost_ret (results_cell2 rfl _ _ _ _ _ _ _ rfl (heap_set (heap_set y2R 0 (.slice q1 l.length c1)) 1 (.slice qv es.length cv)) Try.underlying34 rfl (by kernel_rfl)) rfl ?_)
              rw [HF.out]
              have s1R := HS1.out _ hstR
              exact ⟨_, rfl, ⟨_, _, rfl, Tr.Sl.set2 (a := .slice q1 l.length c1) (b := .slice none 0 0) (Tr.Sl.set2 s1R y2R strs_not) (heap_set y2R 0 _) strs_not, (EvOwn.set (a := .slice q1 l.length c1) (b := .slice none 0 0) (EvOwn.set hstR.2.1 hz2 y2R (fun _ => nofun) (fun _ => nofun)) hz2 (heap_set y2R 0 _) (fun _ => nofun) (fun _ => nofun)).evs⟩, (((hn.trans (hnr.trans hnz)).setCell (p := ⟨w.heap.size, 0, none⟩) (Nat.le_refl _) _).setCell (p := ⟨w.heap.size, 1, none⟩) (Nat.le_refl _) _)⟩
            · have hd3 : decide (tt < lastT es) = false := decide_eq_false htt
              have HG := hid (recs_go (f := f) (es := es) (p := l.length) hG (lastT_no ht0 htt))
              clear htt hG ht0 ht1 hr64
              generalize lastT es = tj at *
              obtain ⟨vs, hvl, hrow, hall⟩ := hst.2.1
              have hRz : Nw wr (wz.alloc (.cells #[.int .u64 tt, .slice p4 ll.length c4] 38)) := hnz.alloc _
              have hoR := hoz.nw ((Nw.refl wz).alloc (.cells #[.int .u64 tt, .slice p4 ll.length c4] 38))
              have hB : wL.heap.size ≤ (wz.alloc (.cells #[.int .u64 tt, .slice p4 ll.length c4] 38)).heap.size := Nat.le_trans hst.2.2.size hRz.size
              have hel2 : es.length + 1 ≤ i + m := by omega
              have hib2 : i + m ≤ b.length := by omega
              obtain ⟨f', rfl⟩ : ∃ f', f = f' + 1 := ⟨f - 1, by omega⟩
              have hif2 : b.length ≤ i + m + f' := by omega
              have hel3 : es.length ≤ 1000000000 := by omega
              have hm1 : 1 ≤ m := by omega
              have g1 := World.block_lt_of_cell? wz _ z0
              have hzE : zE < (wz.alloc (.cells #[.int .u64 tt, .slice p4 ll.length c4] 38)).heap.size := Nat.lt_of_lt_of_le g1 (Nat.le_of_lt (lt_alloc wz _))
              have z0a := ((Nw.refl wz).alloc (.cells #[.int .u64 tt, .slice p4 ll.length c4] 38)).cell z0
              simp only at g1
              clear hm14 hmle hel hif
              go_wp2_with (first
                | (at_builtin; refine appat rfl _ _ _ rfl _ _ _ _ Try.underlying32 info_event rfl (by decide) (by decide) hB (hRz.ownsRow hrow) rfl rfl (show [Value.int .u64 tt, Value.slice p4 ll.length c4].length = 2 from rfl) (Tr.cells_newAt wz [_, _] _ _ _ rfl) (by simp [Value.oneCell']) ?_ ?_; rotate_left; (omega); intro v2 w2 hown2 hg2 hat2; obtain ⟨⟨q9, c9, rfl⟩, y9, hst2⟩ := CpSt.step hst hRz hg5 rfl hvl hrow hall hoR hown2 hg2 hat2; have z09 := ev_cell hg2 hrow hzr hzE z0a; have y91 := heap_cell y9 1; have y9f := heap_frozen y9 1; simp only [List.getElem?_toArray, List.getElem?_cons_succ, List.getElem?_cons_zero] at y91)
                | fail)
              go_roundw
              case rel => exact ⟨i + m, es ++ [(tt, ll)], _, f', by go_num, by rw [lastT_snoc], hib2, by rw [List.length_append, List.length_singleton]; exact hel2, hif2, hid (HQ.out.trans HG.out), hst2⟩
              case measure => (simp [intOf] <;> omega)
          · have hde : (ee == 0) = false := beq_eq_false_iff_ne.2 hee
            have hde2 : (ee != 0) = true := by simpa using hee
            have HF := hid (HD.out _ _ (HQ.out.trans (recs_stop hG hee)))
            clear HQ
            generalize lastT es = tj at *
            have hstR := hstz
            have y2R := y2z
            have d0 := heap_cell y2R 0
            have d1 := heap_cell y2R 1
            simp only [List.getElem?_toArray, List.getElem?_cons_succ, List.getElem?_cons_zero] at d0 d1
            have f0 := heap_frozen y2R 0
            have f1 := heap_frozen y2R 1
            go_wp2
            ((try simp only [Exit.inBlock, Exit.then]); refine bodyPost_ret (results_cell2 rfl _ _ _ _ _ _ _ rfl (heap_set (heap_set y2R 0 (.slice q1 l.length c1)) 1 (.slice qv es.length cv)) Try.underlying34 rfl (by kernel_rfl)) rfl ?_)
            rw [HF.out]
            have s1R := HS1.out _ hstR
            exact ⟨_, rfl, ⟨_, _, rfl, Tr.Sl.set2 (a := .slice q1 l.length c1) (b := .slice none 0 0) (Tr.Sl.set2 s1R y2R strs_not) (heap_set y2R 0 _) strs_not, (EvOwn.set (a := .slice q1 l.length c1) (b := .slice none 0 0) (EvOwn.set hstR.2.1 hz2 y2R (fun _ => nofun) (fun _ => nofun)) hz2 (heap_set y2R 0 _) (fun _ => nofun) (fun _ => nofun)).evs⟩, (((hn.trans (hnr.trans hnz)).setCell (p := ⟨w.heap.size, 0, none⟩) (Nat.le_refl _) _).setCell (p := ⟨w.heap.size, 1, none⟩) (Nat.le_refl _) _)⟩
        · have HB0 := HB
          clear HB
          go_upto_region 10 with (first
            | (go_at_call 100; refine (HGT.out _ _ (HB0.out _ (by repeat (first | assumption | exact Nw.refl _ | refine Nw.alloc ?_ _ | refine Nw.drew ?_ | refine Nw.drewN2 ?_ _ | (refine Nw.trans ?_ (by assumption)))))).mono ?_; rintro e w4 ⟨v4, rfl, ho4, hn4⟩; obtain ⟨p4, c4, rfl⟩ := ints_shape ho4; dsimp only at ho4 ⊢)
            | fail)
          clear hci
          have hnz : Nw wr (w4.alloc (.cells #[.int .u64 tt, .slice p4 ll.length c4] 38)) := hn4.alloc _
          obtain ⟨z0, z1⟩ := box2 w4 (.int .u64 tt) (.slice p4 ll.length c4) 38
          have hoz := ho4.nw ((Nw.refl w4).alloc (.cells #[.int .u64 tt, .slice p4 ll.length c4] 38))
          have hzr := hn4.size
          have hLr := hst.2.2.size
          clear ho4 hn4
          generalize w4.alloc (.cells #[.int .u64 tt, .slice p4 ll.length c4] 38) = wz at *
          generalize w4.heap.size = zE at *
          have hstz := hst.nw hnz
          have y2z := (hnr.trans hnz).heap y2
          have e0 := heap_cell hstz.1 0
          have e1 := heap_cell hstz.1 1
          simp only [List.getElem?_toArray, List.getElem?_cons_succ, List.getElem?_cons_zero] at e0 e1
          by_cases hee : ee = 0
          · subst hee
            obtain ⟨m, rfl, hm14, hmle, ht0, ht1, hr64⟩ := get_ok _ _ _ _ _ hG
            rw [List.length_drop] at hmle
            by_cases htt : tt < lastT es
            · have hd3 : decide (tt < lastT es) = true := decide_eq_true htt
              have hy := lastT_yes ht0 htt
              have HF := hid (HD.out _ _ (HQ.out.trans (recs_fall hG hy.1 hy.2)))
              clear HQ htt hm14 hmle ht0 ht1 hr64 hy
              generalize lastT es = tj at *
              have hstR := hstz
              have y2R := y2z
              have d0 := heap_cell y2R 0
              have d1 := heap_cell y2R 1
              simp only [List.getElem?_toArray, List.getElem?_cons_succ, List.getElem?_cons_zero] at d0 d1
              have f0 := heap_frozen y2R 0
              have f1 := heap_frozen y2R 1
              go_wp2
              ((try simp only [Exit.inBlock, Exit.then]); refine bodyPost_ret (results_cell2 rfl _ _ _ _ _ _ _ rfl (heap_set (heap_set y2R 0 (.slice q1 l.length c1)) 1 (.slice qv es.length cv)) Try.underlying34 rfl (by kernel_rfl)) rfl ?_)
              rw [HF.out]
              have s1R := HS1.out _ hstR
              exact ⟨_, rfl, ⟨_, _, rfl, Tr.Sl.set2 (a := .slice q1 l.length c1) (b := .slice none 0 0) (Tr.Sl.set2 s1R y2R strs_not) (heap_set y2R 0 _) strs_not, (EvOwn.set (a := .slice q1 l.length c1) (b := .slice none 0 0) (EvOwn.set hstR.2.1 hz2 y2R (fun _ => nofun) (fun _ => nofun)) hz2 (heap_set y2R 0 _) (fun _ => nofun) (fun _ => nofun)).evs⟩, (((hn.trans (hnr.trans hnz)).setCell (p := ⟨w.heap.size, 0, none⟩) (Nat.le_refl _) _).setCell (p := ⟨w.heap.size, 1, none⟩) (Nat.le_refl _) _)⟩
            · have hd3 : decide (tt < lastT es) = false := decide_eq_false htt
              have HG := hid (recs_go (f := f) (es := es) (p := l.length) hG (lastT_no ht0 htt))
              clear htt hG ht0 ht1 hr64
              generalize lastT es = tj at *
              obtain ⟨vs, hvl, hrow, hall⟩ := hst.2.1
              have hRz : Nw wr (wz.alloc (.cells #[.int .u64 tt, .slice p4 ll.length c4] 38)) := hnz.alloc _
              have hoR := hoz.nw ((Nw.refl wz).alloc (.cells #[.int .u64 tt, .slice p4 ll.length c4] 38))
              have hB : wL.heap.size ≤ (wz.alloc (.cells #[.int .u64 tt, .slice p4 ll.length c4] 38)).heap.size := Nat.le_trans hst.2.2.size hRz.size
              have hel2 : es.length + 1 ≤ i + m := by omega
              have hib2 : i + m ≤ b.length := by omega
              obtain ⟨f', rfl⟩ : ∃ f', f = f' + 1 := ⟨f - 1, by omega⟩
              have hif2 : b.length ≤ i + m + f' := by omega
              have hel3 : es.length ≤ 1000000000 := by omega
              have hm1 : 1 ≤ m := by omega
              have g1 := World.block_lt_of_cell? wz _ z0
              have hzE : zE < (wz.alloc (.cells #[.int .u64 tt, .slice p4 ll.length c4] 38)).heap.size := Nat.lt_of_lt_of_le g1 (Nat.le_of_lt (lt_alloc wz _))
              have z0a := ((Nw.refl wz).alloc (.cells #[.int .u64 tt, .slice p4 ll.length c4] 38)).cell z0
              simp only at g1
              clear hm14 hmle hel hif
              go_wp2_with (first
                | (at_builtin; refine appat rfl _ _ _ rfl _ _ _ _ Try.underlying32 info_event rfl (by decide) (by decide) hB (hRz.ownsRow hrow) rfl rfl (show [Value.int .u64 tt, Value.slice p4 ll.length c4].length = 2 from rfl) (Tr.cells_newAt wz [_, _] _ _ _ rfl) (by simp [Value.oneCell']) ?_ ?_; rotate_left; (omega); intro v2 w2 hown2 hg2 hat2; obtain ⟨⟨q9, c9, rfl⟩, y9, hst2⟩ := CpSt.step hst hRz hg5 rfl hvl hrow hall hoR hown2 hg2 hat2; have z09 := ev_cell hg2 hrow hzr hzE z0a; have y91 := heap_cell y9 1; have y9f := heap_frozen y9 1; simp only [List.getElem?_toArray, List.getElem?_cons_succ, List.getElem?_cons_zero] at y91)
                | fail)
              go_roundw
              case rel => exact ⟨i + m, es ++ [(tt, ll)], _, f', by go_num, by rw [lastT_snoc], hib2, by rw [List.length_append, List.length_singleton]; exact hel2, hif2, hid (HQ.out.trans HG.out), hst2⟩
              case measure => (simp [intOf] <;> omega)
          · have hde : (ee == 0) = false := beq_eq_false_iff_ne.2 hee
            have hde2 : (ee != 0) = true := by simpa using hee
            have HF := hid (HD.out _ _ (HQ.out.trans (recs_stop hG hee)))
            clear HQ
            generalize lastT es = tj at *
            have hstR := hstz
            have y2R := y2z
            have d0 := heap_cell y2R 0
            have d1 := heap_cell y2R 1
            simp only [List.getElem?_toArray, List.getElem?_cons_succ, List.getElem?_cons_zero] at d0 d1
            have f0 := heap_frozen y2R 0
            have f1 := heap_frozen y2R 1
            go_wp2
            ((try simp only [Exit.inBlock, Exit.then]); refine bodyPost_ret (results_cell2 rfl _ _ _ _ _ _ _ rfl (heap_set (heap_set y2R 0 (.slice q1 l.length c1)) 1 (.slice qv es.length cv)) Try.underlying34 rfl (by kernel_rfl)) rfl ?_)
            rw [HF.out]
            have s1R := HS1.out _ hstR
            exact ⟨_, rfl, ⟨_, _, rfl, Tr.Sl.set2 (a := .slice q1 l.length c1) (b := .slice none 0 0) (Tr.Sl.set2 s1R y2R strs_not) (heap_set y2R 0 _) strs_not, (EvOwn.set (a := .slice q1 l.length c1) (b := .slice none 0 0) (EvOwn.set hstR.2.1 hz2 y2R (fun _ => nofun) (fun _ => nofun)) hz2 (heap_set y2R 0 _) (fun _ => nofun) (fun _ => nofun)).evs⟩, (((hn.trans (hnr.trans hnz)).setCell (p := ⟨w.heap.size, 0, none⟩) (Nat.le_refl _) _).setCell (p := ⟨w.heap.size, 1, none⟩) (Nat.le_refl _) _)⟩
  · have HF := hid (recs_no hH he)
    have hde : (e0 != 0) = true := by simpa using he
    clear hc hH hp0
    go_enter Try.func90, Try.ntmps90
    go_upto_region 1 with fail
    have y2 := heap_new w (.cells #[.slice none 0 0, .slice none 0 0] 34)
    have hn := (Nw.refl w).alloc (.cells #[.slice none 0 0, .slice none 0 0] 34)
    have hz0 := lt_alloc w (.cells #[.slice none 0 0, .slice none 0 0] 34)
    generalize w.alloc (.cells #[.slice none 0 0, .slice none 0 0] 34) = w0 at *
    have hdq := HQ1.out
    cases dq
    · skip
      go_wp2_with (first
        | (go_at_call 41; refine (HHD.out _ (by repeat (first | assumption | exact Nw.refl _ | refine Nw.alloc ?_ _ | refine Nw.drew ?_ | refine Nw.drewN2 ?_ _ | (refine Nw.trans ?_ (by assumption))))).mono ?_; rintro e w1 ⟨v1, rfl, hs1, hn1⟩; have y2 := hn1.heap y2; have d0 := heap_cell y2 0; have d1 := heap_cell y2 1; simp only [List.getElem?_toArray, List.getElem?_cons_succ, List.getElem?_cons_zero] at d0 d1; have f0 := heap_frozen y2 0; have f1 := heap_frozen y2 1; dsimp only at hs1 ⊢)
        | fail)
      ((try simp only [Exit.inBlock, Exit.then]); refine bodyPost_ret (results_cell2 rfl _ _ _ _ _ _ _ rfl (heap_set (heap_set y2 0 (.slice none 0 0)) 1 (.slice none 0 0)) Try.underlying34 rfl (by kernel_rfl)) rfl ?_)
      rw [HF.out]
      exact ⟨_, rfl, TrR.none_ _, ((hn.trans hn1).setCell (p := ⟨w.heap.size, 0, none⟩) (Nat.le_refl _) _).setCell (p := ⟨w.heap.size, 1, none⟩) (Nat.le_refl _) _⟩
    · have hdq2 := HQ2.out rfl
      go_wp2_with (first
        | (go_at_call 41; refine (HHD.out _ (by repeat (first | assumption | exact Nw.refl _ | refine Nw.alloc ?_ _ | refine Nw.drew ?_ | refine Nw.drewN2 ?_ _ | (refine Nw.trans ?_ (by assumption))))).mono ?_; rintro e w1 ⟨v1, rfl, hs1, hn1⟩; have y2 := hn1.heap y2; have d0 := heap_cell y2 0; have d1 := heap_cell y2 1; simp only [List.getElem?_toArray, List.getElem?_cons_succ, List.getElem?_cons_zero] at d0 d1; have f0 := heap_frozen y2 0; have f1 := heap_frozen y2 1; dsimp only at hs1 ⊢)
        | fail)
      ((try simp only [Exit.inBlock, Exit.then]); refine bodyPost_ret (results_cell2 rfl _ _ _ _ _ _ _ rfl (heap_set (heap_set y2 0 (.slice none 0 0)) 1 (.slice none 0 0)) Try.underlying34 rfl (by kernel_rfl)) rfl ?_)
      rw [HF.out]
      exact ⟨_, rfl, TrR.none_ _, ((hn.trans hn1).setCell (p := ⟨w.heap.size, 0, none⟩) (Nat.le_refl _) _).setCell (p := ⟨w.heap.size, 1, none⟩) (Nat.le_refl _) _⟩
/-- A cell of a block of two slices is written: events elsewhere read as ever. -/
theorem Evs.set2 {w : World} {g j : Nat} {v x : Value} {es : Es} {a b : Value} {e : TypeId} {fr : Nat × Nat} (h : Evs w v es) (hg : w.heap[g]? = some (.cells #[a, b] e fr)) (ha : ∀ k z, Value.int k z ≠ a) (hb : ∀ k z, Value.int k z ≠ b) : Evs (w.setCell ⟨g, j, none⟩ x) v es := by
  obtain ⟨p, cap, e1, h1, h2, h3, h4⟩ := h
  refine ⟨p, cap, e1, h1, h2, h3, fun i hi => ?_⟩
  obtain ⟨b1, o1, vi, e2, c0, c1, hs⟩ := h4 i hi
  have hne : b1 ≠ g := by
    rintro rfl
    rw [heap_cell hg] at c0
    match o1 + i * 2, c0 with
    | 0, c0 => simp at c0; exact ha _ _ c0.symm
    | 1, c0 => simp at c0; exact hb _ _ c0.symm
    | n + 2, c0 => simp at c0
  have ms := Mods.setCell (Mods.refl (fun k => k = g) w) (p := ⟨g, j, none⟩) rfl x
  exact ⟨b1, o1, vi, e2, ms.cell c0 hne, ms.cell c1 hne, Tr.Sl.set2 hs hg (Tr.i64s_not (fun z => ha _ z) (fun z => hb _ z))⟩
end Lg
end Go.Proofs.Ytdihoedehmfgfaa
