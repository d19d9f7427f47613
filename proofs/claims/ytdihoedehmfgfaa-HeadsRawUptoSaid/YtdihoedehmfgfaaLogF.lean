/- The contract of log.Decode. No condition but lengths. -/
import Derived.Test.YtdihoedehmfgfaaLogD
import Derived.Test.YtdihoedehmfgfaaRecD
set_option linter.unusedSimpArgs false
set_option linter.unusedVariables false
namespace Go.Proofs.Ytdihoedehmfgfaa
open Go.ChangeShapes Go.WideShapes Go.ChangeAt Go.RowKit
namespace Lg
open Go.Proofs.Ytdihoedehmfgfaa.Lx (isIn nameB strs_open strs_cell)
open Go.Proofs.Ytdihoedehmfgfaa.Sum (byte put right Hands8 HandsR)
open Go.Proofs.Ytdihoedehmfgfaa.Rec (rises rec_ get putE rec_len put_len i64s_open i64_cell HandsGO results_cell3)
open Go.Proofs.Ytdihoedehmfgfaa.Tr (T Es tm ids mayP namesP nmB nOk namesTo Evs EC Small box2 lt_alloc TrR EvOwn CpSt CloneS ints_shape strs_not evc own_apart info_event)
/-! ### Plain -/
theorem parse_ge (b : List UInt8) : ∀ (k i : Nat) (acc l : List ByteArray) (j : Nat), parse b k i acc = some (l, j) → i ≤ j
  | 0, i, acc, l, j, h => by
    simp only [parse, Option.some.injEq, Prod.mk.injEq] at h
    omega
  | k + 1, i, acc, l, j, h => by
    unfold parse at h
    split at h
    · cases h
    · have := parse_ge b k _ _ _ _ h
      omega
theorem headE_ok {b : List UInt8} {l : List ByteArray} {i : Nat} (h : (headE b l i).2.2 = 0) : headE b l i = (l, (i : Int) + 4, 0) := by
  unfold headE at *
  split
  · rfl
  · rename_i hr
    rw [if_neg hr] at h
    exact absurd h (by simp [noHd])
theorem head_ok (b : List UInt8) (l : List ByteArray) (i : Int) (h : headL b = (l, i, 0)) : ∃ n : Nat, i = n ∧ 9 ≤ n ∧ n ≤ b.length ∧ namesP l = true := by
  unfold headL at h
  split at h
  · cases h
  split at h
  · cases h
  split at h
  · cases h
  rename_i l' i' hp
  split at h
  · cases h
  rename_i hn
  have h2 := headE_ok (b := b) (l := l') (i := i') (by rw [h])
  rw [h] at h2
  simp only [Prod.mk.injEq, and_true] at h2
  obtain ⟨rfl, rfl⟩ := h2
  have := parse_ge b _ _ _ _ _ hp
  refine ⟨i' + 4, by omega, by omega, by omega, ?_⟩
  cases hb : namesP l with
  | true => rfl
  | false => exact absurd (Or.inr hb) hn
theorem get_ok (b : List UInt8) (p : Int) (t n : Int) (l : List Int) (h : get b p = ((t, l), n, 0)) : ∃ m : Nat, n = m ∧ m = 14 + l.length ∧ m ≤ b.length ∧ 0 ≤ t ∧ t < 18446744073709551616 ∧ rises l 64 = true := by
  obtain ⟨m, h1, h2, h3, h4, h5, h6⟩ := Rec.get_canon b p (t, l) n h
  refine ⟨m, h1, ?_, h2, h4, h5, h6⟩
  rw [Rec.putE_yes h6, List.nil_append] at h3
  have := congrArg List.length h3
  rw [rec_len, List.length_take] at this
  dsimp only at this
  omega
theorem dec_no {b : List UInt8} {l : List ByteArray} {i e : Int} (h : headL b = (l, i, e)) (he : e ≠ 0) : decP b = (⟨[], []⟩, 0, e) := by
  unfold decP
  rw [h]
  exact if_pos he
theorem dec_yes {b : List UInt8} {l : List ByteArray} {i : Nat} {es : Es} {f : Int} (h : headL b = (l, (i : Int), 0)) (hr : recs b l.length (b.length + 1) i [] = (es, f)) : decP b = ((⟨l, es⟩ : T), ((es.length : Int), if f = 13 then 0 else f)) := by
  unfold decP recsP
  rw [h]
  dsimp only
  rw [Int.toNat_natCast, hr]
  exact if_neg (by decide)
theorem recs_stop {b : List UInt8} {p : Int} {f i : Nat} {es : Es} {x : Int × List Int} {n e : Int} (h : get (b.drop i) p = (x, n, e)) (he : e ≠ 0) : recs b p (f + 1) i es = (es, e) := by
  rw [recs, h]
  exact if_pos he
theorem recs_fall {b : List UInt8} {p : Int} {f i : Nat} {es : Es} {x : Int × List Int} {n : Int} (h : get (b.drop i) p = (x, n, 0)) (h2 : 0 < es.length) (h3 : x.1 < tm es (es.length - 1)) : recs b p (f + 1) i es = (es, 8) := by
  rw [recs, h]
  exact (if_neg (by decide)).trans (if_pos (And.intro h2 h3))
theorem recs_go {b : List UInt8} {p : Int} {f i n : Nat} {es : Es} {x : Int × List Int} (h : get (b.drop i) p = (x, (n : Int), 0)) (h2 : ¬ (0 < es.length ∧ x.1 < tm es (es.length - 1))) : recs b p (f + 1) i es = recs b p f (i + n) (es ++ [x]) := by
  rw [recs, h]
  exact (if_neg (by decide)).trans (if_neg h2)
/-! ### The walk -/
/-- A call hands back a trace, a number and an error. -/
def HandsD (w : World) (r : T × Int × Int) (e : Ending) (w' : World) : Prop := ∃ v, e = .returned (.tuple #[v, .int .i64 r.2.1, .int .i64 r.2.2]) ∧ TrR w' v r.1 ∧ Nw w w'
set_option maxRecDepth 20000 in
set_option maxHeartbeats 1600000 in
theorem decode_c (v : Value) (b : List UInt8) (w : World) (hb : Bytes w v b) (hl : b.length ≤ 1000000000) : Calls Try.prog 34 #[v] w (HandsD w (decP b)) := by
  obtain ⟨l, i0, e0, hH⟩ : ∃ l i e, headL b = (l, i, e) := ⟨_, _, _, rfl⟩
  have HHD := hid (fun w' (h : Nw w w') => show Calls Try.prog 64 #[v] w' (HandsHd w' (l, i0, e0)) by rw [← hH]; exact head_c v b w' (hb.nw h) hl)
  obtain ⟨p, cap, rfl, hcap, hmx, hp0, hc⟩ := hb.open
  have hmx' := hmx
  unfold maxLen at hmx
  have HC := hid hc
  clear hb
  by_cases he : e0 = 0
  · subst he
    obtain ⟨i1, rfl, hi9, hib, hnm⟩ := head_ok b l i0 hH
    obtain ⟨pb, po, rfl⟩ := hc.place (by rw [u8s_length]; omega)
    have HD := hid (fun es f h => dec_yes (es := es) (f := f) hH h)
    have hl64 := names_le hnm
    clear hc hH hnm hp0
    go_enter Try.func34, Try.ntmps34
    go_upto_region 1 with fail
    have y2 := heap_new w (.cells #[.slice none 0 0, .slice none 0 0] 34)
    have hn := (Nw.refl w).alloc (.cells #[.slice none 0 0, .slice none 0 0] 34)
    have hz0 := lt_alloc w (.cells #[.slice none 0 0, .slice none 0 0] 34)
    generalize w.alloc (.cells #[.slice none 0 0, .slice none 0 0] 34) = w0 at *
    go_wp2_with (first
      | (go_at_call 64; refine (HHD.out _ (by repeat (first | assumption | exact Nw.refl _ | refine Nw.alloc ?_ _ | refine Nw.drew ?_ | refine Nw.drewN2 ?_ _ | (refine Nw.trans ?_ (by assumption))))).mono ?_; rintro e w1 ⟨v1, rfl, hs1, hn1⟩; obtain ⟨q1, c1, rfl, _⟩ := strs_open hs1; dsimp only at hs1 ⊢)
      | fail)
    have y5 := heap_new w1 (.cells #[.slice q1 l.length c1, .slice none 0 0] 34)
    have hnL : Nw w0 (w1.alloc (.cells #[.slice q1 l.length c1, .slice none 0 0] 34)) := hn1.alloc _
    have s1 := hs1.nw ((Nw.refl w1).alloc (.cells #[.slice q1 l.length c1, .slice none 0 0] 34))
    have hg5 := lt_alloc w1 (.cells #[.slice q1 l.length c1, .slice none 0 0] 34)
    have hg50 := hn1.size
    clear hs1 hn1
    generalize w1.alloc (.cells #[.slice q1 l.length c1, .slice none 0 0] 34) = wL at *
    generalize w1.heap.size = g5 at *
    have hz2 : w.heap.size < wL.heap.size := by omega
    have HS1 := hid (fun wr {v es} (h : CpSt wL g5 (.slice q1 l.length c1) v es wr) => show Sl wr (.slice q1 l.length c1) (Lx.strs l) from Sl.mods s1 h.2.2 (fun h0 j hj e => by subst e; exact absurd rfl (Tr.Sl.apart (s1.nw (Nw.refl _)) y5 strs_not h0 _ hj)))
    go_loopw [6] (fun at_ wr => ∃ (i : Nat) (es : Es) (v : Value) (f : Nat), at_ = .int .i64 i ∧ i ≤ b.length ∧ es.length ≤ i ∧ b.length ≤ i + f ∧ Hid (recs b l.length (b.length + 1) i1 [] = recs b l.length (f + 1) i es) ∧ CpSt wL g5 (.slice q1 l.length c1) v es wr) (fun at_ _ => b.length - (intOf at_).toNat)
    case atStart => exact ⟨i1, [], _, b.length, rfl, hib, Nat.zero_le _, by omega, hid rfl, y5, EvOwn.nil _ _, Mods.refl _ _⟩
    case round =>
      clear s1 y5
      obtain ⟨i, es, v, f, rfl, hi, hel, hif, HQ, hst⟩ := hrel
      have hnr : Nw w0 wr := hnL.ofMods hst.2.2 (fun j e => by omega)
      have hnw := hn.trans hnr
      obtain ⟨qv, cv, rfl⟩ := hst.2.1.shape (n := es.length) rfl
      obtain ⟨tt, ll, nn, ee, hG⟩ : ∃ tt ll nn ee, get (b.drop i) l.length = ((tt, ll), nn, ee) := ⟨_, _, _, _, rfl⟩
      have HGT := hid (fun w' va (hva : Bytes w' va (b.drop i)) => show Calls Try.prog 60 #[va, .int .i64 (l.length : Int)] w' (HandsGO w' ((tt, ll), nn, ee)) by rw [← hG]; exact Rec.get_o va (b.drop i) l.length w' hva (by rw [List.length_drop]; omega) (by omega) (by omega))
      have hBi : ∀ w', Nw wr w' → Bytes w' (.slice (some ⟨pb, po + i, none⟩) (b.length - i) (cap - i)) (b.drop i) := fun w' h => by
        have := bytes_sub (HC.out.nw (hnw.trans h)) hcap hmx' i (b.length - i) (by omega)
        rwa [List.take_of_length_le (by rw [List.length_drop]; exact Nat.le_refl _)] at this
      have HB := hid hBi
      have hck : (b.length : Int) - i = ((b.length - i : Nat) : Int) := by omega
      clear hBi
      by_cases hci : cap = i
      · have HB0 := hid (show ∀ w', Nw wr w' → Bytes w' (.slice (some ⟨pb, po, none⟩) (b.length - i) 0) (b.drop i) from fun w' _ => by
          have e : b.drop i = [] := List.drop_eq_nil_of_le (by omega)
          rw [e, show b.length - i = 0 by omega]
          exact Bytes.mk (fun _ h => by cases h) rfl (Nat.zero_le _) (by simp [maxLen]) (fun _ => rfl))
        clear HB
        go_upto_region 6 with (first
          | (go_at_call 60; refine (HGT.out _ _ (HB0.out _ (by repeat (first | assumption | exact Nw.refl _ | refine Nw.alloc ?_ _ | refine Nw.drew ?_ | refine Nw.drewN2 ?_ _ | (refine Nw.trans ?_ (by assumption)))))).mono ?_; rintro e w4 ⟨v4, rfl, ho4, hn4⟩; obtain ⟨p4, c4, rfl⟩ := ints_shape ho4; dsimp only at ho4 ⊢)
          | fail)
        clear hci
        have hnz : Nw wr (w4.alloc (.cells #[.int .u64 tt, .slice p4 ll.length c4] 38)) := hn4.alloc _
        obtain ⟨z0, z1⟩ := box2 w4 (.int .u64 tt) (.slice p4 ll.length c4) 38
        have hoz := ho4.nw ((Nw.refl w4).alloc (.cells #[.int .u64 tt, .slice p4 ll.length c4] 38))
        have hsz4 := hn4.size
        clear ho4 hn4
        generalize w4.alloc (.cells #[.int .u64 tt, .slice p4 ll.length c4] 38) = wz at *
        generalize w4.heap.size = zE at *
        have hstz := hst.nw hnz
        have y2z := (hnr.trans hnz).heap y2
        have e0 := heap_cell hstz.1 0
        have e1 := heap_cell hstz.1 1
        simp only [List.getElem?_toArray, List.getElem?_cons_succ, List.getElem?_cons_zero] at e0 e1
        have g1 := World.block_lt_of_cell? wz _ z0
        have g2 := lt_of_heap hstz.1
        simp only at g1
        by_cases hee : ee = 0
        · subst hee
          obtain ⟨m, rfl, hm14, hmle, ht0, ht1, hr64⟩ := get_ok _ _ _ _ _ hG
          rw [List.length_drop] at hmle
          clear ht0 ht1 hr64
          by_cases hpos : 0 < es.length
          · have hd2 : decide ((0 : Int) < es.length) = true := decide_eq_true (by omega)
            have hd2n : decide (0 < es.length) = true := decide_eq_true hpos
            obtain ⟨p', cap', e', hc1', hc2', hc3', hec⟩ := hstz.2.1.evs
            cases e'
            obtain ⟨b7, o7, vj, rfl, d0, _, _⟩ := hec (es.length - 1) (by omega)
            have ek : ((es.length : Int) - 1).toNat = es.length - 1 := by omega
            have gd := World.block_lt_of_cell? wz _ d0
            simp only at gd
            clear hec hc1' hc2' hc3'
            by_cases htt : tt < tm es (es.length - 1)
            · have hd3 : decide (tt < tm es (es.length - 1)) = true := decide_eq_true htt
              have HF := hid ((HD.out _ _ (HQ.out.trans (recs_fall hG hpos htt))).trans (show _ = ((⟨l, es⟩ : T), ((es.length : Int), (8 : Int))) by rw [if_neg (by decide)]))
              clear HQ htt hm14 hmle
              generalize tm es (es.length - 1) = tj at *
              go_upto_region 7 with fail
              refine wp_region_stairs (by kernel_rfl) (by kernel_rfl) (by kernel_rfl) ?_
              iterate 18
                refine Stairs.is ?_ ?_ ?_
                rotate_left 1
                · intro x wR hR hd K hK
                  simp only [Act.put, List.setIfInBounds_toArray, List.set_cons_zero, List.set_cons_succ, Nat.reduceAdd, List.length_nil, List.length_cons, List.nil_append, List.cons_append, Say.ok] at hK ⊢
                  clear hd
                  change Hid _ at hK
                  obtain ⟨hcR, hfR, hzR⟩ := nwc hR
                  first | (refine wanted_yes ?_ ?_; rfl) | (refine wanted_no ?_ ?_; rfl)
                  go_wp2_with (first | fail)
                  all_goals (refine hK.out _ _ ?_ ?_ <;> first | (solve | (repeat (first | assumption | exact Nw.refl _ | refine Nw.alloc ?_ _ | refine Nw.drew ?_ | refine Nw.drewN2 ?_ _ | (refine Nw.trans ?_ (by assumption))))) | exact rfl)
                try simp only [Act.put, List.setIfInBounds_toArray, List.set_cons_zero, List.set_cons_succ, Nat.reduceAdd, List.length_nil, List.length_cons, List.nil_append, List.cons_append]
              refine Stairs.nil ?_
              intro x wR hR hx
              clear hx
              obtain ⟨hcR, hfR, hzR⟩ := nwc hR
              have hstR := hstz.nw hR
              have y2R := hR.heap y2z
              have e0 := heap_cell hstR.1 0
              have e1 := heap_cell hstR.1 1
              have d0 := heap_cell y2R 0
              have d1 := heap_cell y2R 1
              simp only [List.getElem?_toArray, List.getElem?_cons_succ, List.getElem?_cons_zero] at e0 e1 d0 d1
              have f0 := heap_frozen y2R 0
              have f1 := heap_frozen y2R 1
              have hnR := hnz.trans hR
              clear hcR hfR hzR hR
              go_wp2
              ((try simp only [Exit.inBlock, Exit.then]); refine bodyPost_ret (results_cell3 rfl _ _ _ _ _ _ _ rfl (heap_set (heap_set y2R 0 (.slice q1 l.length c1)) 1 (.slice (some ⟨b7, o7, none⟩) es.length cv)) Try.underlying34 rfl (by kernel_rfl)) rfl ?_)
              rw [HF.out]
              have s1R := HS1.out _ hstR
              exact ⟨_, rfl, ⟨_, _, rfl, Tr.Sl.set2 (a := .slice q1 l.length c1) (b := .slice none 0 0) (Tr.Sl.set2 s1R y2R strs_not) (heap_set y2R 0 _) strs_not, (EvOwn.set (a := .slice q1 l.length c1) (b := .slice none 0 0) (EvOwn.set hstR.2.1 hz2 y2R (fun _ => nofun) (fun _ => nofun)) hz2 (heap_set y2R 0 _) (fun _ => nofun) (fun _ => nofun)).evs⟩, (((hn.trans (hnr.trans hnR)).setCell (p := ⟨w.heap.size, 0, none⟩) (Nat.le_refl _) _).setCell (p := ⟨w.heap.size, 1, none⟩) (Nat.le_refl _) _)⟩
            · have hd3 : decide (tt < tm es (es.length - 1)) = false := decide_eq_false htt
              have HG := hid (recs_go (f := f) (es := es) (p := l.length) hG (fun h => htt h.2))
              clear htt hG
              generalize tm es (es.length - 1) = tj at *
              go_upto_region 7 with fail
              refine wp_region_stairs (by kernel_rfl) (by kernel_rfl) (by kernel_rfl) ?_
              iterate 18
                refine Stairs.is ?_ ?_ ?_
                rotate_left 1
                · intro x wR hR hd K hK
                  simp only [Act.put, List.setIfInBounds_toArray, List.set_cons_zero, List.set_cons_succ, Nat.reduceAdd, List.length_nil, List.length_cons, List.nil_append, List.cons_append, Say.ok] at hK ⊢
                  clear hd
                  change Hid _ at hK
                  obtain ⟨hcR, hfR, hzR⟩ := nwc hR
                  first | (refine wanted_yes ?_ ?_; rfl) | (refine wanted_no ?_ ?_; rfl)
                  go_wp2_with (first | fail)
                  all_goals (refine hK.out _ _ ?_ ?_ <;> first | (solve | (repeat (first | assumption | exact Nw.refl _ | refine Nw.alloc ?_ _ | refine Nw.drew ?_ | refine Nw.drewN2 ?_ _ | (refine Nw.trans ?_ (by assumption))))) | exact rfl)
                try simp only [Act.put, List.setIfInBounds_toArray, List.set_cons_zero, List.set_cons_succ, Nat.reduceAdd, List.length_nil, List.length_cons, List.nil_append, List.cons_append]
              refine Stairs.nil ?_
              intro x wR hR hx
              clear hx
              obtain ⟨hcR, hfR, hzR⟩ := nwc hR
              obtain ⟨vs, hvl, hrow, hall⟩ := hst.2.1
              have hRz : Nw wr (wR.alloc (.cells #[.int .u64 tt, .slice p4 ll.length c4] 38)) := (hnz.trans hR).alloc _
              have hoR := hoz.nw (hR.alloc (.cells #[.int .u64 tt, .slice p4 ll.length c4] 38))
              have hB : wL.heap.size ≤ (wR.alloc (.cells #[.int .u64 tt, .slice p4 ll.length c4] 38)).heap.size := Nat.le_trans hst.2.2.size hRz.size
              have hstR := hstz.nw hR
              have e0 := heap_cell hstR.1 0
              have e1 := heap_cell hstR.1 1
              simp only [List.getElem?_toArray, List.getElem?_cons_succ, List.getElem?_cons_zero] at e0 e1
              have z0 := hR.cell z0
              have z1 := hR.cell z1
              have hel2 : es.length + 1 ≤ i + m := by omega
              have hib2 : i + m ≤ b.length := by omega
              obtain ⟨f', rfl⟩ : ∃ f', f = f' + 1 := ⟨f - 1, by omega⟩
              have hif2 : b.length ≤ i + m + f' := by omega
              have hel3 : es.length ≤ 1000000000 := by omega
              have hm1 : 1 ≤ m := by omega
              clear hcR hfR hzR hm14 hmle hel hif
              go_wp2_with (first
                | (at_builtin; refine appat rfl _ _ _ rfl _ _ _ _ Try.underlying32 info_event rfl (by decide) (by decide) hB (hRz.ownsRow hrow) rfl rfl (show [Value.int .u64 tt, Value.slice p4 ll.length c4].length = 2 from rfl) (Tr.cells_newAt wR [_, _] _ _ _ rfl) (by simp [Value.oneCell']) ?_ ?_; rotate_left; (omega); intro v2 w2 hown2 hg2 hat2; obtain ⟨⟨q9, c9, rfl⟩, y9, hst2⟩ := CpSt.step hst hRz hg5 rfl hvl hrow hall hoR hown2 hg2 hat2; have y91 := heap_cell y9 1; have y9f := heap_frozen y9 1; simp only [List.getElem?_toArray, List.getElem?_cons_succ, List.getElem?_cons_zero] at y91)
                | fail)
              go_roundw
              case rel => exact ⟨i + m, es ++ [(tt, ll)], _, f', by go_num, hib2, by rw [List.length_append, List.length_singleton]; exact hel2, hif2, hid (HQ.out.trans HG.out), hst2⟩
              case measure => (simp [intOf] <;> omega)
          · have hd2 : decide ((0 : Int) < es.length) = false := decide_eq_false (by omega)
            have hd2n : decide (0 < es.length) = false := decide_eq_false hpos
            have HG := hid (recs_go (f := f) (es := es) (p := l.length) hG (fun h => hpos h.1))
            clear hG
            go_upto_region 7 with fail
            refine wp_region_stairs (by kernel_rfl) (by kernel_rfl) (by kernel_rfl) ?_
            iterate 18
              refine Stairs.is ?_ ?_ ?_
              rotate_left 1
              · intro x wR hR hd K hK
                simp only [Act.put, List.setIfInBounds_toArray, List.set_cons_zero, List.set_cons_succ, Nat.reduceAdd, List.length_nil, List.length_cons, List.nil_append, List.cons_append, Say.ok] at hK ⊢
                clear hd
                change Hid _ at hK
                obtain ⟨hcR, hfR, hzR⟩ := nwc hR
                first | (refine wanted_yes ?_ ?_; rfl) | (refine wanted_no ?_ ?_; rfl)
                go_wp2_with (first | fail)
                all_goals (refine hK.out _ _ ?_ ?_ <;> first | (solve | (repeat (first | assumption | exact Nw.refl _ | refine Nw.alloc ?_ _ | refine Nw.drew ?_ | refine Nw.drewN2 ?_ _ | (refine Nw.trans ?_ (by assumption))))) | exact rfl)
              try simp only [Act.put, List.setIfInBounds_toArray, List.set_cons_zero, List.set_cons_succ, Nat.reduceAdd, List.length_nil, List.length_cons, List.nil_append, List.cons_append]
            refine Stairs.nil ?_
            intro x wR hR hx
            clear hx
            obtain ⟨hcR, hfR, hzR⟩ := nwc hR
            obtain ⟨vs, hvl, hrow, hall⟩ := hst.2.1
            have hRz : Nw wr (wR.alloc (.cells #[.int .u64 tt, .slice p4 ll.length c4] 38)) := (hnz.trans hR).alloc _
            have hoR := hoz.nw (hR.alloc (.cells #[.int .u64 tt, .slice p4 ll.length c4] 38))
            have hB : wL.heap.size ≤ (wR.alloc (.cells #[.int .u64 tt, .slice p4 ll.length c4] 38)).heap.size := Nat.le_trans hst.2.2.size hRz.size
            have hstR := hstz.nw hR
            have e0 := heap_cell hstR.1 0
            have e1 := heap_cell hstR.1 1
            simp only [List.getElem?_toArray, List.getElem?_cons_succ, List.getElem?_cons_zero] at e0 e1
            have z0 := hR.cell z0
            have z1 := hR.cell z1
            have hel2 : es.length + 1 ≤ i + m := by omega
            have hib2 : i + m ≤ b.length := by omega
            obtain ⟨f', rfl⟩ : ∃ f', f = f' + 1 := ⟨f - 1, by omega⟩
            have hif2 : b.length ≤ i + m + f' := by omega
            have hel3 : es.length ≤ 1000000000 := by omega
            have hm1 : 1 ≤ m := by omega
            clear hcR hfR hzR hm14 hmle hel hif
            go_wp2_with (first
              | (at_builtin; refine appat rfl _ _ _ rfl _ _ _ _ Try.underlying32 info_event rfl (by decide) (by decide) hB (hRz.ownsRow hrow) rfl rfl (show [Value.int .u64 tt, Value.slice p4 ll.length c4].length = 2 from rfl) (Tr.cells_newAt wR [_, _] _ _ _ rfl) (by simp [Value.oneCell']) ?_ ?_; rotate_left; (omega); intro v2 w2 hown2 hg2 hat2; obtain ⟨⟨q9, c9, rfl⟩, y9, hst2⟩ := CpSt.step hst hRz hg5 rfl hvl hrow hall hoR hown2 hg2 hat2; have y91 := heap_cell y9 1; have y9f := heap_frozen y9 1; simp only [List.getElem?_toArray, List.getElem?_cons_succ, List.getElem?_cons_zero] at y91)
              | fail)
            go_roundw
            case rel => exact ⟨i + m, es ++ [(tt, ll)], _, f', by go_num, hib2, by rw [List.length_append, List.length_singleton]; exact hel2, hif2, hid (HQ.out.trans HG.out), hst2⟩
            case measure => (simp [intOf] <;> omega)
        · have hde : (ee == 0) = false := beq_eq_false_iff_ne.2 hee
          have HR := hid (HD.out _ _ (HQ.out.trans (recs_stop hG hee)))
          clear HQ
          go_upto_region 7 with fail
          refine wp_region_stairs (by kernel_rfl) (by kernel_rfl) (by kernel_rfl) ?_
          iterate 18
            refine Stairs.is ?_ ?_ ?_
            rotate_left 1
            · intro x wR hR hd K hK
              simp only [Act.put, List.setIfInBounds_toArray, List.set_cons_zero, List.set_cons_succ, Nat.reduceAdd, List.length_nil, List.length_cons, List.nil_append, List.cons_append, Say.ok] at hK ⊢
              clear hd
              change Hid _ at hK
              obtain ⟨hcR, hfR, hzR⟩ := nwc hR
              first | (refine wanted_yes ?_ ?_; rfl) | (refine wanted_no ?_ ?_; rfl)
              go_wp2_with (first | fail)
              all_goals (refine hK.out _ _ ?_ ?_ <;> first | (solve | (repeat (first | assumption | exact Nw.refl _ | refine Nw.alloc ?_ _ | refine Nw.drew ?_ | refine Nw.drewN2 ?_ _ | (refine Nw.trans ?_ (by assumption))))) | exact rfl)
            try simp only [Act.put, List.setIfInBounds_toArray, List.set_cons_zero, List.set_cons_succ, Nat.reduceAdd, List.length_nil, List.length_cons, List.nil_append, List.cons_append]
          refine Stairs.nil ?_
          intro x wR hR hx
          clear hx
          obtain ⟨hcR, hfR, hzR⟩ := nwc hR
          by_cases h13 : ee = 13
          · have hd13 : (ee == 13) = true := by rw [h13]; rfl
            have HF := hid (HR.out.trans (show _ = ((⟨l, es⟩ : T), ((es.length : Int), (0 : Int))) by rw [if_pos h13]))
            have hstR := hstz.nw hR
            have y2R := hR.heap y2z
            have e0 := heap_cell hstR.1 0
            have e1 := heap_cell hstR.1 1
            have d0 := heap_cell y2R 0
            have d1 := heap_cell y2R 1
            simp only [List.getElem?_toArray, List.getElem?_cons_succ, List.getElem?_cons_zero] at e0 e1 d0 d1
            have f0 := heap_frozen y2R 0
            have f1 := heap_frozen y2R 1
            have hnR := hnz.trans hR
            clear hcR hfR hzR hR
            go_wp2
            ((try simp only [Exit.inBlock, Exit.then]); refine bodyPost_ret (results_cell3 rfl _ _ _ _ _ _ _ rfl (heap_set (heap_set y2R 0 (.slice q1 l.length c1)) 1 (.slice qv es.length cv)) Try.underlying34 rfl (by kernel_rfl)) rfl ?_)
            rw [HF.out]
            have s1R := HS1.out _ hstR
            exact ⟨_, rfl, ⟨_, _, rfl, Tr.Sl.set2 (a := .slice q1 l.length c1) (b := .slice none 0 0) (Tr.Sl.set2 s1R y2R strs_not) (heap_set y2R 0 _) strs_not, (EvOwn.set (a := .slice q1 l.length c1) (b := .slice none 0 0) (EvOwn.set hstR.2.1 hz2 y2R (fun _ => nofun) (fun _ => nofun)) hz2 (heap_set y2R 0 _) (fun _ => nofun) (fun _ => nofun)).evs⟩, (((hn.trans (hnr.trans hnR)).setCell (p := ⟨w.heap.size, 0, none⟩) (Nat.le_refl _) _).setCell (p := ⟨w.heap.size, 1, none⟩) (Nat.le_refl _) _)⟩
          · have hd13 : (ee == 13) = false := beq_eq_false_iff_ne.2 h13
            have HF := hid (HR.out.trans (show _ = ((⟨l, es⟩ : T), ((es.length : Int), ee)) by rw [if_neg h13]))
            have hstR := hstz.nw hR
            have y2R := hR.heap y2z
            have e0 := heap_cell hstR.1 0
            have e1 := heap_cell hstR.1 1
            have d0 := heap_cell y2R 0
            have d1 := heap_cell y2R 1
            simp only [List.getElem?_toArray, List.getElem?_cons_succ, List.getElem?_cons_zero] at e0 e1 d0 d1
            have f0 := heap_frozen y2R 0
            have f1 := heap_frozen y2R 1
            have hnR := hnz.trans hR
            clear hcR hfR hzR hR
            go_wp2
            ((try simp only [Exit.inBlock, Exit.then]); refine bodyPost_ret (results_cell3 rfl _ _ _ _ _ _ _ rfl (heap_set (heap_set y2R 0 (.slice q1 l.length c1)) 1 (.slice qv es.length cv)) Try.underlying34 rfl (by kernel_rfl)) rfl ?_)
            rw [HF.out]
            have s1R := HS1.out _ hstR
            exact ⟨_, rfl, ⟨_, _, rfl, Tr.Sl.set2 (a := .slice q1 l.length c1) (b := .slice none 0 0) (Tr.Sl.set2 s1R y2R strs_not) (heap_set y2R 0 _) strs_not, (EvOwn.set (a := .slice q1 l.length c1) (b := .slice none 0 0) (EvOwn.set hstR.2.1 hz2 y2R (fun _ => nofun) (fun _ => nofun)) hz2 (heap_set y2R 0 _) (fun _ => nofun) (fun _ => nofun)).evs⟩, (((hn.trans (hnr.trans hnR)).setCell (p := ⟨w.heap.size, 0, none⟩) (Nat.le_refl _) _).setCell (p := ⟨w.heap.size, 1, none⟩) (Nat.le_refl _) _)⟩
      · have HB0 := HB
        clear HB
        go_upto_region 6 with (first
          | (go_at_call 60; refine (HGT.out _ _ (HB0.out _ (by repeat (first | assumption | exact Nw.refl _ | refine Nw.alloc ?_ _ | refine Nw.drew ?_ | refine Nw.drewN2 ?_ _ | (refine Nw.trans ?_ (by assumption)))))).mono ?_; rintro e w4 ⟨v4, rfl, ho4, hn4⟩; obtain ⟨p4, c4, rfl⟩ := ints_shape ho4; dsimp only at ho4 ⊢)
          | fail)
        clear hci
        have hnz : Nw wr (w4.alloc (.cells #[.int .u64 tt, .slice p4 ll.length c4] 38)) := hn4.alloc _
        obtain ⟨z0, z1⟩ := box2 w4 (.int .u64 tt) (.slice p4 ll.length c4) 38
        have hoz := ho4.nw ((Nw.refl w4).alloc (.cells #[.int .u64 tt, .slice p4 ll.length c4] 38))
        have hsz4 := hn4.size
        clear ho4 hn4
        generalize w4.alloc (.cells #[.int .u64 tt, .slice p4 ll.length c4] 38) = wz at *
        generalize w4.heap.size = zE at *
        have hstz := hst.nw hnz
        have y2z := (hnr.trans hnz).heap y2
        have e0 := heap_cell hstz.1 0
        have e1 := heap_cell hstz.1 1
        simp only [List.getElem?_toArray, List.getElem?_cons_succ, List.getElem?_cons_zero] at e0 e1
        have g1 := World.block_lt_of_cell? wz _ z0
        have g2 := lt_of_heap hstz.1
        simp only at g1
        by_cases hee : ee = 0
        · subst hee
          obtain ⟨m, rfl, hm14, hmle, ht0, ht1, hr64⟩ := get_ok _ _ _ _ _ hG
          rw [List.length_drop] at hmle
          clear ht0 ht1 hr64
          by_cases hpos : 0 < es.length
          · have hd2 : decide ((0 : Int) < es.length) = true := decide_eq_true (by omega)
            have hd2n : decide (0 < es.length) = true := decide_eq_true hpos
            obtain ⟨p', cap', e', hc1', hc2', hc3', hec⟩ := hstz.2.1.evs
            cases e'
            obtain ⟨b7, o7, vj, rfl, d0, _, _⟩ := hec (es.length - 1) (by omega)
            have ek : ((es.length : Int) - 1).toNat = es.length - 1 := by omega
            have gd := World.block_lt_of_cell? wz _ d0
            simp only at gd
            clear hec hc1' hc2' hc3'
            by_cases htt : tt < tm es (es.length - 1)
            · have hd3 : decide (tt < tm es (es.length - 1)) = true := decide_eq_true htt
              have HF := hid ((HD.out _ _ (HQ.out.trans (recs_fall hG hpos htt))).trans (show _ = ((⟨l, es⟩ : T), ((es.length : Int), (8 : Int))) by rw [if_neg (by decide)]))
              clear HQ htt hm14 hmle
              generalize tm es (es.length - 1) = tj at *
              go_upto_region 7 with fail
              refine wp_region_stairs (by kernel_rfl) (by kernel_rfl) (by kernel_rfl) ?_
              iterate 18
                refine Stairs.is ?_ ?_ ?_
                rotate_left 1
                · intro x wR hR hd K hK
                  simp only [Act.put, List.setIfInBounds_toArray, List.set_cons_zero, List.set_cons_succ, Nat.reduceAdd, List.length_nil, List.length_cons, List.nil_append, List.cons_append, Say.ok] at hK ⊢
                  clear hd
                  change Hid _ at hK
                  obtain ⟨hcR, hfR, hzR⟩ := nwc hR
                  first | (refine wanted_yes ?_ ?_; rfl) | (refine wanted_no ?_ ?_; rfl)
                  go_wp2_with (first | fail)
                  all_goals (refine hK.out _ _ ?_ ?_ <;> first | (solve | (repeat (first | assumption | exact Nw.refl _ | refine Nw.alloc ?_ _ | refine Nw.drew ?_ | refine Nw.drewN2 ?_ _ | (refine Nw.trans ?_ (by assumption))))) | exact rfl)
                try simp only [Act.put, List.setIfInBounds_toArray, List.set_cons_zero, List.set_cons_succ, Nat.reduceAdd, List.length_nil, List.length_cons, List.nil_append, List.cons_append]
              refine Stairs.nil ?_
              intro x wR hR hx
              clear hx
              obtain ⟨hcR, hfR, hzR⟩ := nwc hR
              have hstR := hstz.nw hR
              have y2R := hR.heap y2z
              have e0 := heap_cell hstR.1 0
              have e1 := heap_cell hstR.1 1
              have d0 := heap_cell y2R 0
              have d1 := heap_cell y2R 1
              simp only [List.getElem?_toArray, List.getElem?_cons_succ, List.getElem?_cons_zero] at e0 e1 d0 d1
              have f0 := heap_frozen y2R 0
              have f1 := heap_frozen y2R 1
              have hnR := hnz.trans hR
              clear hcR hfR hzR hR
              go_wp2
              ((try simp only [Exit.inBlock, Exit.then]); refine bodyPost_ret (results_cell3 rfl _ _ _ _ _ _ _ rfl (heap_set (heap_set y2R 0 (.slice q1 l.length c1)) 1 (.slice (some ⟨b7, o7, none⟩) es.length cv)) Try.underlying34 rfl (by kernel_rfl)) rfl ?_)
              rw [HF.out]
              have s1R := HS1.out _ hstR
              exact ⟨_, rfl, ⟨_, _, rfl, Tr.Sl.set2 (a := .slice q1 l.length c1) (b := .slice none 0 0) (Tr.Sl.set2 s1R y2R strs_not) (heap_set y2R 0 _) strs_not, (EvOwn.set (a := .slice q1 l.length c1) (b := .slice none 0 0) (EvOwn.set hstR.2.1 hz2 y2R (fun _ => nofun) (fun _ => nofun)) hz2 (heap_set y2R 0 _) (fun _ => nofun) (fun _ => nofun)).evs⟩, (((hn.trans (hnr.trans hnR)).setCell (p := ⟨w.heap.size, 0, none⟩) (Nat.le_refl _) _).setCell (p := ⟨w.heap.size, 1, none⟩) (Nat.le_refl _) _)⟩
            · have hd3 : decide (tt < tm es (es.length - 1)) = false := decide_eq_false htt
              have HG := hid (recs_go (f := f) (es := es) (p := l.length) hG (fun h => htt h.2))
              clear htt hG
              generalize tm es (es.length - 1) = tj at *
              go_upto_region 7 with fail
              refine wp_region_stairs (by kernel_rfl) (by kernel_rfl) (by kernel_rfl) ?_
              iterate 18
                refine Stairs.is ?_ ?_ ?_
                rotate_left 1
                · intro x wR hR hd K hK
                  simp only [Act.put, List.setIfInBounds_toArray, List.set_cons_zero, List.set_cons_succ, Nat.reduceAdd, List.length_nil, List.length_cons, List.nil_append, List.cons_append, Say.ok] at hK ⊢
                  clear hd
                  change Hid _ at hK
                  obtain ⟨hcR, hfR, hzR⟩ := nwc hR
                  first | (refine wanted_yes ?_ ?_; rfl) | (refine wanted_no ?_ ?_; rfl)
                  go_wp2_with (first | fail)
                  all_goals (refine hK.out _ _ ?_ ?_ <;> first | (solve | (repeat (first | assumption | exact Nw.refl _ | refine Nw.alloc ?_ _ | refine Nw.drew ?_ | refine Nw.drewN2 ?_ _ | (refine Nw.trans ?_ (by assumption))))) | exact rfl)
                try simp only [Act.put, List.setIfInBounds_toArray, List.set_cons_zero, List.set_cons_succ, Nat.reduceAdd, List.length_nil, List.length_cons, List.nil_append, List.cons_append]
              refine Stairs.nil ?_
              intro x wR hR hx
              clear hx
              obtain ⟨hcR, hfR, hzR⟩ := nwc hR
              obtain ⟨vs, hvl, hrow, hall⟩ := hst.2.1
              have hRz : Nw wr (wR.alloc (.cells #[.int .u64 tt, .slice p4 ll.length c4] 38)) := (hnz.trans hR).alloc _
              have hoR := hoz.nw (hR.alloc (.cells #[.int .u64 tt, .slice p4 ll.length c4] 38))
              have hB : wL.heap.size ≤ (wR.alloc (.cells #[.int .u64 tt, .slice p4 ll.length c4] 38)).heap.size := Nat.le_trans hst.2.2.size hRz.size
              have hstR := hstz.nw hR
              have e0 := heap_cell hstR.1 0
              have e1 := heap_cell hstR.1 1
              simp only [List.getElem?_toArray, List.getElem?_cons_succ, List.getElem?_cons_zero] at e0 e1
              have z0 := hR.cell z0
              have z1 := hR.cell z1
              have hel2 : es.length + 1 ≤ i + m := by omega
              have hib2 : i + m ≤ b.length := by omega
              obtain ⟨f', rfl⟩ : ∃ f', f = f' + 1 := ⟨f - 1, by omega⟩
              have hif2 : b.length ≤ i + m + f' := by omega
              have hel3 : es.length ≤ 1000000000 := by omega
              have hm1 : 1 ≤ m := by omega
              clear hcR hfR hzR hm14 hmle hel hif
              go_wp2_with (first
                | (at_builtin; refine appat rfl _ _ _ rfl _ _ _ _ Try.underlying32 info_event rfl (by decide) (by decide) hB (hRz.ownsRow hrow) rfl rfl (show [Value.int .u64 tt, Value.slice p4 ll.length c4].length = 2 from rfl) (Tr.cells_newAt wR [_, _] _ _ _ rfl) (by simp [Value.oneCell']) ?_ ?_; rotate_left; (omega); intro v2 w2 hown2 hg2 hat2; obtain ⟨⟨q9, c9, rfl⟩, y9, hst2⟩ := CpSt.step hst hRz hg5 rfl hvl hrow hall hoR hown2 hg2 hat2; have y91 := heap_cell y9 1; have y9f := heap_frozen y9 1; simp only [List.getElem?_toArray, List.getElem?_cons_succ, List.getElem?_cons_zero] at y91)
                | fail)
              go_roundw
              case rel => exact ⟨i + m, es ++ [(tt, ll)], _, f', by go_num, hib2, by rw [List.length_append, List.length_singleton]; exact hel2, hif2, hid (HQ.out.trans HG.out), hst2⟩
              case measure => (simp [intOf] <;> omega)
          · have hd2 : decide ((0 : Int) < es.length) = false := decide_eq_false (by omega)
            have hd2n : decide (0 < es.length) = false := decide_eq_false hpos
            have HG := hid (recs_go (f := f) (es := es) (p := l.length) hG (fun h => hpos h.1))
            clear hG
            go_upto_region 7 with fail
            refine wp_region_stairs (by kernel_rfl) (by kernel_rfl) (by kernel_rfl) ?_
            iterate 18
              refine Stairs.is ?_ ?_ ?_
              rotate_left 1
              · intro x wR hR hd K hK
                simp only [Act.put, List.setIfInBounds_toArray, List.set_cons_zero, List.set_cons_succ, Nat.reduceAdd, List.length_nil, List.length_cons, List.nil_append, List.cons_append, Say.ok] at hK ⊢
                clear hd
                change Hid _ at hK
                obtain ⟨hcR, hfR, hzR⟩ := nwc hR
                first | (refine wanted_yes ?_ ?_; rfl) | (refine wanted_no ?_ ?_; rfl)
                go_wp2_with (first | fail)
                all_goals (refine hK.out _ _ ?_ ?_ <;> first | (solve | (repeat (first | assumption | exact Nw.refl _ | refine Nw.alloc ?_ _ | refine Nw.drew ?_ | refine Nw.drewN2 ?_ _ | (refine Nw.trans ?_ (by assumption))))) | exact rfl)
              try simp only [Act.put, List.setIfInBounds_toArray, List.set_cons_zero, List.set_cons_succ, Nat.reduceAdd, List.length_nil, List.length_cons, List.nil_append, List.cons_append]
            refine Stairs.nil ?_
            intro x wR hR hx
            clear hx
            obtain ⟨hcR, hfR, hzR⟩ := nwc hR
            obtain ⟨vs, hvl, hrow, hall⟩ := hst.2.1
            have hRz : Nw wr (wR.alloc (.cells #[.int .u64 tt, .slice p4 ll.length c4] 38)) := (hnz.trans hR).alloc _
            have hoR := hoz.nw (hR.alloc (.cells #[.int .u64 tt, .slice p4 ll.length c4] 38))
            have hB : wL.heap.size ≤ (wR.alloc (.cells #[.int .u64 tt, .slice p4 ll.length c4] 38)).heap.size := Nat.le_trans hst.2.2.size hRz.size
            have hstR := hstz.nw hR
            have e0 := heap_cell hstR.1 0
            have e1 := heap_cell hstR.1 1
            simp only [List.getElem?_toArray, List.getElem?_cons_succ, List.getElem?_cons_zero] at e0 e1
            have z0 := hR.cell z0
            have z1 := hR.cell z1
            have hel2 : es.length + 1 ≤ i + m := by omega
            have hib2 : i + m ≤ b.length := by omega
            obtain ⟨f', rfl⟩ : ∃ f', f = f' + 1 := ⟨f - 1, by omega⟩
            have hif2 : b.length ≤ i + m + f' := by omega
            have hel3 : es.length ≤ 1000000000 := by omega
            have hm1 : 1 ≤ m := by omega
            clear hcR hfR hzR hm14 hmle hel hif
            go_wp2_with (first
              | (at_builtin; refine appat rfl _ _ _ rfl _ _ _ _ Try.underlying32 info_event rfl (by decide) (by decide) hB (hRz.ownsRow hrow) rfl rfl (show [Value.int .u64 tt, Value.slice p4 ll.length c4].length = 2 from rfl) (Tr.cells_newAt wR [_, _] _ _ _ rfl) (by simp [Value.oneCell']) ?_ ?_; rotate_left; (omega); intro v2 w2 hown2 hg2 hat2; obtain ⟨⟨q9, c9, rfl⟩, y9, hst2⟩ := CpSt.step hst hRz hg5 rfl hvl hrow hall hoR hown2 hg2 hat2; have y91 := heap_cell y9 1; have y9f := heap_frozen y9 1; simp only [List.getElem?_toArray, List.getElem?_cons_succ, List.getElem?_cons_zero] at y91)
              | fail)
            go_roundw
            case rel => exact ⟨i + m, es ++ [(tt, ll)], _, f', by go_num, hib2, by rw [List.length_append, List.length_singleton]; exact hel2, hif2, hid (HQ.out.trans HG.out), hst2⟩
            case measure => (simp [intOf] <;> omega)
        · have hde : (ee == 0) = false := beq_eq_false_iff_ne.2 hee
          have HR := hid (HD.out _ _ (HQ.out.trans (recs_stop hG hee)))
          clear HQ
          go_upto_region 7 with fail
          refine wp_region_stairs (by kernel_rfl) (by kernel_rfl) (by kernel_rfl) ?_
          iterate 18
            refine Stairs.is ?_ ?_ ?_
            rotate_left 1
            · intro x wR hR hd K hK
              simp only [Act.put, List.setIfInBounds_toArray, List.set_cons_zero, List.set_cons_succ, Nat.reduceAdd, List.length_nil, List.length_cons, List.nil_append, List.cons_append, Say.ok] at hK ⊢
              clear hd
              change Hid _ at hK
              obtain ⟨hcR, hfR, hzR⟩ := nwc hR
              first | (refine wanted_yes ?_ ?_; rfl) | (refine wanted_no ?_ ?_; rfl)
              go_wp2_with (first | fail)
              all_goals (refine hK.out _ _ ?_ ?_ <;> first | (solve | (repeat (first | assumption | exact Nw.refl _ | refine Nw.alloc ?_ _ | refine Nw.drew ?_ | refine Nw.drewN2 ?_ _ | (refine Nw.trans ?_ (by assumption))))) | exact rfl)
            try simp only [Act.put, List.setIfInBounds_toArray, List.set_cons_zero, List.set_cons_succ, Nat.reduceAdd, List.length_nil, List.length_cons, List.nil_append, List.cons_append]
          refine Stairs.nil ?_
          intro x wR hR hx
          clear hx
          obtain ⟨hcR, hfR, hzR⟩ := nwc hR
          by_cases h13 : ee = 13
          · have hd13 : (ee == 13) = true := by rw [h13]; rfl
            have HF := hid (HR.out.trans (show _ = ((⟨l, es⟩ : T), ((es.length : Int), (0 : Int))) by rw [if_pos h13]))
            have hstR := hstz.nw hR
            have y2R := hR.heap y2z
            have e0 := heap_cell hstR.1 0
            have e1 := heap_cell hstR.1 1
            have d0 := heap_cell y2R 0
            have d1 := heap_cell y2R 1
            simp only [List.getElem?_toArray, List.getElem?_cons_succ, List.getElem?_cons_zero] at e0 e1 d0 d1
            have f0 := heap_frozen y2R 0
            have f1 := heap_frozen y2R 1
            have hnR := hnz.trans hR
            clear hcR hfR hzR hR
            go_wp2
            ((try simp only [Exit.inBlock, Exit.then]); refine bodyPost_ret (results_cell3 rfl _ _ _ _ _ _ _ rfl (heap_set (heap_set y2R 0 (.slice q1 l.length c1)) 1 (.slice qv es.length cv)) Try.underlying34 rfl (by kernel_rfl)) rfl ?_)
            rw [HF.out]
            have s1R := HS1.out _ hstR
            exact ⟨_, rfl, ⟨_, _, rfl, Tr.Sl.set2 (a := .slice q1 l.length c1) (b := .slice none 0 0) (Tr.Sl.set2 s1R y2R strs_not) (heap_set y2R 0 _) strs_not, (EvOwn.set (a := .slice q1 l.length c1) (b := .slice none 0 0) (EvOwn.set hstR.2.1 hz2 y2R (fun _ => nofun) (fun _ => nofun)) hz2 (heap_set y2R 0 _) (fun _ => nofun) (fun _ => nofun)).evs⟩, (((hn.trans (hnr.trans hnR)).setCell (p := ⟨w.heap.size, 0, none⟩) (Nat.le_refl _) _).setCell (p := ⟨w.heap.size, 1, none⟩) (Nat.le_refl _) _)⟩
          · have hd13 : (ee == 13) = false := beq_eq_false_iff_ne.2 h13
            have HF := hid (HR.out.trans (show _ = ((⟨l, es⟩ : T), ((es.length : Int), ee)) by rw [if_neg h13]))
            have hstR := hstz.nw hR
            have y2R := hR.heap y2z
            have e0 := heap_cell hstR.1 0
            have e1 := heap_cell hstR.1 1
            have d0 := heap_cell y2R 0
            have d1 := heap_cell y2R 1
            simp only [List.getElem?_toArray, List.getElem?_cons_succ, List.getElem?_cons_zero] at e0 e1 d0 d1
            have f0 := heap_frozen y2R 0
            have f1 := heap_frozen y2R 1
            have hnR := hnz.trans hR
            clear hcR hfR hzR hR
            go_wp2
            ((try simp only [Exit.inBlock, Exit.then]); refine bodyPost_ret (results_cell3 rfl _ _ _ _ _ _ _ rfl (heap_set (heap_set y2R 0 (.slice q1 l.length c1)) 1 (.slice qv es.length cv)) Try.underlying34 rfl (by kernel_rfl)) rfl ?_)
            rw [HF.out]
            have s1R := HS1.out _ hstR
            exact ⟨_, rfl, ⟨_, _, rfl, Tr.Sl.set2 (a := .slice q1 l.length c1) (b := .slice none 0 0) (Tr.Sl.set2 s1R y2R strs_not) (heap_set y2R 0 _) strs_not, (EvOwn.set (a := .slice q1 l.length c1) (b := .slice none 0 0) (EvOwn.set hstR.2.1 hz2 y2R (fun _ => nofun) (fun _ => nofun)) hz2 (heap_set y2R 0 _) (fun _ => nofun) (fun _ => nofun)).evs⟩, (((hn.trans (hnr.trans hnR)).setCell (p := ⟨w.heap.size, 0, none⟩) (Nat.le_refl _) _).setCell (p := ⟨w.heap.size, 1, none⟩) (Nat.le_refl _) _)⟩
  · have HF := hid (dec_no hH he)
    have hde : (e0 != 0) = true := by simpa using he
    clear hc hH hp0
    go_enter Try.func34, Try.ntmps34
    go_upto_region 1 with fail
    have y2 := heap_new w (.cells #[.slice none 0 0, .slice none 0 0] 34)
    have hn := (Nw.refl w).alloc (.cells #[.slice none 0 0, .slice none 0 0] 34)
    have hz0 := lt_alloc w (.cells #[.slice none 0 0, .slice none 0 0] 34)
    generalize w.alloc (.cells #[.slice none 0 0, .slice none 0 0] 34) = w0 at *
    go_wp2_with (first
      | (go_at_call 64; refine (HHD.out _ (by repeat (first | assumption | exact Nw.refl _ | refine Nw.alloc ?_ _ | refine Nw.drew ?_ | refine Nw.drewN2 ?_ _ | (refine Nw.trans ?_ (by assumption))))).mono ?_; rintro e w1 ⟨v1, rfl, hs1, hn1⟩; have y2 := hn1.heap y2; have d0 := heap_cell y2 0; have d1 := heap_cell y2 1; simp only [List.getElem?_toArray, List.getElem?_cons_succ, List.getElem?_cons_zero] at d0 d1; have f0 := heap_frozen y2 0; have f1 := heap_frozen y2 1; dsimp only at hs1 ⊢)
      | fail)
    ((try simp only [Exit.inBlock, Exit.then]); refine bodyPost_ret (results_cell3 rfl _ _ _ _ _ _ _ rfl (heap_set (heap_set y2 0 (.slice none 0 0)) 1 (.slice none 0 0)) Try.underlying34 rfl (by kernel_rfl)) rfl ?_)
    rw [HF.out]
    exact ⟨_, rfl, TrR.none_ _, ((hn.trans hn1).setCell (p := ⟨w.heap.size, 0, none⟩) (Nat.le_refl _) _).setCell (p := ⟨w.heap.size, 1, none⟩) (Nat.le_refl _) _⟩
end Lg
end Go.Proofs.Ytdihoedehmfgfaa
