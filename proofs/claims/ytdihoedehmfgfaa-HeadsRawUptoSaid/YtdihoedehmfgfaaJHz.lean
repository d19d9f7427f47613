/- Joined texts.
What is told of any bytes, record by record: plain. No condition.
The contracts of watchglassref8.Records, whose events lie in blocks of the call's own. No condition but lengths.
What NewPool of the reference makes: the plain side; headless, Records. No condition but lengths.
The reference's Records up to a fault, headless, NewPool. No condition but lengths.
-/
import Derived.Test.YtdihoedehmfgfaaJHk
import Derived.Test.YtdihoedehmfgfaaScanM
import Derived.Test.YtdihoedehmfgfaaLogG
import Derived.Test.YtdihoedehmfgfaaScanK
import Derived.Test.YtdihoedehmfgfaaEvI
import Derived.Test.YtdihoedehmfgfaaJHu
set_option linter.unusedSimpArgs false
set_option linter.unusedVariables false
namespace Go.Proofs.Ytdihoedehmfgfaa
open Go.ChangeShapes Go.WideShapes Go.ChangeAt Go.RowKit
namespace Hp
open Go.Proofs.Ytdihoedehmfgfaa.Rec (none_ get rec_ rec_len)
open Go.Proofs.Ytdihoedehmfgfaa.Sc (recP)
open Go.Proofs.Ytdihoedehmfgfaa.Tr (T Es tm ids)
open Go.Proofs.Ytdihoedehmfgfaa.Lg (recs headerP recsX)
/-- The error behind records of which only a front can be read. -/
def errC (b : List UInt8) (r : Nat) (e : Int) : Int := if r < b.length ∧ (e = 13 ∨ e = 7) then 10 else e
/-- What is told of any bytes, up to where they can be read. -/
theorem any_log {b : List UInt8} {r i : Nat} {p e : Int} {es : Es} (h0 : 0 ≤ p) (h1 : p ≤ 64) (hr : r ≤ b.length) (h : recs (b.take r) p (r + 1) i [] = (es, e)) (hi : i ≤ r) : ∃ q : Nat → Nat, q 0 = i ∧ LogD b r p es q (errC b r e) := by
  have hl : (b.take r).length = r := by rw [List.length_take]; omega
  obtain ⟨new, q, e1, e2, e3, e4, x, n, g, hg, hend⟩ := recs_told (b.take r) p h0 h1 _ _ _ _ _ h (by omega) (by omega)
  rw [List.length_nil] at e2 e3
  rw [hl] at e4
  refine ⟨q, e2, fun k hk => ?_, ?_, ?_⟩
  · obtain ⟨a1, a2, a3, a4⟩ := e3 k (Nat.zero_le _) hk
    rw [hl] at a4
    refine nxt_step ?_ a1
    unfold recP
    rw [if_neg (by omega), if_neg (by omega), Int.toNat_natCast, Nat.min_eq_left (by omega), a2]
    dsimp only
    rw [if_neg (by omega), if_neg (by omega), a3]
    congr 2
  · rcases hend with ⟨hne, rfl⟩ | ⟨rfl, rfl, hp, hlt⟩
    · have : recP b r (q es.length : Int) p = none_ (errC b r e) := by
        unfold recP errC
        rw [if_neg (by omega)]
        by_cases hb : (b.length : Int) ≤ (q es.length : Int)
        · rw [if_pos hb]
          have he : (b.take r).drop (q es.length) = [] := List.drop_eq_nil_of_le (by omega)
          rw [he, Lg.get_nil] at hg
          have : e = 13 := (congrArg (fun x : Rec.Got => x.2.2) hg).symm
          rw [if_neg (by omega), this]
        · rw [if_neg hb, Int.toNat_natCast, Nat.min_eq_left e4, hg]
          dsimp only
          split <;> rfl
      exact nxt_stop this (by
        show errC b r e ≠ 0
        unfold errC
        split
        · decide
        · exact hne)
    · have hk : (es.length - 1) + 1 = es.length := by omega
      have hst : stA es q es.length = ⟨q es.length, (es.length - 1 : Nat) + 1, tm es (es.length - 1), ids es (es.length - 1), true⟩ := by
        have := stA_succ es q (es.length - 1)
        rw [hk] at this
        exact this
      have hrec : recP b r (q es.length : Int) p = (x, (q es.length : Int) + n, 0) := by
        obtain ⟨rest, hb, hn, _⟩ := Lg.get_inv (t := x.1) (l := x.2) h0 h1 hg
        have hlen := congrArg List.length hb
        rw [List.length_append, rec_len, List.length_drop, hl] at hlen
        unfold recP
        rw [if_neg (by omega), if_neg (by omega), Int.toNat_natCast, Nat.min_eq_left e4, hg]
        dsimp only
        rw [if_neg (by omega), if_neg (by omega)]
      unfold nxt
      rw [stA_at, hrec]
      obtain ⟨t, l⟩ := x
      dsimp only at hlt ⊢
      rw [if_neg (show ¬ ((0 : Int) ≠ 0) by decide), if_pos ⟨by rw [hst], by rw [hst]; exact hlt⟩]
      unfold errC
      rw [if_neg (by omega)]
  · unfold errC
    rcases hend with ⟨hne, rfl⟩ | ⟨rfl, rfl, _, _⟩
    · split
      · decide
      · exact hne
    · rw [if_neg (by omega)]; decide
end Hp
end Go.Proofs.Ytdihoedehmfgfaa
namespace Go.Proofs.Ytdihoedehmfgfaa
open Go.ChangeShapes Go.WideShapes Go.ChangeAt Go.RowKit
namespace Lg
open Go.Proofs.Ytdihoedehmfgfaa.Sc (headR_of)
open Go.Proofs.Ytdihoedehmfgfaa.Lx (isIn nameB strs_open strs_cell)
open Go.Proofs.Ytdihoedehmfgfaa.Sum (byte put right Hands8 HandsR)
open Go.Proofs.Ytdihoedehmfgfaa.Rec (rises rec_ get putE rec_len put_len i64s_open i64_cell HandsGO)
open Go.Proofs.Ytdihoedehmfgfaa.Tr (T Es tm ids mayP namesP nmB nOk namesTo Evs EC Small box2 lt_alloc TrR EvOwn CpSt CloneS ints_shape strs_not evc own_apart info_event HandsTE results_cell2)
/-- What watchglassref8.Records hands back of bytes that end by a fault. -/
def recordsC (b : List UInt8) : T × Int :=
  match headR b 10 with
  | (l, i, e) => if e ≠ 0 then (⟨[], []⟩, e) else
    match recsP b l i.toNat with
    | (es, f) => (⟨l, es⟩, if f = 13 ∨ f = 7 then 10 else f)
theorem recsC_no {b : List UInt8} {l : List ByteArray} {i e : Int} (h : headR b 10 = (l, i, e)) (he : e ≠ 0) : recordsC b = (⟨[], []⟩, e) := by
  unfold recordsC
  rw [h]
  exact if_pos he
theorem recsC_yes {b : List UInt8} {l : List ByteArray} {i : Nat} {es : Es} {f : Int} (h : headR b 10 = (l, (i : Int), 0)) (hr : recs b l.length (b.length + 1) i [] = (es, f)) : recordsC b = ((⟨l, es⟩ : T), if f = 13 ∨ f = 7 then 10 else f) := by
  unfold recordsC recsP
  rw [h]
  dsimp only
  rw [Int.toNat_natCast, hr]
  exact if_neg (by decide)
theorem headR_inv10 {b : List UInt8} {l : List ByteArray} {i : Int} (h : headR b 10 = (l, i, 0)) : ∃ j : Nat, i = (j : Int) + 4 ∧ j + 4 ≤ b.length ∧ 5 ≤ b.length ∧ b.take 4 = Lg.mark ∧ sz b 4 ≤ 64 ∧ rgo b 10 (sz b 4) 5 [] = ((l, j), 0) ∧ headE b l j = (l, i, 0) := by
  unfold Lg.headR at h
  split at h
  · cases h
  split at h
  · cases h
  rename_i h5 hm
  obtain ⟨l', j, e, hg⟩ : ∃ l' j e, rgo b 10 (sz b 4) 5 [] = ((l', j), e) := ⟨_, _, _, rfl⟩
  rw [hg] at h
  dsimp only at h
  split at h
  · rename_i he
    exact absurd (congrArg (fun x : Hd => x.2.2) h) he
  split at h
  · cases h
  rename_i he hj
  have he0 : e = 0 := by omega
  subst he0
  have h2 := h
  unfold Lg.headE at h2
  split at h2
  · simp only [Prod.mk.injEq, and_true] at h2
    obtain ⟨rfl, rfl⟩ := h2
    refine ⟨j, rfl, by omega, by omega, ?_, by omega, hg, h⟩
    by_cases q : b.take 4 = Lg.mark
    · exact q
    · exact absurd (Or.inl q) hm
  · cases h2
theorem headR_back {b : List UInt8} {l : List ByteArray} {i : Int} (h : headR b 10 = (l, i, 0)) : headR b 5 = (l, i, 0) := by
  obtain ⟨j, rfl, h1, h2, h3, h4, h5, h6⟩ := headR_inv10 h
  unfold Lg.headR
  rw [if_neg (by omega), if_neg (by rintro (q | q); exact q h3; omega), Sc.rgo_m b (by decide) _ _ _ _ _ h5]
  dsimp only
  rw [if_neg (by decide), if_neg (by omega)]
  exact h6
theorem headC_ok (b : List UInt8) (l : List ByteArray) (i : Int) (h : headR b 10 = (l, i, 0)) : ∃ n : Nat, i = n ∧ 9 ≤ n ∧ n ≤ b.length ∧ namesP l = true := headR_ok b l i (headR_back h)
/-- A call hands back a trace, its events in blocks of the call's own, and an error. -/
def HandsTI (w : World) (r : T × Int) (e : Ending) (w' : World) : Prop := ∃ v, e = .returned (.tuple #[v, .int .i64 r.2]) ∧ (∃ vn ve, v = .agg #[vn, ve] ∧ Sl w' vn (Lx.strs r.1.names) ∧ EvIn w' w.heap.size ve r.1.evs) ∧ Nw w w'
set_option maxRecDepth 20000 in
set_option maxHeartbeats 1600000 in
theorem rrecords_i (v : Value) (b : List UInt8) (q : Int) (w : World) (hb : Bytes w v b) (hl : b.length ≤ 1000000000) (hq1 : -9223372036854775808 ≤ q) (hq2 : q ≤ 9223372036854775807) (hq : ¬ (0 ≤ q ∧ q < b.length)) : Calls Try.prog 90 #[v, .int .i64 q] w (HandsTI w (recordsP b 5)) := by
  obtain ⟨l, i0, e0, hH⟩ : ∃ l i e, headR b 5 = (l, i, e) := ⟨_, _, _, rfl⟩
  have HHD := hid (fun w' (h : Nw w w') => show Calls Try.prog 41 #[v, .bool false] w' (HandsHd w' (l, i0, e0)) by rw [← hH]; exact rhead_c v b w' (hb.nw h) hl)
  obtain ⟨p, cap, rfl, hcap, hmx, hp0, hc⟩ := hb.open
  have hmx' := hmx
  unfold maxLen at hmx
  have HC := hid hc
  clear hb
  obtain ⟨dq, hdq⟩ : ∃ d, d = decide (0 ≤ q) := ⟨_, rfl⟩
  have hdq2 : dq = true → decide (q < (b.length : Int)) = false := fun h => decide_eq_false (by rw [hdq, decide_eq_true_iff] at h; omega)
  have HQ1 := hid hdq.symm
  have HQ2 := hid hdq2
  clear hdq hdq2 hq
  by_cases he : e0 = 0
  · subst he
    obtain ⟨i1, rfl, hi9, hib, hnm⟩ := headR_ok b l i0 hH
    obtain ⟨pb, po, rfl⟩ := hc.place (by rw [u8s_length]; omega)
    have HD := hid (fun es f h => recs_yes (es := es) (f := f) hH h)
    have hl64 := names_le hnm
    clear hc hH hnm hp0
    go_enter Try.func90, Try.ntmps90
    go_upto_region 1 with fail
    have y2 := heap_new w (.cells #[.slice none 0 0, .slice none 0 0] 34)
    have hn := (Nw.refl w).alloc (.cells #[.slice none 0 0, .slice none 0 0] 34)
    have hz0 := lt_alloc w (.cells #[.slice none 0 0, .slice none 0 0] 34)
    generalize w.alloc (.cells #[.slice none 0 0, .slice none 0 0] 34) = w0 at *
    have hdq := HQ1.out
    cases dq
    · skip
      go_upto_region 8 with (first
        | (go_at_call 41; refine (HHD.out _ (by repeat (first | assumption | exact Nw.refl _ | refine Nw.alloc ?_ _ | refine Nw.drew ?_ | refine Nw.drewN2 ?_ _ | (refine Nw.trans ?_ (by assumption))))).mono ?_; rintro e w1 ⟨v1, rfl, hs1, hn1⟩; obtain ⟨q1, c1, rfl, _⟩ := strs_open hs1; dsimp only at hs1 ⊢)
        | fail)
      have y5 := heap_new w1 (.cells #[.slice q1 l.length c1, .slice none 0 0] 34)
      have hnL : Nw w0 (w1.alloc (.cells #[.slice q1 l.length c1, .slice none 0 0] 34)) := hn1.alloc _
      have s1 := hs1.nw ((Nw.refl w1).alloc (.cells #[.slice q1 l.length c1, .slice none 0 0] 34))
      have hg5 := lt_alloc w1 (.cells #[.slice q1 l.length c1, .slice none 0 0] 34)
      have hg50 := hn1.size
      clear hs1 hn1
      generalize w1.alloc (.cells #[.slice q1 l.length c1, .slice none 0 0] 34) = wL at *
      generalize w1.heap.size = g5 at *
      have hz2 : w.heap.size < wL.heap.size := by omega
      have HS1 := hid (fun wr {v es} (h : CpIn wL g5 (.slice q1 l.length c1) v es wr) => show Sl wr (.slice q1 l.length c1) (Lx.strs l) from Sl.mods s1 h.2.2 (fun h0 j hj e => by subst e; exact absurd rfl (Tr.Sl.apart (s1.nw (Nw.refl _)) y5 strs_not h0 _ hj)))
      go_wp2
      go_loopw [8, 11] (fun at_ lt wr => ∃ (i : Nat) (es : Es) (v : Value) (f : Nat), at_ = .int .i64 i ∧ lt = .int .u64 (lastT es) ∧ i ≤ b.length ∧ es.length ≤ i ∧ b.length ≤ i + f ∧ Hid (recs b l.length (b.length + 1) i1 [] = recs b l.length (f + 1) i es) ∧ CpIn wL g5 (.slice q1 l.length c1) v es wr) (fun at_ _ _ => b.length - (intOf at_).toNat)
      case atStart => exact ⟨i1, [], _, b.length, rfl, rfl, hib, Nat.zero_le _, by omega, hid rfl, y5, EvIn.nil _ _, Mods.refl _ _⟩
      case round =>
        clear s1 y5
        obtain ⟨i, es, v, f, rfl, rfl, hi, hel, hif, HQ, hst⟩ := hrel
        have hnr : Nw w0 wr := hnL.ofMods hst.2.2 (fun j e => by omega)
        have hnw := hn.trans hnr
        obtain ⟨qv, cv, rfl⟩ := hst.2.1.shape (n := es.length) rfl
        obtain ⟨tt, ll, nn, ee, hG⟩ : ∃ tt ll nn ee, get (b.drop i) l.length = ((tt, ll), nn, ee) := ⟨_, _, _, _, rfl⟩
        have HGT := hid (fun w' va (hva : Bytes w' va (b.drop i)) => show Calls Try.prog 100 #[va, .int .i64 (l.length : Int)] w' (HandsGO w' ((tt, ll), nn, ee)) by rw [← hG]; exact Rec.rget_o va (b.drop i) l.length w' hva (by rw [List.length_drop]; omega) (by omega) (by omega))
        have hBi : ∀ w', Nw wr w' → Bytes w' (.slice (some ⟨pb, po + i, none⟩) (b.length - i) (cap - i)) (b.drop i) := fun w' h => by
          have := bytes_sub (HC.out.nw (hnw.trans h)) hcap hmx' i (b.length - i) (by omega)
          rwa [List.take_of_length_le (by rw [List.length_drop]; exact Nat.le_refl _)] at this
        have HB := hid hBi
        have hck : (b.length : Int) - i = ((b.length - i : Nat) : Int) := by omega
        clear hBi
        by_cases hci : cap = i
        · have HB0 := hid (show ∀ w', Nw wr w' → Bytes w' (.slice (some ⟨pb, po, none⟩) (b.length - i) 0) (b.drop i) from fun w' _ => by
            have e : b.drop i = [] := List.drop_eq_nil_of_le (by omega)
            rw [e, show b.length - i = 0 by omega]
            exact Bytes.mk (fun _ h => by cases h) rfl (Nat.zero_le _) (by simp [maxLen]) (fun _ => rfl))
          clear HB
          go_upto_region 10 with (first
            | (go_at_call 100; refine (HGT.out _ _ (HB0.out _ (by repeat (first | assumption | exact Nw.refl _ | refine Nw.alloc ?_ _ | refine Nw.drew ?_ | refine Nw.drewN2 ?_ _ | (refine Nw.trans ?_ (by assumption)))))).mono ?_; rintro e w4 ⟨v4, rfl, ho4, hn4⟩; obtain ⟨p4, c4, rfl⟩ := ints_shape ho4; dsimp only at ho4 ⊢)
            | fail)
          clear hci
          have hnz : Nw wr (w4.alloc (.cells #[.int .u64 tt, .slice p4 ll.length c4] 38)) := hn4.alloc _
          obtain ⟨z0, z1⟩ := box2 w4 (.int .u64 tt) (.slice p4 ll.length c4) 38
          have hoz := ho4.nw ((Nw.refl w4).alloc (.cells #[.int .u64 tt, .slice p4 ll.length c4] 38))
          have hzr := hn4.size
          have hLr := hst.2.2.size
          clear ho4 hn4
          generalize w4.alloc (.cells #[.int .u64 tt, .slice p4 ll.length c4] 38) = wz at *
          generalize w4.heap.size = zE at *
          have hstz := hst.nw hnz
          have y2z := (hnr.trans hnz).heap y2
          have e0 := heap_cell hstz.1 0
          have e1 := heap_cell hstz.1 1
          simp only [List.getElem?_toArray, List.getElem?_cons_succ, List.getElem?_cons_zero] at e0 e1
          by_cases hee : ee = 0
          · subst hee
            obtain ⟨m, rfl, hm14, hmle, ht0, ht1, hr64⟩ := get_ok _ _ _ _ _ hG
            rw [List.length_drop] at hmle
            by_cases htt : tt < lastT es
            · have hd3 : decide (tt < lastT es) = true := decide_eq_true htt
              have hy := lastT_yes ht0 htt
              have HF := hid (HD.out _ _ (HQ.out.trans (recs_fall hG hy.1 hy.2)))
              clear HQ htt hm14 hmle ht0 ht1 hr64 hy
              generalize lastT es = tj at *
              have hwE : w.heap.size ≤ wL.heap.size := by omega
              have hstR := hstz
              have y2R := y2z
              have d0 := heap_cell y2R 0
              have d1 := heap_cell y2R 1
              simp only [List.getElem?_toArray, List.getElem?_cons_succ, List.getElem?_cons_zero] at d0 d1
              have f0 := heap_frozen y2R 0
              have f1 := heap_frozen y2R 1
              go_wp2
              ((try simp only [Exit.inBlock, Exit.then]); refine bodyPost_ret (results_cell2 rfl _ _ _ _ _ _ _ rfl (heap_set (heap_set y2R 0 (.slice q1 l.length c1)) 1 (.slice qv es.length cv)) Try.underlying34 rfl (by kernel_rfl)) rfl ?_)
              rw [HF.out]
              have s1R := HS1.out _ hstR
              exact ⟨_, rfl, ⟨_, _, rfl, Tr.Sl.set2 (a := .slice q1 l.length c1) (b := .slice none 0 0) (Tr.Sl.set2 s1R y2R strs_not) (heap_set y2R 0 _) strs_not, (EvIn.set (a := .slice q1 l.length c1) (b := .slice none 0 0) (EvIn.set hstR.2.1 hz2 y2R (fun _ => nofun) (fun _ => nofun)) hz2 (heap_set y2R 0 _) (fun _ => nofun) (fun _ => nofun)).mono hwE⟩, (((hn.trans (hnr.trans hnz)).setCell (p := ⟨w.heap.size, 0, none⟩) (Nat.le_refl _) _).setCell (p := ⟨w.heap.size, 1, none⟩) (Nat.le_refl _) _)⟩
            · have hd3 : decide (tt < lastT es) = false := decide_eq_false htt
              have HG := hid (recs_go (f := f) (es := es) (p := l.length) hG (lastT_no ht0 htt))
              clear htt hG ht0 ht1 hr64
              generalize lastT es = tj at *
              obtain ⟨vs, hvl, hrow, hall⟩ := hst.2.1
              have hRz : Nw wr (wz.alloc (.cells #[.int .u64 tt, .slice p4 ll.length c4] 38)) := hnz.alloc _
              have hoR := hoz.nw ((Nw.refl wz).alloc (.cells #[.int .u64 tt, .slice p4 ll.length c4] 38))
              have hB : wL.heap.size ≤ (wz.alloc (.cells #[.int .u64 tt, .slice p4 ll.length c4] 38)).heap.size := Nat.le_trans hst.2.2.size hRz.size
              have hel2 : es.length + 1 ≤ i + m := by omega
              have hib2 : i + m ≤ b.length := by omega
              obtain ⟨f', rfl⟩ : ∃ f', f = f' + 1 := ⟨f - 1, by omega⟩
              have hif2 : b.length ≤ i + m + f' := by omega
              have hel3 : es.length ≤ 1000000000 := by omega
              have hm1 : 1 ≤ m := by omega
              have g1 := World.block_lt_of_cell? wz _ z0
              have hzE : zE < (wz.alloc (.cells #[.int .u64 tt, .slice p4 ll.length c4] 38)).heap.size := Nat.lt_of_lt_of_le g1 (Nat.le_of_lt (lt_alloc wz _))
              have z0a := ((Nw.refl wz).alloc (.cells #[.int .u64 tt, .slice p4 ll.length c4] 38)).cell z0
              simp only at g1
              clear hm14 hmle hel hif
              go_wp2_with (first
                | (at_builtin; refine appat rfl _ _ _ rfl _ _ _ _ Try.underlying32 info_event rfl (by decide) (by decide) hB (hRz.ownsRow hrow) rfl rfl (show [Value.int .u64 tt, Value.slice p4 ll.length c4].length = 2 from rfl) (Tr.cells_newAt wz [_, _] _ _ _ rfl) (by simp [Value.oneCell']) ?_ ?_; rotate_left; (omega); intro v2 w2 hown2 hg2 hat2; obtain ⟨⟨q9, c9, rfl⟩, y9, hst2⟩ := CpIn.step hst hRz hg5 rfl hvl hrow hall hoR hown2 hg2 hat2; have z09 := ev_cell hg2 hrow hzr hzE z0a; have y91 := heap_cell y9 1; have y9f := heap_frozen y9 1; simp only [List.getElem?_toArray, List.getElem?_cons_succ, List.getElem?_cons_zero] at y91)
                | fail)
              go_roundw
              case rel => exact ⟨i + m, es ++ [(tt, ll)], _, f', by go_num, by rw [lastT_snoc], hib2, by rw [List.length_append, List.length_singleton]; exact hel2, hif2, hid (HQ.out.trans HG.out), hst2⟩
              case measure => (simp [intOf] <;> omega)
          · have hde : (ee == 0) = false := beq_eq_false_iff_ne.2 hee
            have hde2 : (ee != 0) = true := by simpa using hee
            have HF := hid (HD.out _ _ (HQ.out.trans (recs_stop hG hee)))
            clear HQ
            generalize lastT es = tj at *
            have hwE : w.heap.size ≤ wL.heap.size := by omega
            have hstR := hstz
            have y2R := y2z
            have d0 := heap_cell y2R 0
            have d1 := heap_cell y2R 1
            simp only [List.getElem?_toArray, List.getElem?_cons_succ, List.getElem?_cons_zero] at d0 d1
            have f0 := heap_frozen y2R 0
            have f1 := heap_frozen y2R 1
            go_wp2
            ((try simp only [Exit.inBlock, Exit.then]); refine bodyPost_ret (results_cell2 rfl _ _ _ _ _ _ _ rfl (heap_set (heap_set y2R 0 (.slice q1 l.length c1)) 1 (.slice qv es.length cv)) Try.underlying34 rfl (by kernel_rfl)) rfl ?_)
            rw [HF.out]
            have s1R := HS1.out _ hstR
            exact ⟨_, rfl, ⟨_, _, rfl, Tr.Sl.set2 (a := .slice q1 l.length c1) (b := .slice none 0 0) (Tr.Sl.set2 s1R y2R strs_not) (heap_set y2R 0 _) strs_not, (EvIn.set (a := .slice q1 l.length c1) (b := .slice none 0 0) (EvIn.set hstR.2.1 hz2 y2R (fun _ => nofun) (fun _ => nofun)) hz2 (heap_set y2R 0 _) (fun _ => nofun) (fun _ => nofun)).mono hwE⟩, (((hn.trans (hnr.trans hnz)).setCell (p := ⟨w.heap.size, 0, none⟩) (Nat.le_refl _) _).setCell (p := ⟨w.heap.size, 1, none⟩) (Nat.le_refl _) _)⟩
        · have HB0 := HB
          clear HB
          go_upto_region 10 with (first
            | (go_at_call 100; refine (HGT.out _ _ (HB0.out _ (by repeat (first | assumption | exact Nw.refl _ | refine Nw.alloc ?_ _ | refine Nw.drew ?_ | refine Nw.drewN2 ?_ _ | (refine Nw.trans ?_ (by assumption)))))).mono ?_; rintro e w4 ⟨v4, rfl, ho4, hn4⟩; obtain ⟨p4, c4, rfl⟩ := ints_shape ho4; dsimp only at ho4 ⊢)
            | fail)
          clear hci
          have hnz : Nw wr (w4.alloc (.cells #[.int .u64 tt, .slice p4 ll.length c4] 38)) := hn4.alloc _
          obtain ⟨z0, z1⟩ := box2 w4 (.int .u64 tt) (.slice p4 ll.length c4) 38
          have hoz := ho4.nw ((Nw.refl w4).alloc (.cells #[.int .u64 tt, .slice p4 ll.length c4] 38))
          have hzr := hn4.size
          have hLr := hst.2.2.size
          clear ho4 hn4
          generalize w4.alloc (.cells #[.int .u64 tt, .slice p4 ll.length c4] 38) = wz at *
          generalize w4.heap.size = zE at *
          have hstz := hst.nw hnz
          have y2z := (hnr.trans hnz).heap y2
          have e0 := heap_cell hstz.1 0
          have e1 := heap_cell hstz.1 1
          simp only [List.getElem?_toArray, List.getElem?_cons_succ, List.getElem?_cons_zero] at e0 e1
          by_cases hee : ee = 0
          · subst hee
            obtain ⟨m, rfl, hm14, hmle, ht0, ht1, hr64⟩ := get_ok _ _ _ _ _ hG
            rw [List.length_drop] at hmle
            by_cases htt : tt < lastT es
            · have hd3 : decide (tt < lastT es) = true := decide_eq_true htt
              have hy := lastT_yes ht0 htt
              have HF := hid (HD.out _ _ (HQ.out.trans (recs_fall hG hy.1 hy.2)))
              clear HQ htt hm14 hmle ht0 ht1 hr64 hy
              generalize lastT es = tj at *
              have hwE : w.heap.size ≤ wL.heap.size := by omega
              have hstR := hstz
              have y2R := y2z
              have d0 := heap_cell y2R 0
              have d1 := heap_cell y2R 1
              simp only [List.getElem?_toArray, List.getElem?_cons_succ, List.getElem?_cons_zero] at d0 d1
              have f0 := heap_frozen y2R 0
              have f1 := heap_frozen y2R 1
              go_wp2
              ((try simp only [Exit.inBlock, Exit.then]); refine bodyPost_ret (results_cell2 rfl _ _ _ _ _ _ _ rfl (heap_set (heap_set y2R 0 (.slice q1 l.length c1)) 1 (.slice qv es.length cv)) Try.underlying34 rfl (by kernel_rfl)) rfl ?_)
              rw [HF.out]
              have s1R := HS1.out _ hstR
              exact ⟨_, rfl, ⟨_, _, rfl, Tr.Sl.set2 (a := .slice q1 l.length c1) (b := .slice none 0 0) (Tr.Sl.set2 s1R y2R strs_not) (heap_set y2R 0 _) strs_not, (EvIn.set (a := .slice q1 l.length c1) (b := .slice none 0 0) (EvIn.set hstR.2.1 hz2 y2R (fun _ => nofun) (fun _ => nofun)) hz2 (heap_set y2R 0 _) (fun _ => nofun) (fun _ => nofun)).mono hwE⟩, (((hn.trans (hnr.trans hnz)).setCell (p := ⟨w.heap.size, 0, none⟩) (Nat.le_refl _) _).setCell (p := ⟨w.heap.size, 1, none⟩) (Nat.le_refl _) _)⟩
            · have hd3 : decide (tt < lastT es) = false := decide_eq_false htt
              have HG := hid (recs_go (f := f) (es := es) (p := l.length) hG (lastT_no ht0 htt))
              clear htt hG ht0 ht1 hr64
              generalize lastT es = tj at *
              obtain ⟨vs, hvl, hrow, hall⟩ := hst.2.1
              have hRz : Nw wr (wz.alloc (.cells #[.int .u64 tt, .slice p4 ll.length c4] 38)) := hnz.alloc _
              have hoR := hoz.nw ((Nw.refl wz).alloc (.cells #[.int .u64 tt, .slice p4 ll.length c4] 38))
              have hB : wL.heap.size ≤ (wz.alloc (.cells #[.int .u64 tt, .slice p4 ll.length c4] 38)).heap.size := Nat.le_trans hst.2.2.size hRz.size
              have hel2 : es.length + 1 ≤ i + m := by omega
              have hib2 : i + m ≤ b.length := by omega
              obtain ⟨f', rfl⟩ : ∃ f', f = f' + 1 := ⟨f - 1, by omega⟩
              have hif2 : b.length ≤ i + m + f' := by omega
              have hel3 : es.length ≤ 1000000000 := by omega
              have hm1 : 1 ≤ m := by omega
              have g1 := World.block_lt_of_cell? wz _ z0
              have hzE : zE < (wz.alloc (.cells #[.int .u64 tt, .slice p4 ll.length c4] 38)).heap.size := Nat.lt_of_lt_of_le g1 (Nat.le_of_lt (lt_alloc wz _))
              have z0a := ((Nw.refl wz).alloc (.cells #[.int .u64 tt, .slice p4 ll.length c4] 38)).cell z0
              simp only at g1
              clear hm14 hmle hel hif
              go_wp2_with (first
                | (at_builtin; refine appat rfl _ _ _ rfl _ _ _ _ Try.underlying32 info_event rfl (by decide) (by decide) hB (hRz.ownsRow hrow) rfl rfl (show [Value.int .u64 tt, Value.slice p4 ll.length c4].length = 2 from rfl) (Tr.cells_newAt wz [_, _] _ _ _ rfl) (by simp [Value.oneCell']) ?_ ?_; rotate_left; (omega); intro v2 w2 hown2 hg2 hat2; obtain ⟨⟨q9, c9, rfl⟩, y9, hst2⟩ := CpIn.step hst hRz hg5 rfl hvl hrow hall hoR hown2 hg2 hat2; have z09 := ev_cell hg2 hrow hzr hzE z0a; have y91 := heap_cell y9 1; have y9f := heap_frozen y9 1; simp only [List.getElem?_toArray, List.getElem?_cons_succ, List.getElem?_cons_zero] at y91)
                | fail)
              go_roundw
              case rel => exact ⟨i + m, es ++ [(tt, ll)], _, f', by go_num, by rw [lastT_snoc], hib2, by rw [List.length_append, List.length_singleton]; exact hel2, hif2, hid (HQ.out.trans HG.out), hst2⟩
              case measure => (simp [intOf] <;> omega)
          · have hde : (ee == 0) = false := beq_eq_false_iff_ne.2 hee
            have hde2 : (ee != 0) = true := by simpa using hee
            have HF := hid (HD.out _ _ (HQ.out.trans (recs_stop hG hee)))
            clear HQ
            generalize lastT es = tj at *
            have hwE : w.heap.size ≤ wL.heap.size := by omega
            have hstR := hstz
            have y2R := y2z
            have d0 := heap_cell y2R 0
            have d1 := heap_cell y2R 1
            simp only [List.getElem?_toArray, List.getElem?_cons_succ, List.getElem?_cons_zero] at d0 d1
            have f0 := heap_frozen y2R 0
            have f1 := heap_frozen y2R 1
            go_wp2
            ((try simp only [Exit.inBlock, Exit.then]); refine bodyPost_ret (results_cell2 rfl _ _ _ _ _ _ _ rfl (heap_set (heap_set y2R 0 (.slice q1 l.length c1)) 1 (.slice qv es.length cv)) Try.underlying34 rfl (by kernel_rfl)) rfl ?_)
            rw [HF.out]
            have s1R := HS1.out _ hstR
            exact ⟨_, rfl, ⟨_, _, rfl, Tr.Sl.set2 (a := .slice q1 l.length c1) (b := .slice none 0 0) (Tr.Sl.set2 s1R y2R strs_not) (heap_set y2R 0 _) strs_not, (EvIn.set (a := .slice q1 l.length c1) (b := .slice none 0 0) (EvIn.set hstR.2.1 hz2 y2R (fun _ => nofun) (fun _ => nofun)) hz2 (heap_set y2R 0 _) (fun _ => nofun) (fun _ => nofun)).mono hwE⟩, (((hn.trans (hnr.trans hnz)).setCell (p := ⟨w.heap.size, 0, none⟩) (Nat.le_refl _) _).setCell (p := ⟨w.heap.size, 1, none⟩) (Nat.le_refl _) _)⟩
    · have hdq2 := HQ2.out rfl
      go_upto_region 8 with (first
        | (go_at_call 41; refine (HHD.out _ (by repeat (first | assumption | exact Nw.refl _ | refine Nw.alloc ?_ _ | refine Nw.drew ?_ | refine Nw.drewN2 ?_ _ | (refine Nw.trans ?_ (by assumption))))).mono ?_; rintro e w1 ⟨v1, rfl, hs1, hn1⟩; obtain ⟨q1, c1, rfl, _⟩ := strs_open hs1; dsimp only at hs1 ⊢)
        | fail)
      have y5 := heap_new w1 (.cells #[.slice q1 l.length c1, .slice none 0 0] 34)
      have hnL : Nw w0 (w1.alloc (.cells #[.slice q1 l.length c1, .slice none 0 0] 34)) := hn1.alloc _
      have s1 := hs1.nw ((Nw.refl w1).alloc (.cells #[.slice q1 l.length c1, .slice none 0 0] 34))
      have hg5 := lt_alloc w1 (.cells #[.slice q1 l.length c1, .slice none 0 0] 34)
      have hg50 := hn1.size
      clear hs1 hn1
      generalize w1.alloc (.cells #[.slice q1 l.length c1, .slice none 0 0] 34) = wL at *
      generalize w1.heap.size = g5 at *
      have hz2 : w.heap.size < wL.heap.size := by omega
      have HS1 := hid (fun wr {v es} (h : CpIn wL g5 (.slice q1 l.length c1) v es wr) => show Sl wr (.slice q1 l.length c1) (Lx.strs l) from Sl.mods s1 h.2.2 (fun h0 j hj e => by subst e; exact absurd rfl (Tr.Sl.apart (s1.nw (Nw.refl _)) y5 strs_not h0 _ hj)))
      go_wp2
      go_loopw [8, 11] (fun at_ lt wr => ∃ (i : Nat) (es : Es) (v : Value) (f : Nat), at_ = .int .i64 i ∧ lt = .int .u64 (lastT es) ∧ i ≤ b.length ∧ es.length ≤ i ∧ b.length ≤ i + f ∧ Hid (recs b l.length (b.length + 1) i1 [] = recs b l.length (f + 1) i es) ∧ CpIn wL g5 (.slice q1 l.length c1) v es wr) (fun at_ _ _ => b.length - (intOf at_).toNat)
      case atStart => exact ⟨i1, [], _, b.length, rfl, rfl, hib, Nat.zero_le _, by omega, hid rfl, y5, EvIn.nil _ _, Mods.refl _ _⟩
      case round =>
        clear s1 y5
        obtain ⟨i, es, v, f, rfl, rfl, hi, hel, hif, HQ, hst⟩ := hrel
        have hnr : Nw w0 wr := hnL.ofMods hst.2.2 (fun j e => by omega)
        have hnw := hn.trans hnr
        obtain ⟨qv, cv, rfl⟩ := hst.2.1.shape (n := es.length) rfl
        obtain ⟨tt, ll, nn, ee, hG⟩ : ∃ tt ll nn ee, get (b.drop i) l.length = ((tt, ll), nn, ee) := ⟨_, _, _, _, rfl⟩
        have HGT := hid (fun w' va (hva : Bytes w' va (b.drop i)) => show Calls Try.prog 100 #[va, .int .i64 (l.length : Int)] w' (HandsGO w' ((tt, ll), nn, ee)) by rw [← hG]; exact Rec.rget_o va (b.drop i) l.length w' hva (by rw [List.length_drop]; omega) (by omega) (by omega))
        have hBi : ∀ w', Nw wr w' → Bytes w' (.slice (some ⟨pb, po + i, none⟩) (b.length - i) (cap - i)) (b.drop i) := fun w' h => by
          have := bytes_sub (HC.out.nw (hnw.trans h)) hcap hmx' i (b.length - i) (by omega)
          rwa [List.take_of_length_le (by rw [List.length_drop]; exact Nat.le_refl _)] at this
        have HB := hid hBi
        have hck : (b.length : Int) - i = ((b.length - i : Nat) : Int) := by omega
        clear hBi
        by_cases hci : cap = i
        · have HB0 := hid (show ∀ w', Nw wr w' → Bytes w' (.slice (some ⟨pb, po, none⟩) (b.length - i) 0) (b.drop i) from fun w' _ => by
            have e : b.drop i = [] := List.drop_eq_nil_of_le (by omega)
            rw [e, show b.length - i = 0 by omega]
            exact Bytes.mk (fun _ h => by cases h) rfl (Nat.zero_le _) (by simp [maxLen]) (fun _ => rfl))
          clear HB
          go_upto_region 10 with (first
            | (go_at_call 100; refine (HGT.out _ _ (HB0.out _ (by repeat (first | assumption | exact Nw.refl _ | refine Nw.alloc ?_ _ | refine Nw.drew ?_ | refine Nw.drewN2 ?_ _ | (refine Nw.trans ?_ (by assumption)))))).mono ?_; rintro e w4 ⟨v4, rfl, ho4, hn4⟩; obtain ⟨p4, c4, rfl⟩ := ints_shape ho4; dsimp only at ho4 ⊢)
            | fail)
          clear hci
          have hnz : Nw wr (w4.alloc (.cells #[.int .u64 tt, .slice p4 ll.length c4] 38)) := hn4.alloc _
          obtain ⟨z0, z1⟩ := box2 w4 (.int .u64 tt) (.slice p4 ll.length c4) 38
          have hoz := ho4.nw ((Nw.refl w4).alloc (.cells #[.int .u64 tt, .slice p4 ll.length c4] 38))
          have hzr := hn4.size
          have hLr := hst.2.2.size
          clear ho4 hn4
          generalize w4.alloc (.cells #[.int .u64 tt, .slice p4 ll.length c4] 38) = wz at *
          generalize w4.heap.size = zE at *
          have hstz := hst.nw hnz
          have y2z := (hnr.trans hnz).heap y2
          have e0 := heap_cell hstz.1 0
          have e1 := heap_cell hstz.1 1
          simp only [List.getElem?_toArray, List.getElem?_cons_succ, List.getElem?_cons_zero] at e0 e1
          by_cases hee : ee = 0
          · subst hee
            obtain ⟨m, rfl, hm14, hmle, ht0, ht1, hr64⟩ := get_ok _ _ _ _ _ hG
            rw [List.length_drop] at hmle
            by_cases htt : tt < lastT es
            · have hd3 : decide (tt < lastT es) = true := decide_eq_true htt
              have hy := lastT_yes ht0 htt
              have HF := hid (HD.out _ _ (HQ.out.trans (recs_fall hG hy.1 hy.2)))
              clear HQ htt hm14 hmle ht0 ht1 hr64 hy
              generalize lastT es = tj at *
              have hwE : w.heap.size ≤ wL.heap.size := by omega
              have hstR := hstz
              have y2R := y2z
              have d0 := heap_cell y2R 0
              have d1 := heap_cell y2R 1
              simp only [List.getElem?_toArray, List.getElem?_cons_succ, List.getElem?_cons_zero] at d0 d1
              have f0 := heap_frozen y2R 0
              have f1 := heap_frozen y2R 1
              go_wp2
              ((try simp only [Exit.inBlock, Exit.then]); refine bodyPost_ret (results_cell2 rfl _ _ _ _ _ _ _ rfl (heap_set (heap_set y2R 0 (.slice q1 l.length c1)) 1 (.slice qv es.length cv)) Try.underlying34 rfl (by kernel_rfl)) rfl ?_)
              rw [HF.out]
              have s1R := HS1.out _ hstR
              exact ⟨_, rfl, ⟨_, _, rfl, Tr.Sl.set2 (a := .slice q1 l.length c1) (b := .slice none 0 0) (Tr.Sl.set2 s1R y2R strs_not) (heap_set y2R 0 _) strs_not, (EvIn.set (a := .slice q1 l.length c1) (b := .slice none 0 0) (EvIn.set hstR.2.1 hz2 y2R (fun _ => nofun) (fun _ => nofun)) hz2 (heap_set y2R 0 _) (fun _ => nofun) (fun _ => nofun)).mono hwE⟩, (((hn.trans (hnr.trans hnz)).setCell (p := ⟨w.heap.size, 0, none⟩) (Nat.le_refl _) _).setCell (p := ⟨w.heap.size, 1, none⟩) (Nat.le_refl _) _)⟩
            · have hd3 : decide (tt < lastT es) = false := decide_eq_false htt
              have HG := hid (recs_go (f := f) (es := es) (p := l.length) hG (lastT_no ht0 htt))
              clear htt hG ht0 ht1 hr64
              generalize lastT es = tj at *
              obtain ⟨vs, hvl, hrow, hall⟩ := hst.2.1
              have hRz : Nw wr (wz.alloc (.cells #[.int .u64 tt, .slice p4 ll.length c4] 38)) := hnz.alloc _
              have hoR := hoz.nw ((Nw.refl wz).alloc (.cells #[.int .u64 tt, .slice p4 ll.length c4] 38))
              have hB : wL.heap.size ≤ (wz.alloc (.cells #[.int .u64 tt, .slice p4 ll.length c4] 38)).heap.size := Nat.le_trans hst.2.2.size hRz.size
              have hel2 : es.length + 1 ≤ i + m := by omega
              have hib2 : i + m ≤ b.length := by omega
              obtain ⟨f', rfl⟩ : ∃ f', f = f' + 1 := ⟨f - 1, by omega⟩
              have hif2 : b.length ≤ i + m + f' := by omega
              have hel3 : es.length ≤ 1000000000 := by omega
              have hm1 : 1 ≤ m := by omega
              have g1 := World.block_lt_of_cell? wz _ z0
              have hzE : zE < (wz.alloc (.cells #[.int .u64 tt, .slice p4 ll.length c4] 38)).heap.size := Nat.lt_of_lt_of_le g1 (Nat.le_of_lt (lt_alloc wz _))
              have z0a := ((Nw.refl wz).alloc (.cells #[.int .u64 tt, .slice p4 ll.length c4] 38)).cell z0
              simp only at g1
              clear hm14 hmle hel hif
              go_wp2_with (first
                | (at_builtin; refine appat rfl _ _ _ rfl _ _ _ _ Try.underlying32 info_event rfl (by decide) (by decide) hB (hRz.ownsRow hrow) rfl rfl (show [Value.int .u64 tt, Value.slice p4 ll.length c4].length = 2 from rfl) (Tr.cells_newAt wz [_, _] _ _ _ rfl) (by simp [Value.oneCell']) ?_ ?_; rotate_left; (omega); intro v2 w2 hown2 hg2 hat2; obtain ⟨⟨q9, c9, rfl⟩, y9, hst2⟩ := CpIn.step hst hRz hg5 rfl hvl hrow hall hoR hown2 hg2 hat2; have z09 := ev_cell hg2 hrow hzr hzE z0a; have y91 := heap_cell y9 1; have y9f := heap_frozen y9 1; simp only [List.getElem?_toArray, List.getElem?_cons_succ, List.getElem?_cons_zero] at y91)
                | fail)
              go_roundw
              case rel => exact ⟨i + m, es ++ [(tt, ll)], _, f', by go_num, by rw [lastT_snoc], hib2, by rw [List.length_append, List.length_singleton]; exact hel2, hif2, hid (HQ.out.trans HG.out), hst2⟩
              case measure => (simp [intOf] <;> omega)
          · have hde : (ee == 0) = false := beq_eq_false_iff_ne.2 hee
            have hde2 : (ee != 0) = true := by simpa using hee
            have HF := hid (HD.out _ _ (HQ.out.trans (recs_stop hG hee)))
            clear HQ
            generalize lastT es = tj at *
            have hwE : w.heap.size ≤ wL.heap.size := by omega
            have hstR := hstz
            have y2R := y2z
            have d0 := heap_cell y2R 0
            have d1 := heap_cell y2R 1
            simp only [List.getElem?_toArray, List.getElem?_cons_succ, List.getElem?_cons_zero] at d0 d1
            have f0 := heap_frozen y2R 0
            have f1 := heap_frozen y2R 1
            go_wp2
            ((try simp only [Exit.inBlock, Exit.then]); refine bodyPost_ret (results_cell2 rfl _ _ _ _ _ _ _ rfl (heap_set (heap_set y2R 0 (.slice q1 l.length c1)) 1 (.slice qv es.length cv)) Try.underlying34 rfl (by kernel_rfl)) rfl ?_)
            rw [HF.out]
            have s1R := HS1.out _ hstR
            exact ⟨_, rfl, ⟨_, _, rfl, Tr.Sl.set2 (a := .slice q1 l.length c1) (b := .slice none 0 0) (Tr.Sl.set2 s1R y2R strs_not) (heap_set y2R 0 _) strs_not, (EvIn.set (a := .slice q1 l.length c1) (b := .slice none 0 0) (EvIn.set hstR.2.1 hz2 y2R (fun _ => nofun) (fun _ => nofun)) hz2 (heap_set y2R 0 _) (fun _ => nofun) (fun _ => nofun)).mono hwE⟩, (((hn.trans (hnr.trans hnz)).setCell (p := ⟨w.heap.size, 0, none⟩) (Nat.le_refl _) _).setCell (p := ⟨w.heap.size, 1, none⟩) (Nat.le_refl _) _)⟩
        · have HB0 := HB
          clear HB
          go_upto_region 10 with (first
            | (go_at_call 100; refine (HGT.out _ _ (HB0.out _ (by repeat (first | assumption | exact Nw.refl _ | refine Nw.alloc ?_ _ | refine Nw.drew ?_ | refine Nw.drewN2 ?_ _ | (refine Nw.trans ?_ (by assumption)))))).mono ?_; rintro e w4 ⟨v4, rfl, ho4, hn4⟩; obtain ⟨p4, c4, rfl⟩ := ints_shape ho4; dsimp only at ho4 ⊢)
            | fail)
          clear hci
          have hnz : Nw wr (w4.alloc (.cells #[.int .u64 tt, .slice p4 ll.length c4] 38)) := hn4.alloc _
          obtain ⟨z0, z1⟩ := box2 w4 (.int .u64 tt) (.slice p4 ll.length c4) 38
          have hoz := ho4.nw ((Nw.refl w4).alloc (.cells #[.int .u64 tt, .slice p4 ll.length c4] 38))
          have hzr := hn4.size
          have hLr := hst.2.2.size
          clear ho4 hn4
          generalize w4.alloc (.cells #[.int .u64 tt, .slice p4 ll.length c4] 38) = wz at *
          generalize w4.heap.size = zE at *
          have hstz := hst.nw hnz
          have y2z := (hnr.trans hnz).heap y2
          have e0 := heap_cell hstz.1 0
          have e1 := heap_cell hstz.1 1
          simp only [List.getElem?_toArray, List.getElem?_cons_succ, List.getElem?_cons_zero] at e0 e1
          by_cases hee : ee = 0
          · subst hee
            obtain ⟨m, rfl, hm14, hmle, ht0, ht1, hr64⟩ := get_ok _ _ _ _ _ hG
            rw [List.length_drop] at hmle
            by_cases htt : tt < lastT es
            · have hd3 : decide (tt < lastT es) = true := decide_eq_true htt
              have hy := lastT_yes ht0 htt
              have HF := hid (HD.out _ _ (HQ.out.trans (recs_fall hG hy.1 hy.2)))
              clear HQ htt hm14 hmle ht0 ht1 hr64 hy
              generalize lastT es = tj at *
              have hwE : w.heap.size ≤ wL.heap.size := by omega
              have hstR := hstz
              have y2R := y2z
              have d0 := heap_cell y2R 0
              have d1 := heap_cell y2R 1
              simp only [List.getElem?_toArray, List.getElem?_cons_succ, List.getElem?_cons_zero] at d0 d1
              have f0 := heap_frozen y2R 0
              have f1 := heap_frozen y2R 1
              go_wp2
              ((try simp only [Exit.inBlock, Exit.then]); refine bodyPost_ret (results_cell2 rfl _ _ _ _ _ _ _ rfl (heap_set (heap_set y2R 0 (.slice q1 l.length c1)) 1 (.slice qv es.length cv)) Try.underlying34 rfl (by kernel_rfl)) rfl ?_)
              rw [HF.out]
              have s1R := HS1.out _ hstR
              exact ⟨_, rfl, ⟨_, _, rfl, Tr.Sl.set2 (a := .slice q1 l.length c1) (b := .slice none 0 0) (Tr.Sl.set2 s1R y2R strs_not) (heap_set y2R 0 _) strs_not, (EvIn.set (a := .slice q1 l.length c1) (b := .slice none 0 0) (EvIn.set hstR.2.1 hz2 y2R (fun _ => nofun) (fun _ => nofun)) hz2 (heap_set y2R 0 _) (fun _ => nofun) (fun _ => nofun)).mono hwE⟩, (((hn.trans (hnr.trans hnz)).setCell (p := ⟨w.heap.size, 0, none⟩) (Nat.le_refl _) _).setCell (p := ⟨w.heap.size, 1, none⟩) (Nat.le_refl _) _)⟩
            · have hd3 : decide (tt < lastT es) = false := decide_eq_false htt
              have HG := hid (recs_go (f := f) (es := es) (p := l.length) hG (lastT_no ht0 htt))
              clear htt hG ht0 ht1 hr64
              generalize lastT es = tj at *
              obtain ⟨vs, hvl, hrow, hall⟩ := hst.2.1
              have hRz : Nw wr (wz.alloc (.cells #[.int .u64 tt, .slice p4 ll.length c4] 38)) := hnz.alloc _
              have hoR := hoz.nw ((Nw.refl wz).alloc (.cells #[.int .u64 tt, .slice p4 ll.length c4] 38))
              have hB : wL.heap.size ≤ (wz.alloc (.cells #[.int .u64 tt, .slice p4 ll.length c4] 38)).heap.size := Nat.le_trans hst.2.2.size hRz.size
              have hel2 : es.length + 1 ≤ i + m := by omega
              have hib2 : i + m ≤ b.length := by omega
              obtain ⟨f', rfl⟩ : ∃ f', f = f' + 1 := ⟨f - 1, by omega⟩
              have hif2 : b.length ≤ i + m + f' := by omega
              have hel3 : es.length ≤ 1000000000 := by omega
              have hm1 : 1 ≤ m := by omega
              have g1 := World.block_lt_of_cell? wz _ z0
              have hzE : zE < (wz.alloc (.cells #[.int .u64 tt, .slice p4 ll.length c4] 38)).heap.size := Nat.lt_of_lt_of_le g1 (Nat.le_of_lt (lt_alloc wz _))
              have z0a := ((Nw.refl wz).alloc (.cells #[.int .u64 tt, .slice p4 ll.length c4] 38)).cell z0
              simp only at g1
              clear hm14 hmle hel hif
              go_wp2_with (first
                | (at_builtin; refine appat rfl _ _ _ rfl _ _ _ _ Try.underlying32 info_event rfl (by decide) (by decide) hB (hRz.ownsRow hrow) rfl rfl (show [Value.int .u64 tt, Value.slice p4 ll.length c4].length = 2 from rfl) (Tr.cells_newAt wz [_, _] _ _ _ rfl) (by simp [Value.oneCell']) ?_ ?_; rotate_left; (omega); intro v2 w2 hown2 hg2 hat2; obtain ⟨⟨q9, c9, rfl⟩, y9, hst2⟩ := CpIn.step hst hRz hg5 rfl hvl hrow hall hoR hown2 hg2 hat2; have z09 := ev_cell hg2 hrow hzr hzE z0a; have y91 := heap_cell y9 1; have y9f := heap_frozen y9 1; simp only [List.getElem?_toArray, List.getElem?_cons_succ, List.getElem?_cons_zero] at y91)
                | fail)
              go_roundw
              case rel => exact ⟨i + m, es ++ [(tt, ll)], _, f', by go_num, by rw [lastT_snoc], hib2, by rw [List.length_append, List.length_singleton]; exact hel2, hif2, hid (HQ.out.trans HG.out), hst2⟩
              case measure => (simp [intOf] <;> omega)
          · have hde : (ee == 0) = false := beq_eq_false_iff_ne.2 hee
            have hde2 : (ee != 0) = true := by simpa using hee
            have HF := hid (HD.out _ _ (HQ.out.trans (recs_stop hG hee)))
            clear HQ
            generalize lastT es = tj at *
            have hwE : w.heap.size ≤ wL.heap.size := by omega
            have hstR := hstz
            have y2R := y2z
            have d0 := heap_cell y2R 0
            have d1 := heap_cell y2R 1
            simp only [List.getElem?_toArray, List.getElem?_cons_succ, List.getElem?_cons_zero] at d0 d1
            have f0 := heap_frozen y2R 0
            have f1 := heap_frozen y2R 1
            go_wp2
            ((try simp only [Exit.inBlock, Exit.then]); refine bodyPost_ret (results_cell2 rfl _ _ _ _ _ _ _ rfl (heap_set (heap_set y2R 0 (.slice q1 l.length c1)) 1 (.slice qv es.length cv)) Try.underlying34 rfl (by kernel_rfl)) rfl ?_)
            rw [HF.out]
            have s1R := HS1.out _ hstR
            exact ⟨_, rfl, ⟨_, _, rfl, Tr.Sl.set2 (a := .slice q1 l.length c1) (b := .slice none 0 0) (Tr.Sl.set2 s1R y2R strs_not) (heap_set y2R 0 _) strs_not, (EvIn.set (a := .slice q1 l.length c1) (b := .slice none 0 0) (EvIn.set hstR.2.1 hz2 y2R (fun _ => nofun) (fun _ => nofun)) hz2 (heap_set y2R 0 _) (fun _ => nofun) (fun _ => nofun)).mono hwE⟩, (((hn.trans (hnr.trans hnz)).setCell (p := ⟨w.heap.size, 0, none⟩) (Nat.le_refl _) _).setCell (p := ⟨w.heap.size, 1, none⟩) (Nat.le_refl _) _)⟩
  · have HF := hid (recs_no hH he)
    have hde : (e0 != 0) = true := by simpa using he
    clear hc hH hp0
    go_enter Try.func90, Try.ntmps90
    go_upto_region 1 with fail
    have y2 := heap_new w (.cells #[.slice none 0 0, .slice none 0 0] 34)
    have hn := (Nw.refl w).alloc (.cells #[.slice none 0 0, .slice none 0 0] 34)
    have hz0 := lt_alloc w (.cells #[.slice none 0 0, .slice none 0 0] 34)
    generalize w.alloc (.cells #[.slice none 0 0, .slice none 0 0] 34) = w0 at *
    have hdq := HQ1.out
    cases dq
    · skip
      go_wp2_with (first
        | (go_at_call 41; refine (HHD.out _ (by repeat (first | assumption | exact Nw.refl _ | refine Nw.alloc ?_ _ | refine Nw.drew ?_ | refine Nw.drewN2 ?_ _ | (refine Nw.trans ?_ (by assumption))))).mono ?_; rintro e w1 ⟨v1, rfl, hs1, hn1⟩; have y2 := hn1.heap y2; have d0 := heap_cell y2 0; have d1 := heap_cell y2 1; simp only [List.getElem?_toArray, List.getElem?_cons_succ, List.getElem?_cons_zero] at d0 d1; have f0 := heap_frozen y2 0; have f1 := heap_frozen y2 1; dsimp only at hs1 ⊢)
        | fail)
      ((try simp only [Exit.inBlock, Exit.then]); refine bodyPost_ret (results_cell2 rfl _ _ _ _ _ _ _ rfl (heap_set (heap_set y2 0 (.slice none 0 0)) 1 (.slice none 0 0)) Try.underlying34 rfl (by kernel_rfl)) rfl ?_)
      rw [HF.out]
      exact ⟨_, rfl, ⟨_, _, rfl, Sl.nil _, EvIn.nil _ _⟩, ((hn.trans hn1).setCell (p := ⟨w.heap.size, 0, none⟩) (Nat.le_refl _) _).setCell (p := ⟨w.heap.size, 1, none⟩) (Nat.le_refl _) _⟩
    · have hdq2 := HQ2.out rfl
      go_wp2_with (first
        | (go_at_call 41; refine (HHD.out _ (by repeat (first | assumption | exact Nw.refl _ | refine Nw.alloc ?_ _ | refine Nw.drew ?_ | refine Nw.drewN2 ?_ _ | (refine Nw.trans ?_ (by assumption))))).mono ?_; rintro e w1 ⟨v1, rfl, hs1, hn1⟩; have y2 := hn1.heap y2; have d0 := heap_cell y2 0; have d1 := heap_cell y2 1; simp only [List.getElem?_toArray, List.getElem?_cons_succ, List.getElem?_cons_zero] at d0 d1; have f0 := heap_frozen y2 0; have f1 := heap_frozen y2 1; dsimp only at hs1 ⊢)
        | fail)
      ((try simp only [Exit.inBlock, Exit.then]); refine bodyPost_ret (results_cell2 rfl _ _ _ _ _ _ _ rfl (heap_set (heap_set y2 0 (.slice none 0 0)) 1 (.slice none 0 0)) Try.underlying34 rfl (by kernel_rfl)) rfl ?_)
      rw [HF.out]
      exact ⟨_, rfl, ⟨_, _, rfl, Sl.nil _, EvIn.nil _ _⟩, ((hn.trans hn1).setCell (p := ⟨w.heap.size, 0, none⟩) (Nat.le_refl _) _).setCell (p := ⟨w.heap.size, 1, none⟩) (Nat.le_refl _) _⟩
set_option maxRecDepth 20000 in
set_option maxHeartbeats 1600000 in
theorem rrecords_cuti (p : Option Addr) (nn cap : Nat) (b : List UInt8) (w : World) (hlt : b.length < nn) (hn0 : nn ≤ cap) (hmx : cap ≤ maxLen) (hp0 : p = none → cap = 0) (hc : Cells w p (u8s b)) (hl : b.length ≤ 1000000000) : Calls Try.prog 90 #[.slice p nn cap, .int .i64 (b.length : Int)] w (HandsTI w (recordsC b)) := by
  obtain ⟨l, i0, e0, hH⟩ : ∃ l i e, headR b 10 = (l, i, e) := ⟨_, _, _, rfl⟩
  have hcap : b.length ≤ cap := by omega
  have hb : Bytes w (.slice p b.length cap) b := Bytes.mk hc rfl hcap hmx hp0
  have HHD := hid (fun w' (h : Nw w w') => show Calls Try.prog 41 #[.slice p b.length cap, .bool true] w' (HandsHd w' (l, i0, e0)) by rw [← hH]; exact rheadf_c _ b w' (hb.nw h) hl)
  have hmx' := hmx
  unfold maxLen at hmx
  have HC := hid hc
  clear hb
  have hdn : decide ((b.length : Int) < (nn : Int)) = true := decide_eq_true (by omega)
  have hdn2 : decide (b.length < nn) = true := decide_eq_true hlt
  have hdz : decide ((0 : Int) ≤ (b.length : Int)) = true := decide_eq_true (by omega)
  by_cases he : e0 = 0
  · subst he
    obtain ⟨i1, rfl, hi9, hib, hnm⟩ := headC_ok b l i0 hH
    obtain ⟨pb, po, rfl⟩ := hc.place (by rw [u8s_length]; omega)
    have HD := hid (fun es f h => recsC_yes (es := es) (f := f) hH h)
    have hl64 := names_le hnm
    clear hc hH hnm hp0
    go_enter Try.func90, Try.ntmps90
    go_upto_region 1 with fail
    have y2 := heap_new w (.cells #[.slice none 0 0, .slice none 0 0] 34)
    have hn := (Nw.refl w).alloc (.cells #[.slice none 0 0, .slice none 0 0] 34)
    have hz0 := lt_alloc w (.cells #[.slice none 0 0, .slice none 0 0] 34)
    generalize w.alloc (.cells #[.slice none 0 0, .slice none 0 0] 34) = w0 at *
    go_upto_region 4 with fail
    go_upto_region 8 with (first
      | (go_at_call 41; refine (HHD.out _ (by repeat (first | assumption | exact Nw.refl _ | refine Nw.alloc ?_ _ | refine Nw.drew ?_ | refine Nw.drewN2 ?_ _ | (refine Nw.trans ?_ (by assumption))))).mono ?_; rintro e w1 ⟨v1, rfl, hs1, hn1⟩; obtain ⟨q1, c1, rfl, _⟩ := strs_open hs1; dsimp only at hs1 ⊢)
      | fail)
    have y5 := heap_new w1 (.cells #[.slice q1 l.length c1, .slice none 0 0] 34)
    have hnL : Nw w0 (w1.alloc (.cells #[.slice q1 l.length c1, .slice none 0 0] 34)) := hn1.alloc _
    have s1 := hs1.nw ((Nw.refl w1).alloc (.cells #[.slice q1 l.length c1, .slice none 0 0] 34))
    have hg5 := lt_alloc w1 (.cells #[.slice q1 l.length c1, .slice none 0 0] 34)
    have hg50 := hn1.size
    clear hs1 hn1
    generalize w1.alloc (.cells #[.slice q1 l.length c1, .slice none 0 0] 34) = wL at *
    generalize w1.heap.size = g5 at *
    have hz2 : w.heap.size < wL.heap.size := by omega
    have HS1 := hid (fun wr {v es} (h : CpIn wL g5 (.slice q1 l.length c1) v es wr) => show Sl wr (.slice q1 l.length c1) (Lx.strs l) from Sl.mods s1 h.2.2 (fun h0 j hj e => by subst e; exact absurd rfl (Tr.Sl.apart (s1.nw (Nw.refl _)) y5 strs_not h0 _ hj)))
    go_wp2
    go_loopw [8, 11] (fun at_ lt wr => ∃ (i : Nat) (es : Es) (v : Value) (f : Nat), at_ = .int .i64 i ∧ lt = .int .u64 (lastT es) ∧ i ≤ b.length ∧ es.length ≤ i ∧ b.length ≤ i + f ∧ Hid (recs b l.length (b.length + 1) i1 [] = recs b l.length (f + 1) i es) ∧ CpIn wL g5 (.slice q1 l.length c1) v es wr) (fun at_ _ _ => b.length - (intOf at_).toNat)
    case atStart => exact ⟨i1, [], _, b.length, rfl, rfl, hib, Nat.zero_le _, by omega, hid rfl, y5, EvIn.nil _ _, Mods.refl _ _⟩
    case round =>
      clear s1 y5
      obtain ⟨i, es, v, f, rfl, rfl, hi, hel, hif, HQ, hst⟩ := hrel
      have hnr : Nw w0 wr := hnL.ofMods hst.2.2 (fun j e => by omega)
      have hnw := hn.trans hnr
      obtain ⟨qv, cv, rfl⟩ := hst.2.1.shape (n := es.length) rfl
      obtain ⟨tt, ll, nn, ee, hG⟩ : ∃ tt ll nn ee, get (b.drop i) l.length = ((tt, ll), nn, ee) := ⟨_, _, _, _, rfl⟩
      have HGT := hid (fun w' va (hva : Bytes w' va (b.drop i)) => show Calls Try.prog 100 #[va, .int .i64 (l.length : Int)] w' (HandsGO w' ((tt, ll), nn, ee)) by rw [← hG]; exact Rec.rget_o va (b.drop i) l.length w' hva (by rw [List.length_drop]; omega) (by omega) (by omega))
      have hBi : ∀ w', Nw wr w' → Bytes w' (.slice (some ⟨pb, po + i, none⟩) (b.length - i) (cap - i)) (b.drop i) := fun w' h => by
        have := bytes_sub (HC.out.nw (hnw.trans h)) hcap hmx' i (b.length - i) (by omega)
        rwa [List.take_of_length_le (by rw [List.length_drop]; exact Nat.le_refl _)] at this
      have HB := hid hBi
      have hck : (b.length : Int) - i = ((b.length - i : Nat) : Int) := by omega
      clear hBi
      have hci : ¬ cap = i := by omega
      have HB0 := HB
      clear HB
      go_upto_region 10 with (first
        | (go_at_call 100; refine (HGT.out _ _ (HB0.out _ (by repeat (first | assumption | exact Nw.refl _ | refine Nw.alloc ?_ _ | refine Nw.drew ?_ | refine Nw.drewN2 ?_ _ | (refine Nw.trans ?_ (by assumption)))))).mono ?_; rintro e w4 ⟨v4, rfl, ho4, hn4⟩; obtain ⟨p4, c4, rfl⟩ := ints_shape ho4; dsimp only at ho4 ⊢)
        | fail)
      clear hci
      have hnz : Nw wr (w4.alloc (.cells #[.int .u64 tt, .slice p4 ll.length c4] 38)) := hn4.alloc _
      obtain ⟨z0, z1⟩ := box2 w4 (.int .u64 tt) (.slice p4 ll.length c4) 38
      have hoz := ho4.nw ((Nw.refl w4).alloc (.cells #[.int .u64 tt, .slice p4 ll.length c4] 38))
      have hzr := hn4.size
      have hLr := hst.2.2.size
      clear ho4 hn4
      generalize w4.alloc (.cells #[.int .u64 tt, .slice p4 ll.length c4] 38) = wz at *
      generalize w4.heap.size = zE at *
      have hstz := hst.nw hnz
      have y2z := (hnr.trans hnz).heap y2
      have e0 := heap_cell hstz.1 0
      have e1 := heap_cell hstz.1 1
      simp only [List.getElem?_toArray, List.getElem?_cons_succ, List.getElem?_cons_zero] at e0 e1
      by_cases hee : ee = 0
      · subst hee
        obtain ⟨m, rfl, hm14, hmle, ht0, ht1, hr64⟩ := get_ok _ _ _ _ _ hG
        rw [List.length_drop] at hmle
        by_cases htt : tt < lastT es
        · have hd3 : decide (tt < lastT es) = true := decide_eq_true htt
          have hy := lastT_yes ht0 htt
          have HF := hid ((HD.out _ _ (HQ.out.trans (recs_fall hG hy.1 hy.2))).trans (by rw [if_neg (by decide)]))
          clear HQ htt hm14 hmle ht0 ht1 hr64 hy
          generalize lastT es = tj at *
          have hwE : w.heap.size ≤ wL.heap.size := by omega
          have hstR := hstz
          have y2R := y2z
          have d0 := heap_cell y2R 0
          have d1 := heap_cell y2R 1
          simp only [List.getElem?_toArray, List.getElem?_cons_succ, List.getElem?_cons_zero] at d0 d1
          have f0 := heap_frozen y2R 0
          have f1 := heap_frozen y2R 1
          go_wp2
          ((try simp only [Exit.inBlock, Exit.then]); refine bodyPost_ret (results_cell2 rfl _ _ _ _ _ _ _ rfl (heap_set (heap_set y2R 0 (.slice q1 l.length c1)) 1 (.slice qv es.length cv)) Try.underlying34 rfl (by kernel_rfl)) rfl ?_)
          rw [HF.out]
          have s1R := HS1.out _ hstR
          exact ⟨_, rfl, ⟨_, _, rfl, Tr.Sl.set2 (a := .slice q1 l.length c1) (b := .slice none 0 0) (Tr.Sl.set2 s1R y2R strs_not) (heap_set y2R 0 _) strs_not, (EvIn.set (a := .slice q1 l.length c1) (b := .slice none 0 0) (EvIn.set hstR.2.1 hz2 y2R (fun _ => nofun) (fun _ => nofun)) hz2 (heap_set y2R 0 _) (fun _ => nofun) (fun _ => nofun)).mono hwE⟩, (((hn.trans (hnr.trans hnz)).setCell (p := ⟨w.heap.size, 0, none⟩) (Nat.le_refl _) _).setCell (p := ⟨w.heap.size, 1, none⟩) (Nat.le_refl _) _)⟩
        · have hd3 : decide (tt < lastT es) = false := decide_eq_false htt
          have HG := hid (recs_go (f := f) (es := es) (p := l.length) hG (lastT_no ht0 htt))
          clear htt hG ht0 ht1 hr64
          generalize lastT es = tj at *
          obtain ⟨vs, hvl, hrow, hall⟩ := hst.2.1
          have hRz : Nw wr (wz.alloc (.cells #[.int .u64 tt, .slice p4 ll.length c4] 38)) := hnz.alloc _
          have hoR := hoz.nw ((Nw.refl wz).alloc (.cells #[.int .u64 tt, .slice p4 ll.length c4] 38))
          have hB : wL.heap.size ≤ (wz.alloc (.cells #[.int .u64 tt, .slice p4 ll.length c4] 38)).heap.size := Nat.le_trans hst.2.2.size hRz.size
          have hel2 : es.length + 1 ≤ i + m := by omega
          have hib2 : i + m ≤ b.length := by omega
          obtain ⟨f', rfl⟩ : ∃ f', f = f' + 1 := ⟨f - 1, by omega⟩
          have hif2 : b.length ≤ i + m + f' := by omega
          have hel3 : es.length ≤ 1000000000 := by omega
          have hm1 : 1 ≤ m := by omega
          have g1 := World.block_lt_of_cell? wz _ z0
          have hzE : zE < (wz.alloc (.cells #[.int .u64 tt, .slice p4 ll.length c4] 38)).heap.size := Nat.lt_of_lt_of_le g1 (Nat.le_of_lt (lt_alloc wz _))
          have z0a := ((Nw.refl wz).alloc (.cells #[.int .u64 tt, .slice p4 ll.length c4] 38)).cell z0
          simp only at g1
          clear hm14 hmle hel hif
          go_wp2_with (first
            | (at_builtin; refine appat rfl _ _ _ rfl _ _ _ _ Try.underlying32 info_event rfl (by decide) (by decide) hB (hRz.ownsRow hrow) rfl rfl (show [Value.int .u64 tt, Value.slice p4 ll.length c4].length = 2 from rfl) (Tr.cells_newAt wz [_, _] _ _ _ rfl) (by simp [Value.oneCell']) ?_ ?_; rotate_left; (omega); intro v2 w2 hown2 hg2 hat2; obtain ⟨⟨q9, c9, rfl⟩, y9, hst2⟩ := CpIn.step hst hRz hg5 rfl hvl hrow hall hoR hown2 hg2 hat2; have z09 := ev_cell hg2 hrow hzr hzE z0a; have y91 := heap_cell y9 1; have y9f := heap_frozen y9 1; simp only [List.getElem?_toArray, List.getElem?_cons_succ, List.getElem?_cons_zero] at y91)
            | fail)
          go_roundw
          case rel => exact ⟨i + m, es ++ [(tt, ll)], _, f', by go_num, by rw [lastT_snoc], hib2, by rw [List.length_append, List.length_singleton]; exact hel2, hif2, hid (HQ.out.trans HG.out), hst2⟩
          case measure => (simp [intOf] <;> omega)
      · by_cases h13 : ee = 13 ∨ ee = 7
        · have HF := hid ((HD.out _ _ (HQ.out.trans (recs_stop hG hee))).trans (by rw [if_pos h13]))
          clear HQ
          generalize lastT es = tj at *
          rcases h13 with rfl | rfl
          · skip
            have hwE : w.heap.size ≤ wL.heap.size := by omega
            have hstR := hstz
            have y2R := y2z
            have d0 := heap_cell y2R 0
            have d1 := heap_cell y2R 1
            simp only [List.getElem?_toArray, List.getElem?_cons_succ, List.getElem?_cons_zero] at d0 d1
            have f0 := heap_frozen y2R 0
            have f1 := heap_frozen y2R 1
            go_wp2
            ((try simp only [Exit.inBlock, Exit.then]); refine bodyPost_ret (results_cell2 rfl _ _ _ _ _ _ _ rfl (heap_set (heap_set y2R 0 (.slice q1 l.length c1)) 1 (.slice qv es.length cv)) Try.underlying34 rfl (by kernel_rfl)) rfl ?_)
            rw [HF.out]
            have s1R := HS1.out _ hstR
            exact ⟨_, rfl, ⟨_, _, rfl, Tr.Sl.set2 (a := .slice q1 l.length c1) (b := .slice none 0 0) (Tr.Sl.set2 s1R y2R strs_not) (heap_set y2R 0 _) strs_not, (EvIn.set (a := .slice q1 l.length c1) (b := .slice none 0 0) (EvIn.set hstR.2.1 hz2 y2R (fun _ => nofun) (fun _ => nofun)) hz2 (heap_set y2R 0 _) (fun _ => nofun) (fun _ => nofun)).mono hwE⟩, (((hn.trans (hnr.trans hnz)).setCell (p := ⟨w.heap.size, 0, none⟩) (Nat.le_refl _) _).setCell (p := ⟨w.heap.size, 1, none⟩) (Nat.le_refl _) _)⟩
          · skip
            have hwE : w.heap.size ≤ wL.heap.size := by omega
            have hstR := hstz
            have y2R := y2z
            have d0 := heap_cell y2R 0
            have d1 := heap_cell y2R 1
            simp only [List.getElem?_toArray, List.getElem?_cons_succ, List.getElem?_cons_zero] at d0 d1
            have f0 := heap_frozen y2R 0
            have f1 := heap_frozen y2R 1
            go_wp2
            ((try simp only [Exit.inBlock, Exit.then]); refine bodyPost_ret (results_cell2 rfl _ _ _ _ _ _ _ rfl (heap_set (heap_set y2R 0 (.slice q1 l.length c1)) 1 (.slice qv es.length cv)) Try.underlying34 rfl (by kernel_rfl)) rfl ?_)
            rw [HF.out]
            have s1R := HS1.out _ hstR
            exact ⟨_, rfl, ⟨_, _, rfl, Tr.Sl.set2 (a := .slice q1 l.length c1) (b := .slice none 0 0) (Tr.Sl.set2 s1R y2R strs_not) (heap_set y2R 0 _) strs_not, (EvIn.set (a := .slice q1 l.length c1) (b := .slice none 0 0) (EvIn.set hstR.2.1 hz2 y2R (fun _ => nofun) (fun _ => nofun)) hz2 (heap_set y2R 0 _) (fun _ => nofun) (fun _ => nofun)).mono hwE⟩, (((hn.trans (hnr.trans hnz)).setCell (p := ⟨w.heap.size, 0, none⟩) (Nat.le_refl _) _).setCell (p := ⟨w.heap.size, 1, none⟩) (Nat.le_refl _) _)⟩
        · have hde : (ee == 0) = false := beq_eq_false_iff_ne.2 hee
          have hde2 : (ee != 0) = true := by simpa using hee
          have hd13 : (ee == 13) = false := beq_eq_false_iff_ne.2 (fun q => h13 (Or.inl q))
          have hd7 : (ee == 7) = false := beq_eq_false_iff_ne.2 (fun q => h13 (Or.inr q))
          have HF := hid ((HD.out _ _ (HQ.out.trans (recs_stop hG hee))).trans (by rw [if_neg h13]))
          clear HQ h13 hee
          generalize lastT es = tj at *
          have hwE : w.heap.size ≤ wL.heap.size := by omega
          have hstR := hstz
          have y2R := y2z
          have d0 := heap_cell y2R 0
          have d1 := heap_cell y2R 1
          simp only [List.getElem?_toArray, List.getElem?_cons_succ, List.getElem?_cons_zero] at d0 d1
          have f0 := heap_frozen y2R 0
          have f1 := heap_frozen y2R 1
          go_wp2
          ((try simp only [Exit.inBlock, Exit.then]); refine bodyPost_ret (results_cell2 rfl _ _ _ _ _ _ _ rfl (heap_set (heap_set y2R 0 (.slice q1 l.length c1)) 1 (.slice qv es.length cv)) Try.underlying34 rfl (by kernel_rfl)) rfl ?_)
          rw [HF.out]
          have s1R := HS1.out _ hstR
          exact ⟨_, rfl, ⟨_, _, rfl, Tr.Sl.set2 (a := .slice q1 l.length c1) (b := .slice none 0 0) (Tr.Sl.set2 s1R y2R strs_not) (heap_set y2R 0 _) strs_not, (EvIn.set (a := .slice q1 l.length c1) (b := .slice none 0 0) (EvIn.set hstR.2.1 hz2 y2R (fun _ => nofun) (fun _ => nofun)) hz2 (heap_set y2R 0 _) (fun _ => nofun) (fun _ => nofun)).mono hwE⟩, (((hn.trans (hnr.trans hnz)).setCell (p := ⟨w.heap.size, 0, none⟩) (Nat.le_refl _) _).setCell (p := ⟨w.heap.size, 1, none⟩) (Nat.le_refl _) _)⟩
  · have HF := hid (recsC_no hH he)
    have hde : (e0 != 0) = true := by simpa using he
    have hp0' := hp0
    clear hH hp0
    go_enter Try.func90, Try.ntmps90
    go_upto_region 1 with fail
    have y2 := heap_new w (.cells #[.slice none 0 0, .slice none 0 0] 34)
    have hn := (Nw.refl w).alloc (.cells #[.slice none 0 0, .slice none 0 0] 34)
    have hz0 := lt_alloc w (.cells #[.slice none 0 0, .slice none 0 0] 34)
    generalize w.alloc (.cells #[.slice none 0 0, .slice none 0 0] 34) = w0 at *
    by_cases hpn : p = none
    · subst hpn
      obtain rfl : cap = 0 := hp0' rfl
      omega
    · obtain ⟨⟨pb, po, pi⟩, rfl⟩ := Option.ne_none_iff_exists'.1 hpn
      go_upto_region 4 with fail
      clear hc
      go_wp2_with (first
        | (go_at_call 41; refine (HHD.out _ (by repeat (first | assumption | exact Nw.refl _ | refine Nw.alloc ?_ _ | refine Nw.drew ?_ | refine Nw.drewN2 ?_ _ | (refine Nw.trans ?_ (by assumption))))).mono ?_; rintro e w1 ⟨v1, rfl, hs1, hn1⟩; have y2 := hn1.heap y2; have d0 := heap_cell y2 0; have d1 := heap_cell y2 1; simp only [List.getElem?_toArray, List.getElem?_cons_succ, List.getElem?_cons_zero] at d0 d1; have f0 := heap_frozen y2 0; have f1 := heap_frozen y2 1; dsimp only at hs1 ⊢)
        | fail)
      ((try simp only [Exit.inBlock, Exit.then]); refine bodyPost_ret (results_cell2 rfl _ _ _ _ _ _ _ rfl (heap_set (heap_set y2 0 (.slice none 0 0)) 1 (.slice none 0 0)) Try.underlying34 rfl (by kernel_rfl)) rfl ?_)
      rw [HF.out]
      exact ⟨_, rfl, ⟨_, _, rfl, Sl.nil _, EvIn.nil _ _⟩, ((hn.trans hn1).setCell (p := ⟨w.heap.size, 0, none⟩) (Nat.le_refl _) _).setCell (p := ⟨w.heap.size, 1, none⟩) (Nat.le_refl _) _⟩
end Lg
end Go.Proofs.Ytdihoedehmfgfaa
namespace Go.Proofs.Ytdihoedehmfgfaa
open Go.ChangeShapes Go.WideShapes Go.ChangeAt Go.RowKit
namespace Hp
open Go.Proofs.Ytdihoedehmfgfaa.Rec (none_ get i64s_open)
open Go.Proofs.Ytdihoedehmfgfaa.Sc (recP miss miss_ne)
open Go.Proofs.Ytdihoedehmfgfaa.Src (rt)
open Go.Proofs.Ytdihoedehmfgfaa.Tr (T Es tm ids lt_alloc)
open Go.Proofs.Ytdihoedehmfgfaa.Lg (recs recsP headR headE rgo recordsP recordsC HandsTI HandsHd EvIn rhead_c rheadf_c rrecords_i rrecords_cuti recsC_no recsC_yes recs_yes headR_ok headC_ok names_le)
theorem rgo_codes (b : List UInt8) (m : Int) : ∀ (k i : Nat) (acc : List ByteArray), (rgo b m k i acc).2 = 0 ∨ (rgo b m k i acc).2 = 5 ∨ (rgo b m k i acc).2 = m
  | 0, i, acc => Or.inl rfl
  | k + 1, i, acc => by
    unfold rgo
    repeat' split
    all_goals first | exact Or.inl rfl | exact Or.inr (Or.inl rfl) | exact Or.inr (Or.inr rfl) | exact rgo_codes b m k _ _
theorem head_codes (b : List UInt8) (m : Int) : (headR b m).2.2 = 0 ∨ (headR b m).2.2 = 5 ∨ (headR b m).2.2 = m := by
  have h := rgo_codes b m (Lg.sz b 4) 5 []
  unfold headR headE
  split
  · exact Or.inr (Or.inr rfl)
  · split
    · exact Or.inr (Or.inl rfl)
    · generalize rgo b m (Lg.sz b 4) 5 [] = x at *
      obtain ⟨⟨l, i⟩, e⟩ := x
      dsimp only at h ⊢
      split
      · exact h
      · split
        · exact Or.inr (Or.inr rfl)
        · split
          · exact Or.inl rfl
          · exact Or.inr (Or.inl rfl)
theorem recs_err5 (b : List UInt8) (p : Int) : ∀ (f i : Nat) (es : Es), (recs b p f i es).2 ≠ 5
  | 0, i, es => by
    unfold recs
    exact (by decide : (0 : Int) ≠ 5)
  | f + 1, i, es => by
    unfold recs
    obtain ⟨⟨x, n, e⟩, hx⟩ : ∃ y, get (b.drop i) p = y := ⟨_, rfl⟩
    rw [hx]
    dsimp only
    have hg := get_errs hx
    split
    · dsimp only; omega
    · split
      · exact (by decide : (8 : Int) ≠ 5)
      · exact recs_err5 b p f _ _
/-- What is read of a log's bytes up to where they can be read. -/
def recd (b : List UInt8) (r : Nat) : T × Int := if r < b.length then recordsC (b.take r) else recordsP b 5
theorem take_all {b : List UInt8} {r : Nat} (hr : r ≤ b.length) (h : ¬ r < b.length) : b.take r = b := List.take_of_length_le (by omega)
theorem recd_no {b : List UInt8} {r : Nat} {l : List ByteArray} {k e : Int} (hr : r ≤ b.length) (h : headR (b.take r) (miss b r) = (l, k, e)) (he : e ≠ 0) : recd b r = (⟨[], []⟩, e) ∧ (e = 5 ∨ e = 10) := by
  have hc := head_codes (b.take r) (miss b r)
  rw [h] at hc
  dsimp only at hc
  unfold recd
  by_cases hlt : r < b.length
  · have hm : miss b r = 10 := if_pos hlt
    rw [hm] at h hc
    rw [if_pos hlt]
    exact ⟨recsC_no h he, by omega⟩
  · have hm : miss b r = 5 := if_neg hlt
    rw [hm, take_all hr hlt] at h
    rw [hm] at hc
    rw [if_neg hlt]
    refine ⟨?_, by omega⟩
    unfold recordsP
    rw [h]
    exact if_pos he
/-- A log whose header is right: its events, where its records stand, the error behind them. -/
theorem recd_yes {b : List UInt8} {r : Nat} {l : List ByteArray} {k : Int} (hr : r ≤ b.length) (h : headR (b.take r) (miss b r) = (l, k, 0)) :
    ∃ (i : Nat) (es : Es) (pl : Nat → Nat) (E : Int), k = i ∧ i ≤ r ∧ recd b r = ((⟨l, es⟩ : T), E) ∧ E ≠ 5 ∧ pl 0 = i ∧ LogD b r l.length es pl E ∧ Few es ∧ l.length ≤ 64 := by
  have hlen : (b.take r).length = r := by rw [List.length_take]; omega
  have key : ∃ i : Nat, k = i ∧ i ≤ r ∧ l.length ≤ 64 ∧ ∀ es f, recs (b.take r) l.length (r + 1) i [] = (es, f) → recd b r = ((⟨l, es⟩ : T), errC b r f) := by
    by_cases hlt : r < b.length
    · have hm : miss b r = 10 := if_pos hlt
      rw [hm] at h
      obtain ⟨i, rfl, h9, hi, hn⟩ := headC_ok _ _ _ h
      rw [hlen] at hi
      refine ⟨i, rfl, hi, names_le hn, fun es f hf => ?_⟩
      unfold recd errC
      rw [if_pos hlt, recsC_yes (es := es) (f := f) h (by rw [hlen]; exact hf)]
      simp only [hlt, true_and]
    · have hm : miss b r = 5 := if_neg hlt
      rw [hm] at h
      obtain ⟨i, rfl, h9, hi, hn⟩ := headR_ok _ _ _ h
      rw [hlen] at hi
      refine ⟨i, rfl, hi, names_le hn, fun es f hf => ?_⟩
      have hb := take_all hr hlt
      rw [hb] at h hf hlen
      unfold recd errC
      rw [if_neg hlt, recs_yes (es := es) (f := f) h (by rw [hlen]; exact hf), if_neg (fun q => hlt q.1)]
  obtain ⟨i, rfl, hi, hl, hk⟩ := key
  obtain ⟨⟨es, f⟩, hf⟩ : ∃ x, recs (b.take r) l.length (r + 1) i [] = x := ⟨_, rfl⟩
  obtain ⟨q, hq0, hq⟩ := any_log (p := (l.length : Int)) (by omega) (by omega) hr hf hi
  have h5 := recs_err5 (b.take r) l.length (r + 1) i []
  rw [hf] at h5
  dsimp only at h5
  refine ⟨i, es, q, errC b r f, rfl, hi, hk es f hf, ?_, hq0, hq, ?_, hl⟩
  · unfold errC
    split
    · decide
    · exact h5
  · have hok : ∀ j, j ≤ es.length → HOk b.length (stA es q j) := by
      intro j
      induction j with
      | zero =>
        intro _
        refine ⟨Int.le_refl _, ?_, ?_, Int.le_refl _, (by decide : (0 : Int) ≤ 18446744073709551615), Nat.zero_le _⟩
        · show (0 : Int) ≤ (q 0 : Int); omega
        · show (q 0 : Int) ≤ (b.length : Int); omega
      | succ j ih =>
        intro hj
        have := nxt_ok (b := b) (r := r) (p := l.length) (by omega) (by omega) (ih (by omega))
        rw [hq.step j (by omega)] at this
        exact this
    intro j hj
    have := (hok (j + 1) (by omega)).ids
    rwa [stA_succ] at this
end Hp
end Go.Proofs.Ytdihoedehmfgfaa
namespace Go.Proofs.Ytdihoedehmfgfaa
open Go.ChangeShapes Go.WideShapes Go.ChangeAt Go.RowKit
namespace Hp
open Go.Proofs.Ytdihoedehmfgfaa.Rec (none_ get i64s_open)
open Go.Proofs.Ytdihoedehmfgfaa.Sc (recP miss miss_ne)
open Go.Proofs.Ytdihoedehmfgfaa.Src (rt rt_le)
open Go.Proofs.Ytdihoedehmfgfaa.Tr (T Es tm ids lt_alloc)
open Go.Proofs.Ytdihoedehmfgfaa.Lg (recs recsP headR recordsP recordsC HandsTI HandsHd EvIn rhead_c rheadf_c rrecords_i rrecords_cuti)
theorem rt_cut {b : List UInt8} {q : Int} (h : 0 ≤ q ∧ q < b.length) : rt b.length q = q.toNat := by unfold rt; rw [if_pos h]
theorem rt_all {b : List UInt8} {q : Int} (h : ¬ (0 ≤ q ∧ q < b.length)) : rt b.length q = b.length := by unfold rt; rw [if_neg h]
theorem records_any (v : Value) (b : List UInt8) (q : Int) (w : World) (hb : Bytes w v b) (hl : b.length ≤ 1000000000) (hq1 : -9223372036854775808 ≤ q) (hq2 : q ≤ 9223372036854775807) :
    Calls Try.prog 90 #[v, .int .i64 q] w (HandsTI w (recd b (rt b.length q))) := by
  by_cases h : 0 ≤ q ∧ q < b.length
  · rw [rt_cut h]
    obtain ⟨n, rfl⟩ : ∃ n : Nat, q = n := ⟨q.toNat, by omega⟩
    rw [Int.toNat_natCast]
    have hn : n < b.length := by omega
    obtain ⟨p, cap, rfl, hcap, hmx, hp0, hc⟩ := hb.open
    have hlt : (b.take n).length = n := by rw [List.length_take]; omega
    have := rrecords_cuti p b.length cap (b.take n) w (by omega) hcap hmx hp0 (fun i hi => by
      have hi2 : i < n := by rw [u8s_length, hlt] at hi; exact hi
      obtain ⟨b1, o1, e, hc1⟩ := hc i (by rw [u8s_length]; omega)
      exact ⟨b1, o1, e, by rw [hc1]; simp [u8s]⟩) (by omega)
    rw [hlt] at this
    unfold recd
    rw [if_pos hn]
    exact this
  · rw [rt_all h]
    unfold recd
    rw [if_neg (Nat.lt_irrefl _)]
    exact rrecords_i v b q w hb hl hq1 hq2 h
theorem ne_dec {e : Int} : (e != 0) = decide (e ≠ 0) := by
  by_cases h : e = 0
  · subst h; rfl
  · rw [decide_eq_true h, bne_iff_ne.2 h]
set_option maxRecDepth 20000 in
theorem headless_c (v : Value) (b : List UInt8) (q : Int) (w : World) (hb : Bytes w v b) (hl : b.length ≤ 1000000000) (hq1 : -9223372036854775808 ≤ q) (hq2 : q ≤ 9223372036854775807) {x : Bool} (hx : decide ((headR (b.take (rt b.length q)) (miss b (rt b.length q))).2.2 ≠ 0) = x) :
    Calls Try.prog 91 #[v, .int .i64 q] w (Gives (.bool x) w) := by
  obtain ⟨p, cap, rfl, hcap, hmx, hp0, hc⟩ := hb.open
  have hmx' := hmx
  unfold maxLen at hmx
  by_cases h : 0 ≤ q ∧ q < b.length
  · rw [rt_cut h] at hx
    obtain ⟨n, rfl⟩ : ∃ n : Nat, q = n := ⟨q.toNat, by omega⟩
    rw [Int.toNat_natCast] at hx
    have hn : n < b.length := by omega
    have hm : miss b n = 10 := if_pos hn
    rw [hm] at hx
    have hlt : (b.take n).length = n := by rw [List.length_take]; omega
    have HB := hid (show Bytes w (.slice p n cap) (b.take n) from Bytes.mk (fun i hi => by
      have hi2 : i < n := by rw [u8s_length, hlt] at hi; exact hi
      obtain ⟨b1, o1, e, hc1⟩ := hc i (by rw [u8s_length]; omega)
      exact ⟨b1, o1, e, by rw [hc1]; simp [u8s]⟩) hlt.symm (by omega) hmx' hp0)
    have HR := hid (fun w' (hn : Nw w w') => rheadf_c _ (b.take n) w' (HB.out.nw hn) (by omega))
    unfold HandsHd at HR
    obtain ⟨⟨l, k, e⟩, hh⟩ : ∃ y, headR (b.take n) 10 = y := ⟨_, rfl⟩
    rw [hh] at HR hx
    dsimp only at HR hx
    rw [← ne_dec] at hx
    have d0 : decide ((0 : Int) ≤ (n : Int)) = true := decide_eq_true (by omega)
    have d1 : decide ((n : Int) < (b.length : Int)) = true := decide_eq_true (by omega)
    have d2 : decide (n < b.length) = true := decide_eq_true hn
    have hnc : n ≤ cap := by omega
    have hni : (0 : Int) ≤ (n : Int) := by omega
    clear hb hc hh hlt h
    generalize b.length = L at *
    go_enter Try.func91, Try.ntmps91
    go_wp2_with (first
      | (go_at_call 41; refine (HR.out _ (by repeat (first | assumption | exact Nw.refl _ | refine Nw.alloc ?_ _ | refine Nw.drew ?_ | refine Nw.drewN2 ?_ _ | (refine Nw.trans ?_ (by assumption))))).mono ?_; rintro e w1 ⟨v1, rfl, _, hn1⟩)
      | fail)
    go_ret
    exact ⟨rfl, (by repeat (first | assumption | exact Nw.refl _ | refine Nw.alloc ?_ _ | refine Nw.drew ?_ | refine Nw.drewN2 ?_ _ | (refine Nw.trans ?_ (by assumption))))⟩
  · rw [rt_all h] at hx
    have hm : miss b b.length = 5 := if_neg (Nat.lt_irrefl _)
    rw [hm, List.take_length] at hx
    have HR := hid (fun w' (hn : Nw w w') => rhead_c (.slice p b.length cap) b w' (hb.nw hn) (by omega))
    unfold HandsHd at HR
    obtain ⟨⟨l, k, e⟩, hh⟩ : ∃ y, headR b 5 = y := ⟨_, rfl⟩
    rw [hh] at HR hx
    dsimp only at HR hx
    rw [← ne_dec] at hx
    clear hb hc hh
    generalize b.length = L at *
    by_cases h0 : 0 ≤ q
    · have d0 : decide ((0 : Int) ≤ q) = true := decide_eq_true h0
      have d1 : decide (q < (L : Int)) = false := decide_eq_false (fun z => h ⟨h0, z⟩)
      clear h h0
      go_enter Try.func91, Try.ntmps91
      go_wp2_with (first
        | (go_at_call 41; refine (HR.out _ (by repeat (first | assumption | exact Nw.refl _ | refine Nw.alloc ?_ _ | refine Nw.drew ?_ | refine Nw.drewN2 ?_ _ | (refine Nw.trans ?_ (by assumption))))).mono ?_; rintro e w1 ⟨v1, rfl, _, hn1⟩)
        | fail)
      go_ret
      exact ⟨rfl, (by repeat (first | assumption | exact Nw.refl _ | refine Nw.alloc ?_ _ | refine Nw.drew ?_ | refine Nw.drewN2 ?_ _ | (refine Nw.trans ?_ (by assumption))))⟩
    · have d0 : decide ((0 : Int) ≤ q) = false := decide_eq_false h0
      clear h h0
      go_enter Try.func91, Try.ntmps91
      go_wp2_with (first
        | (go_at_call 41; refine (HR.out _ (by repeat (first | assumption | exact Nw.refl _ | refine Nw.alloc ?_ _ | refine Nw.drew ?_ | refine Nw.drewN2 ?_ _ | (refine Nw.trans ?_ (by assumption))))).mono ?_; rintro e w1 ⟨v1, rfl, _, hn1⟩)
        | fail)
      go_ret
      exact ⟨rfl, (by repeat (first | assumption | exact Nw.refl _ | refine Nw.alloc ?_ _ | refine Nw.drew ?_ | refine Nw.drewN2 ?_ _ | (refine Nw.trans ?_ (by assumption))))⟩
/-- What NewPool hands back. -/
def RMade (w : World) (l : List ByteArray) (es : Es) (E size : Int) (e : Ending) (w' : World) : Prop :=
  ∃ q : RCf, e = .returned (.tuple #[.pointer (some ⟨q.b, 0, none⟩), .int .i64 0]) ∧ RI q w' [] (.slice none 0 0) (.slice none 0 0) [] 0 ∧ q.es = es ∧ q.E = E ∧ q.size = size ∧ w.heap.size ≤ q.B ∧ q.B ≤ q.w1.heap.size ∧ Sl w' q.vn (Lx.strs l) ∧ Nw w w'
theorem rmade {w w1 w2 : World} {l : List ByteArray} {es : Es} {E size : Int} {vn ve : Value} {g : Nat} (hev : EvIn w1 w.heap.size ve es) (hnm : Sl w1 vn (Lx.strs l)) (h1 : Nw w w1) (h2 : Nw w1 w2) (hg : g = w2.heap.size) :
    RMade w l es E size (.returned (.tuple #[.pointer (some ⟨g, 0, none⟩), .int .i64 0])) (w2.alloc (.cells #[vn, ve, .int .i64 E, .int .i64 size, .slice none 0 0, .slice none 0 0, .int .i64 0] 121)) := by
  subst hg
  have h3 := h2.alloc (.cells #[vn, ve, .int .i64 E, .int .i64 size, .slice none 0 0, .slice none 0 0, .int .i64 0] 121)
  exact ⟨⟨w1, w.heap.size, w2.heap.size, vn, ve, es, E, size⟩, rfl, ⟨⟨hev, h3.mods _, heap_new _ _, h2.size, Own.nil _ _ _, Own.nil _ _ _⟩, rfl, fun i k h => by cases h⟩, rfl, rfl, rfl, Nat.le_refl _, h1.size, hnm.nw h3, h1.trans h3⟩
set_option maxRecDepth 20000 in
theorem newpool_small (v : Value) (q size : Int) (w : World) (h1 : size < 1) :
    Calls Try.prog 67 #[v, .int .i64 q, .int .i64 size] w fun e w' => e = .returned (.tuple #[.pointer none, .int .i64 1]) ∧ Nw w w' := by
  have hd1 : decide (size < 1) = true := decide_eq_true h1
  clear h1
  go_enter Try.func67, Try.ntmps67
  go_wp2
  go_ret2
  exact ⟨rfl, (by repeat (first | assumption | exact Nw.refl _ | refine Nw.alloc ?_ _ | refine Nw.drew ?_ | refine Nw.drewN2 ?_ _ | (refine Nw.trans ?_ (by assumption))))⟩
set_option maxRecDepth 20000 in
set_option maxHeartbeats 1600000 in
theorem newpool_no (v : Value) (b : List UInt8) (q size : Int) (w : World) (hb : Bytes w v b) (hl : b.length ≤ 1000000000) (hq1 : -9223372036854775808 ≤ q) (hq2 : q ≤ 9223372036854775807) (h1 : ¬ size < 1)
    {l : List ByteArray} {k er : Int} (hh : headR (b.take (rt b.length q)) (miss b (rt b.length q)) = (l, k, er)) (he : er ≠ 0) :
    Calls Try.prog 67 #[v, .int .i64 q, .int .i64 size] w fun e w' => e = .returned (.tuple #[.pointer none, .int .i64 er]) ∧ Nw w w' := by
  have hr := rt_le b.length q
  have HR := hid (fun w' (hn : Nw w w') => records_any v b q w' (hb.nw hn) hl hq1 hq2)
  have HHL := hid (fun w' (hn : Nw w w') x h => headless_c v b q w' (hb.nw hn) hl hq1 hq2 (x := x) h)
  obtain ⟨p, cap, rfl, hcap, hmx, hp0, hc⟩ := hb.open
  clear hb hc
  generalize rt b.length q = r at *
  obtain ⟨hrd, hc⟩ := recd_no hr hh he
  rw [hh] at HHL
  dsimp only at HHL
  have hd1 : decide (size < 1) = false := decide_eq_false h1
  have HH := hid (fun w' hn => HHL.out w' hn true (decide_eq_true he))
  unfold HandsTI at HR
  rw [hrd] at HR
  dsimp only at HR
  clear h1 hrd HHL hh he
  generalize b.length = L at *
  rcases hc with rfl | rfl
  · go_enter Try.func67, Try.ntmps67
    go_wp2_with (first
      | (go_at_call 90; refine (HR.out _ (by repeat (first | assumption | exact Nw.refl _ | refine Nw.alloc ?_ _ | refine Nw.drew ?_ | refine Nw.drewN2 ?_ _ | (refine Nw.trans ?_ (by assumption))))).mono ?_; rintro e w1 ⟨v1, rfl, ⟨vn, ve, rfl, hsn, hev⟩, hn1⟩; obtain ⟨pe, ce, rfl⟩ := hev.shape (n := 0) rfl; obtain ⟨pn, cn, rfl, _⟩ := hsn.open (n := 0) rfl)
      | fail)
    go_ret2
    exact ⟨rfl, (by repeat (first | assumption | exact Nw.refl _ | refine Nw.alloc ?_ _ | refine Nw.drew ?_ | refine Nw.drewN2 ?_ _ | (refine Nw.trans ?_ (by assumption))))⟩
  · go_enter Try.func67, Try.ntmps67
    go_wp2_with (first
      | (go_at_call 90; refine (HR.out _ (by repeat (first | assumption | exact Nw.refl _ | refine Nw.alloc ?_ _ | refine Nw.drew ?_ | refine Nw.drewN2 ?_ _ | (refine Nw.trans ?_ (by assumption))))).mono ?_; rintro e w1 ⟨v1, rfl, ⟨vn, ve, rfl, hsn, hev⟩, hn1⟩; obtain ⟨pe, ce, rfl⟩ := hev.shape (n := 0) rfl; obtain ⟨pn, cn, rfl, _⟩ := hsn.open (n := 0) rfl)
      | (go_at_call 91; refine (HH.out _ (by repeat (first | assumption | exact Nw.refl _ | refine Nw.alloc ?_ _ | refine Nw.drew ?_ | refine Nw.drewN2 ?_ _ | (refine Nw.trans ?_ (by assumption))))).mono ?_; rintro e w2 ⟨rfl, hn2⟩)
      | fail)
    go_ret2
    exact ⟨rfl, (by repeat (first | assumption | exact Nw.refl _ | refine Nw.alloc ?_ _ | refine Nw.drew ?_ | refine Nw.drewN2 ?_ _ | (refine Nw.trans ?_ (by assumption))))⟩
set_option maxRecDepth 20000 in
set_option maxHeartbeats 1600000 in
theorem newpool_yes (v : Value) (b : List UInt8) (q size : Int) (w : World) (hb : Bytes w v b) (hl : b.length ≤ 1000000000) (hq1 : -9223372036854775808 ≤ q) (hq2 : q ≤ 9223372036854775807) (h1 : ¬ size < 1)
    {l : List ByteArray} {k : Int} (hh : headR (b.take (rt b.length q)) (miss b (rt b.length q)) = (l, k, 0)) {ln : List ByteArray} {es : Es} {E : Int} (hrd : recd b (rt b.length q) = ((⟨ln, es⟩ : T), E)) (hE5 : E ≠ 5) :
    Calls Try.prog 67 #[v, .int .i64 q, .int .i64 size] w (RMade w ln es E size) := by
  have hr := rt_le b.length q
  have HR := hid (fun w' (hn : Nw w w') => records_any v b q w' (hb.nw hn) hl hq1 hq2)
  have HHL := hid (fun w' (hn : Nw w w') x h => headless_c v b q w' (hb.nw hn) hl hq1 hq2 (x := x) h)
  obtain ⟨p, cap, rfl, hcap, hmx, hp0, hc⟩ := hb.open
  clear hb hc
  generalize rt b.length q = r at *
  rw [hh] at HHL
  dsimp only at HHL
  have hd1 : decide (size < 1) = false := decide_eq_false h1
  have HH := hid (fun w' hn => HHL.out w' hn false rfl)
  unfold HandsTI at HR
  rw [hrd] at HR
  dsimp only at HR
  have d5 : (E == 5) = false := beq_eq_false_iff_ne.2 hE5
  clear h1 hrd HHL hh hE5
  generalize b.length = L at *
  by_cases h10 : E = 10
  · subst h10
    by_cases hes : es.length = 0
    · obtain rfl : es = [] := List.length_eq_zero_iff.1 hes
      clear hes
      go_enter Try.func67, Try.ntmps67
      go_wp2_with (first
        | (go_at_call 90; refine (HR.out _ (by repeat (first | assumption | exact Nw.refl _ | refine Nw.alloc ?_ _ | refine Nw.drew ?_ | refine Nw.drewN2 ?_ _ | (refine Nw.trans ?_ (by assumption))))).mono ?_; rintro e w1 ⟨v1, rfl, ⟨vn, ve, rfl, hsn, hev⟩, hn1⟩; have HEV := hid hev; have HSN := hid hsn; obtain ⟨pe, ce, rfl⟩ := hev.shape (n := 0) rfl; obtain ⟨pn, cn, rfl, _⟩ := hsn.open (n := ln.length) (by simp [Lx.strs]); clear hev hsn)
        | (go_at_call 91; refine (HH.out _ (by repeat (first | assumption | exact Nw.refl _ | refine Nw.alloc ?_ _ | refine Nw.drew ?_ | refine Nw.drewN2 ?_ _ | (refine Nw.trans ?_ (by assumption))))).mono ?_; rintro e w2 ⟨rfl, hn2⟩; have y2 := hn2.heap (heap_new w1 _); have d0 := heap_cell y2 0; have d1 := heap_cell y2 1; have g2 := lt_of_heap y2; simp only [List.getElem?_toArray, List.getElem?_cons_succ, List.getElem?_cons_zero] at d0 d1; clear y2)
        | fail)
      go_ret2
      exact rmade HEV.out HSN.out hn1 (by repeat (first | assumption | exact Nw.refl _ | refine Nw.alloc ?_ _ | refine Nw.drew ?_ | refine Nw.drewN2 ?_ _ | (refine Nw.trans ?_ (by assumption)))) (by first | rfl | simp)
    · have dz : ((es.length : Int) == 0) = false := beq_eq_false_iff_ne.2 (by omega)
      clear hes
      go_enter Try.func67, Try.ntmps67
      go_wp2_with (first
        | (go_at_call 90; refine (HR.out _ (by repeat (first | assumption | exact Nw.refl _ | refine Nw.alloc ?_ _ | refine Nw.drew ?_ | refine Nw.drewN2 ?_ _ | (refine Nw.trans ?_ (by assumption))))).mono ?_; rintro e w1 ⟨v1, rfl, ⟨vn, ve, rfl, hsn, hev⟩, hn1⟩; have HEV := hid hev; have HSN := hid hsn; obtain ⟨pe, ce, rfl⟩ := hev.shape (n := es.length) rfl; obtain ⟨pn, cn, rfl, _⟩ := hsn.open (n := ln.length) (by simp [Lx.strs]); clear hev hsn)
        | (go_at_call 91; refine (HH.out _ (by repeat (first | assumption | exact Nw.refl _ | refine Nw.alloc ?_ _ | refine Nw.drew ?_ | refine Nw.drewN2 ?_ _ | (refine Nw.trans ?_ (by assumption))))).mono ?_; rintro e w2 ⟨rfl, hn2⟩; have y2 := hn2.heap (heap_new w1 _); have d0 := heap_cell y2 0; have d1 := heap_cell y2 1; have g2 := lt_of_heap y2; simp only [List.getElem?_toArray, List.getElem?_cons_succ, List.getElem?_cons_zero] at d0 d1; clear y2)
        | fail)
      go_ret2
      exact rmade HEV.out HSN.out hn1 (by repeat (first | assumption | exact Nw.refl _ | refine Nw.alloc ?_ _ | refine Nw.drew ?_ | refine Nw.drewN2 ?_ _ | (refine Nw.trans ?_ (by assumption)))) (by first | rfl | simp)
  · have d10 : (E == 10) = false := beq_eq_false_iff_ne.2 h10
    clear h10
    go_enter Try.func67, Try.ntmps67
    go_wp2_with (first
      | (go_at_call 90; refine (HR.out _ (by repeat (first | assumption | exact Nw.refl _ | refine Nw.alloc ?_ _ | refine Nw.drew ?_ | refine Nw.drewN2 ?_ _ | (refine Nw.trans ?_ (by assumption))))).mono ?_; rintro e w1 ⟨v1, rfl, ⟨vn, ve, rfl, hsn, hev⟩, hn1⟩; have HEV := hid hev; have HSN := hid hsn; obtain ⟨pe, ce, rfl⟩ := hev.shape (n := es.length) rfl; obtain ⟨pn, cn, rfl, _⟩ := hsn.open (n := ln.length) (by simp [Lx.strs]); clear hev hsn)
      | (go_at_call 91; refine (HH.out _ (by repeat (first | assumption | exact Nw.refl _ | refine Nw.alloc ?_ _ | refine Nw.drew ?_ | refine Nw.drewN2 ?_ _ | (refine Nw.trans ?_ (by assumption))))).mono ?_; rintro e w2 ⟨rfl, hn2⟩; have y2 := hn2.heap (heap_new w1 _); have d0 := heap_cell y2 0; have d1 := heap_cell y2 1; have g2 := lt_of_heap y2; simp only [List.getElem?_toArray, List.getElem?_cons_succ, List.getElem?_cons_zero] at d0 d1; clear y2)
      | fail)
    go_ret2
    exact rmade HEV.out HSN.out hn1 (by repeat (first | assumption | exact Nw.refl _ | refine Nw.alloc ?_ _ | refine Nw.drew ?_ | refine Nw.drewN2 ?_ _ | (refine Nw.trans ?_ (by assumption)))) (by first | rfl | simp)
end Hp
end Go.Proofs.Ytdihoedehmfgfaa
