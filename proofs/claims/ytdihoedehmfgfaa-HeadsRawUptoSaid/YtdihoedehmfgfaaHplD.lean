/- The law's plays, walked: it returns true. No condition but lengths. -/
import Derived.Test.YtdihoedehmfgfaaJHp
import Derived.Deep.CutRange
set_option linter.unusedSimpArgs false
set_option linter.unusedVariables false
namespace Go.Proofs.Ytdihoedehmfgfaa
open Go.ChangeShapes Go.WideShapes Go.ChangeAt Go.RowKit
namespace Hp
open Go.Proofs.Ytdihoedehmfgfaa.Rec (none_ get i64s_open)
open Go.Proofs.Ytdihoedehmfgfaa.Sc (miss)
open Go.Proofs.Ytdihoedehmfgfaa.Src (rt rt_le)
open Go.Proofs.Ytdihoedehmfgfaa.Tr (T Es tm ids lt_alloc eqs_c)
open Go.Proofs.Ytdihoedehmfgfaa.Lg (headR EvIn)
set_option maxRecDepth 20000 in
set_option maxHeartbeats 1600000 in
theorem plays_small (vb vs va : Value) (b : List UInt8) (sc : List Int) (fault size : Int) (w : World) (hb : Bytes w vb b) (hs : Sl w vs (i64s sc)) (hlb : b.length ≤ 20000000) (hls : sc.length ≤ 1000000000) (hx : ∀ x ∈ sc, -9223372036854775808 ≤ x ∧ x ≤ 9223372036854775807) (h1 : size < 1) :
    Calls Try.prog 38 #[vb, vs, .int .i64 fault, .int .i64 size, va] w (Gives (.bool true) w) := by
  have HNE := hid (fun w' (hn : Nw w w') => (poolnew_c vb vs b sc fault size w' (hb.nw hn) (hs.nw hn) (by omega) hls hx).mono (fun e w1 h => show e = .returned (.tuple #[.pointer none, .int .i64 1]) ∧ Nw w' w1 by
    unfold NewO at h
    rw [if_pos h1] at h
    exact h))
  have HRP := hid (fun w' => newpool_small vb fault size w' h1)
  clear hb hs h1 hx
  go_enter Try.func38, Try.ntmps38
  go_wp2_with (first
    | (go_at_call 25; refine (HNE.out _ (by repeat (first | assumption | exact Nw.refl _ | refine Nw.alloc ?_ _ | refine Nw.drew ?_ | refine Nw.drewN2 ?_ _ | (refine Nw.trans ?_ (by assumption))))).mono ?_; rintro e w1 ⟨rfl, hn1⟩)
    | (go_at_call 67; refine (HRP.out _).mono ?_; rintro e w2 ⟨rfl, hn2⟩)
    | fail)
  go_ret
  exact ⟨rfl, (by repeat (first | assumption | exact Nw.refl _ | refine Nw.alloc ?_ _ | refine Nw.drew ?_ | refine Nw.drewN2 ?_ _ | (refine Nw.trans ?_ (by assumption))))⟩
set_option maxRecDepth 20000 in
set_option maxHeartbeats 1600000 in
theorem plays_no (vb vs va : Value) (b : List UInt8) (sc : List Int) (fault size : Int) (w : World) (hb : Bytes w vb b) (hs : Sl w vs (i64s sc)) (hlb : b.length ≤ 20000000) (hls : sc.length ≤ 1000000000) (hx : ∀ x ∈ sc, -9223372036854775808 ≤ x ∧ x ≤ 9223372036854775807) (h1 : ¬ size < 1)
    (hf1 : -9223372036854775808 ≤ fault) (hf2 : fault ≤ 9223372036854775807) {l : List ByteArray} {k er : Int} (hh : headR (b.take (rt b.length fault)) (miss b (rt b.length fault)) = (l, k, er)) (he : er ≠ 0) :
    Calls Try.prog 38 #[vb, vs, .int .i64 fault, .int .i64 size, va] w (Gives (.bool true) w) := by
  have HNE := hid (fun w' (hn : Nw w w') => (poolnew_c vb vs b sc fault size w' (hb.nw hn) (hs.nw hn) (by omega) hls hx).mono (fun e w1 h => show e = .returned (.tuple #[.pointer none, .int .i64 er]) ∧ Nw w' w1 by
    unfold NewO at h
    rw [if_neg h1, hh] at h
    dsimp only at h
    rw [if_pos he] at h
    exact h))
  have HRP := hid (fun w' (hn : Nw w w') => newpool_no vb b fault size w' (hb.nw hn) (by omega) hf1 hf2 h1 hh he)
  clear hb hs h1 hx hh he
  go_enter Try.func38, Try.ntmps38
  go_wp2_with (first
    | (go_at_call 25; refine (HNE.out _ (by repeat (first | assumption | exact Nw.refl _ | refine Nw.alloc ?_ _ | refine Nw.drew ?_ | refine Nw.drewN2 ?_ _ | (refine Nw.trans ?_ (by assumption))))).mono ?_; rintro e w1 ⟨rfl, hn1⟩)
    | (go_at_call 67; refine (HRP.out _ (by repeat (first | assumption | exact Nw.refl _ | refine Nw.alloc ?_ _ | refine Nw.drew ?_ | refine Nw.drewN2 ?_ _ | (refine Nw.trans ?_ (by assumption))))).mono ?_; rintro e w2 ⟨rfl, hn2⟩)
    | fail)
  go_ret
  exact ⟨rfl, (by repeat (first | assumption | exact Nw.refl _ | refine Nw.alloc ?_ _ | refine Nw.drew ?_ | refine Nw.drewN2 ?_ _ | (refine Nw.trans ?_ (by assumption))))⟩
/-- A row of strings of a known length. -/
def NmS (l : List ByteArray) : Says := fun w v => Sl w v (Lx.strs l)
theorem NmS.stab (l : List ByteArray) : Stab (NmS l) := fun _ _ _ h hn => Sl.nw h hn
/-- What stands ahead of a round's test. -/
def Rnd (w : World) (c : Cf) (q : RCf) (g : Nat) (x : Ha) (pl : Nat → Nat) (N L : Nat) (ks : List (Option Nat)) (pk : Int) (v88 : Value) (wx : World) : Prop :=
  v88 = .bool false ∧ DI w c q (fun k => k = g) pl N L ks pk wx ∧ wx.heap[g]? = some (.cells #[.int .u8 x.m, .int .i64 x.id, .int .i64 x.k] 72 (0, 0))
set_option maxRecDepth 20000 in
set_option maxHeartbeats 3200000 in
theorem plays_yes (vb vs va : Value) (b : List UInt8) (sc : List Int) (fault size : Int) (al : List Ha) (w : World) (hb : Bytes w vb b) (hs : Sl w vs (i64s sc)) (ha : Has w va al) (hlb : b.length ≤ 20000000) (hls : sc.length ≤ 1000000000) (hx : ∀ x ∈ sc, -9223372036854775808 ≤ x ∧ x ≤ 9223372036854775807) (h1 : ¬ size < 1)
    (hal : al.length ≤ 300) (hf1 : -9223372036854775808 ≤ fault) (hf2 : fault ≤ 9223372036854775807) {l : List ByteArray} {k : Int} (hh : headR (b.take (rt b.length fault)) (miss b (rt b.length fault)) = (l, k, 0)) :
    Calls Try.prog 38 #[vb, vs, .int .i64 fault, .int .i64 size, va] w (Gives (.bool true) w) := by
  have HNE := hid (fun w' (hn : Nw w w') => (poolnew_c vb vs b sc fault size w' (hb.nw hn) (hs.nw hn) (by omega) hls hx).mono (fun e w1 h => show Made w' b sc (rt b.length fault) l k size e w1 by
    unfold NewO at h
    rw [if_neg h1, hh] at h
    exact h))
  obtain ⟨i, es, pl, E, rfl, hi, hrd, hE5, hp0, hlog, hfew, hl64⟩ := recd_yes (rt_le b.length fault) hh
  have HRP := hid (fun w' (hn : Nw w w') => newpool_yes vb b fault size w' (hb.nw hn) (by omega) hf1 hf2 h1 hh hrd hE5)
  obtain ⟨pa, ka, rfl, hka, hkm, hk0, hac⟩ := ha
  obtain ⟨pb, kb, rfl, _, _, _, _⟩ := hb.open
  obtain ⟨ps, kps, rfl, _, _, _, _⟩ := hs.open (i64s_length sc)
  unfold maxLen at hkm
  have HAC := hid hac
  have HLOG := hid hlog
  have HFEW := hid hfew
  have HP0 := hid hp0
  obtain ⟨LB, hLB⟩ : ∃ LB, b.length = LB := ⟨_, rfl⟩
  have HLB := hid hLB
  rw [hLB] at hlb
  have hsz : 0 ≤ size := by omega
  clear hac hb hs hx h1 hh hrd hE5 hlog hfew hp0 hi hLB
  generalize rt b.length fault = r at *
  go_enter Try.func38, Try.ntmps38
  go_upto_region 7 with (first
    | (go_at_call 25; refine (HNE.out _ (Nw.refl _)).mono ?_; rintro e w1 hmk; obtain ⟨c, rfl, hst, cb, csc, cr, cnm, cf, cs⟩ := made_st hmk; have hw1 := hst.base)
    | (go_at_call 67; refine (HRP.out _ hw1).mono ?_; rintro e w2 ⟨q, rfl, hri, qes, qE, qsz, qB, qm, hnm, hn2⟩)
    | fail)
  obtain ⟨hdi, hlow⟩ := two_made (pl := pl) hst hri qB qm hn2 (by rw [qsz]; exact hsz)
  have hdx : DX c q pl := ⟨by rw [cb, cr, cnm, qes, qE]; exact HLOG.out, by rw [cf, HP0.out], by rw [cs, qsz], by rw [qes]; exact HFEW.out, by rw [cb, HLB.out]; omega, hlow, qm⟩
  have HDX := hid hdx
  have HCB := hid (show c.b.length = LB by rw [cb]; exact HLB.out)
  have HNMS := hid (fun w' (hn : Nw w2 w') => show Calls Try.prog 39 #[.pointer (some ⟨c.a, 0, none⟩)] w' (fun e w'' => ∃ v, e = .returned v ∧ Sl w'' v (Lx.strs l) ∧ Nw w' w'') by
    obtain ⟨vo, va, ats, h1, h2⟩ := hdi.nw hn
    obtain ⟨P, vh, rs, n, k1, _⟩ := h1.1
    refine (names_c k1).mono ?_
    rintro e w3 ⟨v, rfl, ho, hn3⟩
    rw [cnm] at ho
    exact ⟨v, rfl, ho.sl, hn3⟩)
  have y := hri.j.blk
  have g0 := lt_of_heap y
  have k0 := heap_cell y 0
  obtain ⟨pn, cn, hvn, _⟩ := hnm.open (n := l.length) (by simp [Lx.strs])
  rw [hvn] at k0 hnm
  simp only [List.getElem?_toArray, List.getElem?_cons_succ, List.getElem?_cons_zero] at k0
  have HEQ := hid (fun v w' (hv : Sl w' v (Lx.strs l)) (hn : Nw w2 w') => show Calls Try.prog 35 #[v, .slice pn l.length cn] w' (Gives (.bool true) w') by
    have := eqs_c v (.slice pn l.length cn) l l w' hv (hnm.nw hn)
    rwa [decide_eq_true rfl] at this)
  have HDI := hid hdi
  have HN2 := hid hn2
  clear hmk hst cb csc cr cnm cf cs qes qE qsz qB qm hri y hvn hdi hlow hdx HRP HNE HLOG HFEW HP0 HLB hn2 hnm
  have stN := NmS.stab l
  refine wp_region_stairs (by kernel_rfl) (by kernel_rfl) (by kernel_rfl) ?_
  iterate 1
    refine Stairs.is ?_ ?_ ?_
    rotate_left 1
    · intro x wR hR hd K hK
      simp only [Act.put, List.setIfInBounds_toArray, List.set_cons_zero, List.set_cons_succ, Nat.reduceAdd, List.length_nil, List.length_cons, List.nil_append, List.cons_append, Say.ok] at hK ⊢
      clear hd
      change Hid _ at hK
      obtain ⟨hcR, hfR, hzR⟩ := nwc hR
      first | (refine wanted_yes ?_ ?_; rfl) | (refine wanted_no ?_ ?_; rfl)
      go_wp2_with (first 
    | (go_at_call 39; refine (HNMS.out _ (by repeat (first | assumption | exact Nw.refl _ | refine Nw.alloc ?_ _ | refine Nw.drew ?_ | refine Nw.drewN2 ?_ _ | (refine Nw.trans ?_ (by assumption))))).mono ?_; rintro e w5 ⟨v5, rfl, hs5, hn5⟩)
    | (go_at_call 35; refine (HEQ.out _ _ (by first | exact hd | exact hd.1 | exact hd.2 | exact hd.2.1) (by repeat (first | assumption | exact Nw.refl _ | refine Nw.alloc ?_ _ | refine Nw.drew ?_ | refine Nw.drewN2 ?_ _ | (refine Nw.trans ?_ (by assumption))))).mono ?_; rintro e w5 ⟨rfl, hn5⟩))
      all_goals (refine hK.out _ _ ?_ ?_ <;> first | (solve | (repeat (first | assumption | exact Nw.refl _ | refine Nw.alloc ?_ _ | refine Nw.drew ?_ | refine Nw.drewN2 ?_ _ | (refine Nw.trans ?_ (by assumption))))) | exact rfl | exact hs5)
    try simp only [Act.put, List.setIfInBounds_toArray, List.set_cons_zero, List.set_cons_succ, Nat.reduceAdd, List.length_nil, List.length_cons, List.nil_append, List.cons_append]
  iterate 1
    refine Stairs.that (NmS l) (by first | assumption | simp) ?_ ?_
    · intro x wR hR hd K hK
      simp only [Act.put, List.setIfInBounds_toArray, List.set_cons_zero, List.set_cons_succ, Nat.reduceAdd, List.length_nil, List.length_cons, List.nil_append, List.cons_append, Say.ok] at hK ⊢
      clear hd
      change Hid _ at hK
      obtain ⟨hcR, hfR, hzR⟩ := nwc hR
      first | (refine wanted_yes ?_ ?_; rfl) | (refine wanted_no ?_ ?_; rfl)
      go_wp2_with (first 
    | (go_at_call 39; refine (HNMS.out _ (by repeat (first | assumption | exact Nw.refl _ | refine Nw.alloc ?_ _ | refine Nw.drew ?_ | refine Nw.drewN2 ?_ _ | (refine Nw.trans ?_ (by assumption))))).mono ?_; rintro e w5 ⟨v5, rfl, hs5, hn5⟩)
    | (go_at_call 35; refine (HEQ.out _ _ (by first | exact hd | exact hd.1 | exact hd.2 | exact hd.2.1) (by repeat (first | assumption | exact Nw.refl _ | refine Nw.alloc ?_ _ | refine Nw.drew ?_ | refine Nw.drewN2 ?_ _ | (refine Nw.trans ?_ (by assumption))))).mono ?_; rintro e w5 ⟨rfl, hn5⟩))
      all_goals (refine hK.out _ _ ?_ ?_ <;> first | (solve | (repeat (first | assumption | exact Nw.refl _ | refine Nw.alloc ?_ _ | refine Nw.drew ?_ | refine Nw.drewN2 ?_ _ | (refine Nw.trans ?_ (by assumption))))) | exact rfl | exact hs5)
    try simp only [Act.put, List.setIfInBounds_toArray, List.set_cons_zero, List.set_cons_succ, Nat.reduceAdd, List.length_nil, List.length_cons, List.nil_append, List.cons_append]
  iterate 7
    refine Stairs.is ?_ ?_ ?_
    rotate_left 1
    · intro x wR hR hd K hK
      simp only [Act.put, List.setIfInBounds_toArray, List.set_cons_zero, List.set_cons_succ, Nat.reduceAdd, List.length_nil, List.length_cons, List.nil_append, List.cons_append, Say.ok] at hK ⊢
      try simp [Region.binds, sayAt, List.getD_cons_zero, List.getD_cons_succ, Say.ok, Vl] at hd
      try (first | have hs := str_ok hd | have hs := str_ok hd.2 | have hs := str_ok hd.1 | (obtain ⟨hd1, hd2, hd3⟩ := hd; first | have hs := str_ok hd1 | have hs := str_ok hd2 | have hs := str_ok hd3))
      change Hid _ at hK
      obtain ⟨hcR, hfR, hzR⟩ := nwc hR
      first | (refine wanted_yes ?_ ?_; rfl) | (refine wanted_no ?_ ?_; rfl)
      go_wp2_with (first 
    | (go_at_call 39; refine (HNMS.out _ (by repeat (first | assumption | exact Nw.refl _ | refine Nw.alloc ?_ _ | refine Nw.drew ?_ | refine Nw.drewN2 ?_ _ | (refine Nw.trans ?_ (by assumption))))).mono ?_; rintro e w5 ⟨v5, rfl, hs5, hn5⟩)
    | (go_at_call 35; refine (HEQ.out _ _ (by first | exact hd | exact hd.1 | exact hd.2 | exact hd.2.1) (by repeat (first | assumption | exact Nw.refl _ | refine Nw.alloc ?_ _ | refine Nw.drew ?_ | refine Nw.drewN2 ?_ _ | (refine Nw.trans ?_ (by assumption))))).mono ?_; rintro e w5 ⟨rfl, hn5⟩))
      all_goals (refine hK.out _ _ ?_ ?_ <;> first | (solve | (repeat (first | assumption | exact Nw.refl _ | refine Nw.alloc ?_ _ | refine Nw.drew ?_ | refine Nw.drewN2 ?_ _ | (refine Nw.trans ?_ (by assumption))))) | exact rfl | exact hs5)
    try simp only [Act.put, List.setIfInBounds_toArray, List.set_cons_zero, List.set_cons_succ, Nat.reduceAdd, List.length_nil, List.length_cons, List.nil_append, List.cons_append]
  refine Stairs.nil ?_
  intro x wR hR hx
  have h1 := hx 1 (by decide)
  simp only [sayAt, List.getD_cons_zero, List.getD_cons_succ, Say.ok, Vl] at h1
  clear hx
  obtain ⟨hcR, hfR, hzR⟩ := nwc hR
  have hdR := HDI.out.nw hR
  have HDR := hid hdR
  clear hcR hfR hzR HDI HN2 HNMS HEQ k0 g0 hdR
  obtain ⟨S, hS⟩ : ∃ S, S = 100 * (LB + 2) + 100 := ⟨_, rfl⟩
  have hSb : S ≤ 2100000000 := by omega
  have HSE := hid hS
  clear hS
  go_wp2_with fail
  go_loopw [16, 17, 18, 57] (fun _ _ _ i wr => ∃ k ks pk, k ≤ al.length ∧ i = .int .i64 (k : Nat) ∧ DI w c q (fun _ => False) pl (2000 + k * S) k ks pk wr) (fun _ _ _ i _ => al.length - (intOf i).toNat)
  case atStart => exact ⟨0, _, _, Nat.zero_le _, rfl, by rw [Nat.zero_mul]; exact HDR.out⟩
  case round =>
    obtain ⟨k, ks, pk, hk, rfl, hdi⟩ := hrel
    by_cases hlt : k < al.length
    · have hdk : decide (k < al.length) = true := decide_eq_true hlt
      obtain ⟨ba, oa, rfl, hok, d0, d1, d2⟩ := HAC.out k hlt
      have hbw := hdi.base
      replace d0 := hbw.cell d0
      replace d1 := hbw.cell d1
      replace d2 := hbw.cell d2
      have gb := World.block_lt_of_cell? wr _ d0
      simp only at gb
      have HOK := hid hok
      clear hok hbw
      generalize ha al k = x at *
      obtain ⟨xm, xi, xk⟩ := x
      dsimp only at d0 d1 d2
      go_upto_region 12 with fail
      have yA := heap_new wr (.cells #[.int .u8 xm, .int .i64 xi, .int .i64 xk] 72)
      have hnX := (Nw.refl wr).alloc (.cells #[.int .u8 xm, .int .i64 xi, .int .i64 xk] 72)
      have hdA := hdi.keep hnX wr.heap.size (Nat.le_refl _) (lt_alloc _ _)
      have hkS : k * S ≤ 300 * S := Nat.mul_le_mul_right S (by omega)
      clear d0 d1 d2 gb hdi hnX
      generalize wr.alloc (.cells #[.int .u8 xm, .int .i64 xi, .int .i64 xk] 72) = w9 at *
      generalize wr.heap.size = gx at *
      have x0 := heap_cell yA 0
      have x1 := heap_cell yA 1
      have x2 := heap_cell yA 2
      have gxx := lt_of_heap yA
      simp only [List.getElem?_toArray, List.getElem?_cons_succ, List.getElem?_cons_zero] at x0 x1 x2
      have HYA := hid yA
      have HDC := hid (fun w' (hn : Nw w9 w') => show Calls Try.prog 68 #[.pointer (some ⟨c.a, 0, none⟩), .pointer (some ⟨q.b, 0, none⟩), .agg #[.int .u8 xm, .int .i64 xi, .int .i64 xk]] w' _ from did_c HDX.out (hdA.nw hn) (by omega) (by have := HSE.out; rw [HCB.out]; omega) ⟨xm, xi, xk⟩ HOK.out)
      dsimp only at HDC
      rw [HCB.out] at HDC
      generalize stepK q.es q.E q.size ks pk (xm % 5) xi xk = Y at *
      obtain ⟨ks', pk'⟩ := Y
      obtain ⟨m1, hm1⟩ : ∃ m, (rcnt ks' : Int) = m := ⟨_, rfl⟩
      obtain ⟨m2, hm2⟩ : ∃ m, (rcells q.es ks' : Int) = m := ⟨_, rfl⟩
      have HM1 := hid hm1
      have HM2 := hid hm2
      clear yA hm1 hm2 hdA
      go_cut [88] from 58 to 125 (fun v88 wx => Rnd w c q gx ⟨xm, xi, xk⟩ pl (2000 + k * S + 100 * (LB + 2) + 100) (k + 1) ks' pk' v88 wx)
      case first =>
        go_region_law (first
          | (go_simp; go_at_call 68; refine (HDC.out _ (by repeat (first | assumption | exact Nw.refl _ | refine Nw.alloc ?_ _ | refine Nw.drew ?_ | refine Nw.drewN2 ?_ _ | (refine Nw.trans ?_ (by assumption))))).mono ?_; rintro e w10 ⟨rfl, hd10, hm10⟩; have HD10 := hid hd10; have Y10 := hid (hm10.heap (Nw.heap (show Nw w9 _ from (by repeat (first | assumption | exact Nw.refl _ | refine Nw.alloc ?_ _ | refine Nw.drew ?_ | refine Nw.drewN2 ?_ _ | (refine Nw.trans ?_ (by assumption))))) HYA.out) (fun z => z rfl)); obtain ⟨vn, ve, vo, va, ats, yq, _⟩ := hd10.ats; have kq6 := heap_cell yq 6; have gq := lt_of_heap yq; simp only [List.getElem?_toArray, List.getElem?_cons_succ, List.getElem?_cons_zero] at kq6; clear yq hd10 hm10)
          | (go_simp; go_at_call 29; refine ((HD10.out.nw (by repeat (first | assumption | exact Nw.refl _ | refine Nw.alloc ?_ _ | refine Nw.drew ?_ | refine Nw.drewN2 ?_ _ | (refine Nw.trans ?_ (by assumption))))).count HM1.out).mono ?_; rintro e w11 ⟨rfl, rfl⟩)
          | (go_simp; go_at_call 69; refine ((HD10.out.nw (by repeat (first | assumption | exact Nw.refl _ | refine Nw.alloc ?_ _ | refine Nw.drew ?_ | refine Nw.drewN2 ?_ _ | (refine Nw.trans ?_ (by assumption))))).rcount HM1.out).mono ?_; rintro e w11 ⟨rfl, rfl⟩)
          | (go_simp; go_at_call 30; refine ((HD10.out.nw (by repeat (first | assumption | exact Nw.refl _ | refine Nw.alloc ?_ _ | refine Nw.drew ?_ | refine Nw.drewN2 ?_ _ | (refine Nw.trans ?_ (by assumption))))).cells (by omega) HM2.out).mono ?_; rintro e w11 ⟨rfl, rfl⟩)
          | (go_simp; go_at_call 70; refine ((HD10.out.nw (by repeat (first | assumption | exact Nw.refl _ | refine Nw.alloc ?_ _ | refine Nw.drew ?_ | refine Nw.drewN2 ?_ _ | (refine Nw.trans ?_ (by assumption))))).rcells HDX.out.few (by omega) HM2.out).mono ?_; rintro e w11 ⟨rfl, hn11⟩; obtain ⟨hc11, hf11, hz11⟩ := nwc hn11)
          | (go_simp; go_at_call 32; refine (HD10.out.nw (by repeat (first | assumption | exact Nw.refl _ | refine Nw.alloc ?_ _ | refine Nw.drew ?_ | refine Nw.drewN2 ?_ _ | (refine Nw.trans ?_ (by assumption))))).peaks.mono ?_; rintro e w12 ⟨rfl, rfl⟩)
          | fail)
        all_goals (go_wp2_with fail)
        all_goals go_meet
        all_goals exact ⟨rfl, HD10.out.nw (by repeat (first | assumption | exact Nw.refl _ | refine Nw.alloc ?_ _ | refine Nw.drew ?_ | refine Nw.drewN2 ?_ _ | (refine Nw.trans ?_ (by assumption)))), Nw.heap (show Nw w10 _ from (by repeat (first | assumption | exact Nw.refl _ | refine Nw.alloc ?_ _ | refine Nw.drew ?_ | refine Nw.drewN2 ?_ _ | (refine Nw.trans ?_ (by assumption))))) Y10.out⟩
      case rest =>
        obtain ⟨rfl, hd12, y12⟩ := hcut
        have x1 := heap_cell y12 1
        have gxx := lt_of_heap y12
        simp only [List.getElem?_toArray, List.getElem?_cons_succ, List.getElem?_cons_zero] at x1
        have HEND := hid (show DI w c q (fun _ => False) pl (2000 + (k + 1) * S) (k + 1) ks' pk' wc from (hd12.less (fun k z => z.elim)).more (by have := HSE.out; have : (k + 1) * S = k * S + S := Nat.succ_mul k S; omega))
        have HIX := hid (hd12.idx xi)
        have HHS := hid (fun w' (hn : Nw wc w') => (hd12.nw hn).has xi)
        obtain ⟨vn, ve, vo, va, ats, yq, hsl, hln, hat⟩ := hd12.ats
        have HAT := hid hat
        clear hd12 y12 hat HYA HDC HM1 HM2 x0 x2 HOK
        cases hf : fnd ks' xi with
        | none =>
          rw [hf] at HIX HHS
          clear yq hsl hln hf
          go_upto_region 15 with (first
            | (go_at_call 31; refine HIX.out.mono ?_; rintro e w13 ⟨rfl, rfl⟩; dsimp only [Option.elim, Option.isSome])
            | fail)
          refine wp_region_stairs (by kernel_rfl) (by kernel_rfl) (by kernel_rfl) ?_
          iterate 29
            refine Stairs.is ?_ ?_ ?_
            rotate_left 1
            · intro x wR hR hd K hK
              simp only [Act.put, List.setIfInBounds_toArray, List.set_cons_zero, List.set_cons_succ, Nat.reduceAdd, List.length_nil, List.length_cons, List.nil_append, List.cons_append, Say.ok] at hK ⊢
              clear hd
              change Hid _ at hK
              obtain ⟨hcR, hfR, hzR⟩ := nwc hR
              first | (refine wanted_yes ?_ ?_; rfl) | (refine wanted_no ?_ ?_; rfl)
              first | (refine hK.out _ _ ?_ ?_ <;> first | (solve | (repeat (first | assumption | exact Nw.refl _ | refine Nw.alloc ?_ _ | refine Nw.drew ?_ | refine Nw.drewN2 ?_ _ | (refine Nw.trans ?_ (by assumption))))) | ((conv => lhs; whnf) <;> exact rfl) | exact rfl | exact congrArg (Value.int .u8) hq2 | exact congrArg (Value.int .u8) hq2' | exact hs5 | exact congrArg Value.bool hd0 | exact congrArg Value.bool (by simp)) | (go_step; first | (refine hK.out _ _ ?_ ?_ <;> first | (solve | (repeat (first | assumption | exact Nw.refl _ | refine Nw.alloc ?_ _ | refine Nw.drew ?_ | refine Nw.drewN2 ?_ _ | (refine Nw.trans ?_ (by assumption))))) | ((conv => lhs; whnf) <;> exact rfl) | exact rfl | exact congrArg (Value.int .u8) hq2 | exact congrArg (Value.int .u8) hq2' | exact hs5 | exact congrArg Value.bool hd0 | exact congrArg Value.bool (by simp)) | ((first | (go_at_call 71; refine (HHS.out _ (by repeat (first | assumption | exact Nw.refl _ | refine Nw.alloc ?_ _ | refine Nw.drew ?_ | refine Nw.drewN2 ?_ _ | (refine Nw.trans ?_ (by assumption))))).mono ?_; rintro e w5 ⟨rfl, rfl⟩; dsimp only [Option.isSome])); (refine hK.out _ _ ?_ ?_ <;> first | (solve | (repeat (first | assumption | exact Nw.refl _ | refine Nw.alloc ?_ _ | refine Nw.drew ?_ | refine Nw.drewN2 ?_ _ | (refine Nw.trans ?_ (by assumption))))) | ((conv => lhs; whnf) <;> exact rfl) | exact rfl | exact congrArg (Value.int .u8) hq2 | exact congrArg (Value.int .u8) hq2' | exact hs5 | exact congrArg Value.bool hd0 | exact congrArg Value.bool (by simp))))
            try simp only [Act.put, List.setIfInBounds_toArray, List.set_cons_zero, List.set_cons_succ, Nat.reduceAdd, List.length_nil, List.length_cons, List.nil_append, List.cons_append]
          refine Stairs.nil ?_
          intro x wR hR hx
          clear hx
          obtain ⟨hcR, hfR, hzR⟩ := nwc hR
          clear hcR hfR hzR
          go_wp2
          go_roundw
          case rel => exact ⟨k + 1, ks', pk', by omega, by go_num, HEND.out.nw hR⟩
          case measure => simp [intOf]; omega
        | some k2 =>
          rw [hf] at HIX HHS
          obtain ⟨i2, rfl, hi2, hki⟩ := rfnd_mem hf
          have hai := HAT.out i2 k2 hki
          have k5 := heap_cell yq 5
          have gq := lt_of_heap yq
          simp only [List.getElem?_toArray, List.getElem?_cons_succ, List.getElem?_cons_zero] at k5
          obtain ⟨pA, cA, rfl, hcA, hmA, hpA, hcs⟩ := hsl.open (n := ks'.length) (by rw [i64s_length]; exact hln)
          unfold maxLen at hmA
          obtain ⟨b5, o5, rfl, hc5⟩ := hcs i2 (by rw [i64s_length]; omega)
          have hc6 : wc.cell? ⟨b5, o5 + i2, none⟩ = some (.int .i64 (k2 : Int)) := by
            rw [hc5]
            unfold i64s
            rw [List.getElem_map]
            have e2 : ats[i2]'(by omega) = (k2 : Int) := (List.getElem?_eq_some_iff.1 hai).2
            rw [e2]
          have gb5 := World.block_lt_of_cell? wc _ hc6
          simp only at gb5
          have hix0 : (0 : Int) ≤ (i2 : Int) := by omega
          have hdi0 : decide (i2 < ks'.length) = true := decide_eq_true hi2
          have hdi1 : decide ((i2 : Int) < (ks'.length : Int)) = true := decide_eq_true (by omega)
          clear hc5 yq hsl hln hf hcs hai hki HAT
          go_upto_region 15 with (first
            | (go_at_call 31; refine HIX.out.mono ?_; rintro e w13 ⟨rfl, rfl⟩; dsimp only [Option.elim, Option.isSome])
            | fail)
          refine wp_region_stairs (by kernel_rfl) (by kernel_rfl) (by kernel_rfl) ?_
          iterate 18
            refine Stairs.is ?_ ?_ ?_
            rotate_left 1
            · intro x wR hR hd K hK
              simp only [Act.put, List.setIfInBounds_toArray, List.set_cons_zero, List.set_cons_succ, Nat.reduceAdd, List.length_nil, List.length_cons, List.nil_append, List.cons_append, Say.ok] at hK ⊢
              clear hd
              change Hid _ at hK
              obtain ⟨hcR, hfR, hzR⟩ := nwc hR
              first | (refine wanted_yes ?_ ?_; rfl) | (refine wanted_no ?_ ?_; rfl)
              first | (refine hK.out _ _ ?_ ?_ <;> first | (solve | (repeat (first | assumption | exact Nw.refl _ | refine Nw.alloc ?_ _ | refine Nw.drew ?_ | refine Nw.drewN2 ?_ _ | (refine Nw.trans ?_ (by assumption))))) | ((conv => lhs; whnf) <;> exact rfl) | exact rfl | exact congrArg (Value.int .u8) hq2 | exact congrArg (Value.int .u8) hq2' | exact hs5 | exact congrArg Value.bool hd0 | exact congrArg Value.bool (by simp)) | (go_step; first | (refine hK.out _ _ ?_ ?_ <;> first | (solve | (repeat (first | assumption | exact Nw.refl _ | refine Nw.alloc ?_ _ | refine Nw.drew ?_ | refine Nw.drewN2 ?_ _ | (refine Nw.trans ?_ (by assumption))))) | ((conv => lhs; whnf) <;> exact rfl) | exact rfl | exact congrArg (Value.int .u8) hq2 | exact congrArg (Value.int .u8) hq2' | exact hs5 | exact congrArg Value.bool hd0 | exact congrArg Value.bool (by simp)) | ((first | (go_at_call 71; refine (HHS.out _ (by repeat (first | assumption | exact Nw.refl _ | refine Nw.alloc ?_ _ | refine Nw.drew ?_ | refine Nw.drewN2 ?_ _ | (refine Nw.trans ?_ (by assumption))))).mono ?_; rintro e w5 ⟨rfl, rfl⟩; dsimp only [Option.isSome])); (refine hK.out _ _ ?_ ?_ <;> first | (solve | (repeat (first | assumption | exact Nw.refl _ | refine Nw.alloc ?_ _ | refine Nw.drew ?_ | refine Nw.drewN2 ?_ _ | (refine Nw.trans ?_ (by assumption))))) | ((conv => lhs; whnf) <;> exact rfl) | exact rfl | exact congrArg (Value.int .u8) hq2 | exact congrArg (Value.int .u8) hq2' | exact hs5 | exact congrArg Value.bool hd0 | exact congrArg Value.bool (by simp))))
            try simp only [Act.put, List.setIfInBounds_toArray, List.set_cons_zero, List.set_cons_succ, Nat.reduceAdd, List.length_nil, List.length_cons, List.nil_append, List.cons_append]
          iterate 1
            refine Stairs.is (.bool false) ?_ ?_
            · intro x wR hR hd K hK
              simp only [Act.put, List.setIfInBounds_toArray, List.set_cons_zero, List.set_cons_succ, Nat.reduceAdd, List.length_nil, List.length_cons, List.nil_append, List.cons_append, Say.ok] at hK ⊢
              clear hd
              change Hid _ at hK
              obtain ⟨hcR, hfR, hzR⟩ := nwc hR
              first | (refine wanted_yes ?_ ?_; rfl) | (refine wanted_no ?_ ?_; rfl)
              first | (refine hK.out _ _ ?_ ?_ <;> first | (solve | (repeat (first | assumption | exact Nw.refl _ | refine Nw.alloc ?_ _ | refine Nw.drew ?_ | refine Nw.drewN2 ?_ _ | (refine Nw.trans ?_ (by assumption))))) | ((conv => lhs; whnf) <;> exact rfl) | exact rfl | exact congrArg (Value.int .u8) hq2 | exact congrArg (Value.int .u8) hq2' | exact hs5 | exact congrArg Value.bool hd0 | exact congrArg Value.bool (by simp)) | (go_step; first | (refine hK.out _ _ ?_ ?_ <;> first | (solve | (repeat (first | assumption | exact Nw.refl _ | refine Nw.alloc ?_ _ | refine Nw.drew ?_ | refine Nw.drewN2 ?_ _ | (refine Nw.trans ?_ (by assumption))))) | ((conv => lhs; whnf) <;> exact rfl) | exact rfl | exact congrArg (Value.int .u8) hq2 | exact congrArg (Value.int .u8) hq2' | exact hs5 | exact congrArg Value.bool hd0 | exact congrArg Value.bool (by simp)) | ((first | (go_at_call 71; refine (HHS.out _ (by repeat (first | assumption | exact Nw.refl _ | refine Nw.alloc ?_ _ | refine Nw.drew ?_ | refine Nw.drewN2 ?_ _ | (refine Nw.trans ?_ (by assumption))))).mono ?_; rintro e w5 ⟨rfl, rfl⟩; dsimp only [Option.isSome])); (refine hK.out _ _ ?_ ?_ <;> first | (solve | (repeat (first | assumption | exact Nw.refl _ | refine Nw.alloc ?_ _ | refine Nw.drew ?_ | refine Nw.drewN2 ?_ _ | (refine Nw.trans ?_ (by assumption))))) | ((conv => lhs; whnf) <;> exact rfl) | exact rfl | exact congrArg (Value.int .u8) hq2 | exact congrArg (Value.int .u8) hq2' | exact hs5 | exact congrArg Value.bool hd0 | exact congrArg Value.bool (by simp))))
            try simp only [Act.put, List.setIfInBounds_toArray, List.set_cons_zero, List.set_cons_succ, Nat.reduceAdd, List.length_nil, List.length_cons, List.nil_append, List.cons_append]
          iterate 10
            refine Stairs.is ?_ ?_ ?_
            rotate_left 1
            · intro x wR hR hd K hK
              simp only [Act.put, List.setIfInBounds_toArray, List.set_cons_zero, List.set_cons_succ, Nat.reduceAdd, List.length_nil, List.length_cons, List.nil_append, List.cons_append, Say.ok] at hK ⊢
              clear hd
              change Hid _ at hK
              obtain ⟨hcR, hfR, hzR⟩ := nwc hR
              first | (refine wanted_yes ?_ ?_; rfl) | (refine wanted_no ?_ ?_; rfl)
              first | (refine hK.out _ _ ?_ ?_ <;> first | (solve | (repeat (first | assumption | exact Nw.refl _ | refine Nw.alloc ?_ _ | refine Nw.drew ?_ | refine Nw.drewN2 ?_ _ | (refine Nw.trans ?_ (by assumption))))) | ((conv => lhs; whnf) <;> exact rfl) | exact rfl | exact congrArg (Value.int .u8) hq2 | exact congrArg (Value.int .u8) hq2' | exact hs5 | exact congrArg Value.bool hd0 | exact congrArg Value.bool (by simp)) | (go_step; first | (refine hK.out _ _ ?_ ?_ <;> first | (solve | (repeat (first | assumption | exact Nw.refl _ | refine Nw.alloc ?_ _ | refine Nw.drew ?_ | refine Nw.drewN2 ?_ _ | (refine Nw.trans ?_ (by assumption))))) | ((conv => lhs; whnf) <;> exact rfl) | exact rfl | exact congrArg (Value.int .u8) hq2 | exact congrArg (Value.int .u8) hq2' | exact hs5 | exact congrArg Value.bool hd0 | exact congrArg Value.bool (by simp)) | ((first | (go_at_call 71; refine (HHS.out _ (by repeat (first | assumption | exact Nw.refl _ | refine Nw.alloc ?_ _ | refine Nw.drew ?_ | refine Nw.drewN2 ?_ _ | (refine Nw.trans ?_ (by assumption))))).mono ?_; rintro e w5 ⟨rfl, rfl⟩; dsimp only [Option.isSome])); (refine hK.out _ _ ?_ ?_ <;> first | (solve | (repeat (first | assumption | exact Nw.refl _ | refine Nw.alloc ?_ _ | refine Nw.drew ?_ | refine Nw.drewN2 ?_ _ | (refine Nw.trans ?_ (by assumption))))) | ((conv => lhs; whnf) <;> exact rfl) | exact rfl | exact congrArg (Value.int .u8) hq2 | exact congrArg (Value.int .u8) hq2' | exact hs5 | exact congrArg Value.bool hd0 | exact congrArg Value.bool (by simp))))
            try simp only [Act.put, List.setIfInBounds_toArray, List.set_cons_zero, List.set_cons_succ, Nat.reduceAdd, List.length_nil, List.length_cons, List.nil_append, List.cons_append]
          refine Stairs.nil ?_
          intro x wR hR hx
          clear hx
          obtain ⟨hcR, hfR, hzR⟩ := nwc hR
          clear hcR hfR hzR
          go_wp2
          go_roundw
          case rel => exact ⟨k + 1, ks', pk', by omega, by go_num, HEND.out.nw hR⟩
          case measure => simp [intOf]; omega
    · obtain rfl : k = al.length := by omega
      have hdk : decide (al.length < al.length) = false := decide_eq_false (by omega)
      have hbw := hdi.base
      clear hdi
      go_wp2
      go_ret
      exact ⟨rfl, hbw⟩
theorem plays_c (vb vs va : Value) (b : List UInt8) (sc : List Int) (fault size : Int) (al : List Ha) (w : World) (hb : Bytes w vb b) (hs : Sl w vs (i64s sc)) (ha : Has w va al) (hlb : b.length ≤ 20000000) (hls : sc.length ≤ 1000000000) (hx : ∀ x ∈ sc, -9223372036854775808 ≤ x ∧ x ≤ 9223372036854775807)
    (hal : al.length ≤ 300) (hf1 : -9223372036854775808 ≤ fault) (hf2 : fault ≤ 9223372036854775807) :
    Calls Try.prog 38 #[vb, vs, .int .i64 fault, .int .i64 size, va] w (Gives (.bool true) w) := by
  by_cases h1 : size < 1
  · exact plays_small vb vs va b sc fault size w hb hs hlb hls hx h1
  · obtain ⟨⟨l, k, er⟩, hh⟩ : ∃ y, headR (b.take (rt b.length fault)) (miss b (rt b.length fault)) = y := ⟨_, rfl⟩
    by_cases he : er = 0
    · subst he
      exact plays_yes vb vs va b sc fault size al w hb hs ha hlb hls hx h1 hal hf1 hf2 hh
    · exact plays_no vb vs va b sc fault size w hb hs hlb hls hx h1 hf1 hf2 hh he
theorem Has.nw {w w' : World} {v : Value} {l : List Ha} (h : Has w v l) (hn : Nw w w') : Has w' v l := by
  obtain ⟨p, cap, e, h1, h2, h3, h4⟩ := h
  refine ⟨p, cap, e, h1, h2, h3, fun i hi => ?_⟩
  obtain ⟨b, off, k0, k1, k2, k3, k4⟩ := h4 i hi
  exact ⟨b, off, k0, k1, hn.cell k2, hn.cell k3, hn.cell k4⟩
end Hp
end Go.Proofs.Ytdihoedehmfgfaa
