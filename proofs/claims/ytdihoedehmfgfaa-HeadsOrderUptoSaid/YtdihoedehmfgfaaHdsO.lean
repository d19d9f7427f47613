/- HeadsOrder walked. No condition but lengths. -/
import Derived.Test.YtdihoedehmfgfaaJHk
import Derived.Test.YtdihoedehmfgfaaSpoil
set_option linter.unusedSimpArgs false
set_option linter.unusedVariables false
namespace Go.Proofs.Ytdihoedehmfgfaa
open Go.ChangeShapes Go.WideShapes Go.ChangeAt Go.RowKit
namespace Hp
open Go.Proofs.Ytdihoedehmfgfaa.Rec (none_ get i64s_open)
open Go.Proofs.Ytdihoedehmfgfaa.Sc (recP SI Ok place rec_in miss)
open Go.Proofs.Ytdihoedehmfgfaa.Sum (Hands8)
open Go.Proofs.Ytdihoedehmfgfaa.Tr (T Es tm ids namesP Evs EC Small box2 lt_alloc same_c makeP make_c3 make_may make_small make_len pqr u16s u16s_length)
open Go.Proofs.Ytdihoedehmfgfaa.Lg (headerP recsX headR encP encode_c make_tb make_enc enc_len9 head_same head_enc may_names may_fine)
open Go.Proofs.Ytdihoedehmfgfaa.Src (rt)
theorem fnd1 (z : HS) : fnd [some z] (0 : Int) = some z := rfl
theorem next1 {b : List UInt8} {r : Nat} {p pk : Int} {z z' : HS} (h : nxt b r p z = (z', 0)) : nextP b r p [some z] pk 0 = (([some z'], max pk (cells [some z'] : Int)), ((z'.t, z'.ids), 0)) := by
  unfold nextP
  rw [fnd1]
  dsimp only
  rw [h, if_neg (show ¬ ((0 : Int) ≠ 0) by decide)]
  rfl
theorem next1_no {b : List UInt8} {r : Nat} {p pk E : Int} {z : HS} (h : nxt b r p z = (z, E)) (hE : E ≠ 0) : nextP b r p [some z] pk 0 = (([some z], pk), ((0, []), E)) := by
  unfold nextP
  rw [fnd1]
  dsimp only
  rw [h, if_pos hE]
theorem seek1 {b : List UInt8} {r : Nat} {p f pk : Int} {z z' : HS} {k : Nat} (h : walk b r p k (hs0 f) = (z', 0)) : seekP b r p f [some z] pk 0 k = (([some z'], max pk (cells [some z'] : Int)), 0) := by
  unfold seekP
  rw [fnd1]
  dsimp only
  rw [if_neg (by omega), Int.toNat_natCast, h, if_neg (show ¬ ((0 : Int) ≠ 0) by decide)]
  rfl
theorem seek1_no {b : List UInt8} {r : Nat} {p f pk E : Int} {z z' : HS} {k : Nat} (h : walk b r p k (hs0 f) = (z', E)) (hE : E ≠ 0) : seekP b r p f [some z] pk 0 k = (([some z], pk), E) := by
  unfold seekP
  rw [fnd1]
  dsimp only
  rw [if_neg (by omega), Int.toNat_natCast, h, if_pos hE]
theorem make_is (start : Int) (ns : List Nat) : ∃ es, makeP start ns = (⟨pqr, es⟩ : T) := ⟨_, rfl⟩
set_option maxRecDepth 20000 in
set_option maxHeartbeats 3200000 in
theorem order_walk (start : Int) (h0 : 0 ≤ start) (h64 : start < 18446744073709551616) (v1 vs : Value) (ns : List Nat) (sc : List Int) (q : Int) (w : World) (hv1 : Sl w v1 (u16s ns)) (hns : ∀ n ∈ ns, n ≤ 65535) (hs : Sl w vs (i64s sc)) (hls : sc.length ≤ 1000000000) (hx : ∀ x ∈ sc, -9223372036854775808 ≤ x ∧ x ≤ 9223372036854775807) (hq0 : 0 ≤ q) (hq1 : q ≤ 255) :
    Calls Try.prog 9 #[.int .u64 start, v1, vs, .int .u8 q] w fun e w' => e = .returned (.bool true) ∧ Nw w w' := by
  have HM1 := hid (make_c3 start h0 h64 v1 ns w hv1 hns)
  have HMM := hid (make_may start h0 ns)
  have HSM := hid (make_small start h0 ns)
  have HLE := make_len start h0 ns
  have HTB := hid (make_tb start h0 ns)
  have hme := make_enc start h0 ns
  have hm9 := enc_len9 _ (make_may start h0 ns)
  obtain ⟨es, hE⟩ := make_is start ns
  have HSL := hid (fun w' (h : Nw w w') => hs.nw h)
  obtain ⟨p5, k5, rfl, _, _, _, _⟩ := hv1.open (u16s_length ns)
  obtain ⟨ps, ks, rfl, _, _, _, _⟩ := hs.open (i64s_length sc)
  rw [hE] at HM1 HMM HSM HLE HTB hme hm9
  dsimp only at HM1 HLE HTB
  clear hv1 hns hE hs
  have HEE := hid (fun (x y : Value) w' (h1 : Sl w' x (Lx.strs pqr)) (h2 : Evs w' y es) => encode_c x y ⟨pqr, es⟩ w' h1 h2 HSM.out (Nat.le_trans HLE (by decide)) HTB.out)
  have hem : encP (⟨pqr, es⟩ : T) = headerP pqr ++ recsX es := by unfold Lg.encP; rw [if_pos HMM.out]
  have hpq : namesP pqr = true := may_names HMM.out
  have hlog : LogD (encP (⟨pqr, es⟩ : T)) (encP (⟨pqr, es⟩ : T)).length 3 es (place pqr es) 13 := by
    rw [hem]
    exact enc_log (may_fine HMM.out HTB.out) (by decide) (by decide)
  have hfull : headR (encP (⟨pqr, es⟩ : T)) 5 = (pqr, ((place pqr es 0 : Nat) : Int), 0) := by rw [head_same, hem]; exact head_enc _ _ hpq
  have HIL := hid (show ∀ i, i < es.length → (ids es i).length ≤ 1000000000 by obtain ⟨_, _, q, _⟩ := HSM.out; exact q)
  clear hem hpq HMM
  generalize hemE : encP (⟨pqr, es⟩ : T) = em at *
  generalize place pqr es = pl at *
  have HNE := hid (fun (v : Value) w' (hv : Bytes w' v em) (hw : Nw w w') => show Calls Try.prog 25 #[v, .slice ps sc.length ks, .int .i64 (-1), .int .i64 2] w' (Made w' em sc em.length pqr (pl 0 : Nat) 2) by
    have := poolnew_c v (.slice ps sc.length ks) em sc (-1) 2 w' hv (HSL.out w' hw) (by omega) hls hx
    rw [show rt em.length (-1) = em.length by unfold Src.rt; rw [if_neg (by omega)]] at this
    refine this.mono fun e w1 h => ?_
    unfold NewO at h
    rw [if_neg (by decide), List.take_of_length_le (Nat.le_refl _), show miss em em.length = 5 by unfold miss; rw [if_neg (by omega)], hfull] at h
    exact h)
  have HLOG := hid hlog
  have hlen : es.length ≤ 60 := HLE
  clear hlog hfull hemE HLE
  obtain ⟨N, hN⟩ : ∃ N, em.length = N := ⟨_, rfl⟩
  rw [hN] at hme hm9
  have HN := hid hN
  clear hN
  go_enter Try.func9, Try.ntmps9
  go_upto_region 2 with (first
    | (go_at_call 18; refine HM1.out.mono ?_; rintro e w2 ⟨q1, c1, q2, c2, rfl, hs1, he1, hn2⟩)
    | fail)
  obtain ⟨t0, t1⟩ := box2 w2 (.slice q1 3 c1) (.slice q2 es.length c2) 34
  have hn3 := hn2.alloc (.cells #[.slice q1 3 c1, .slice q2 es.length c2] 34)
  have hnB := (Nw.refl w2).alloc (.cells #[.slice q1 3 c1, .slice q2 es.length c2] 34)
  have g9 := lt_alloc w2 (.cells #[.slice q1 3 c1, .slice q2 es.length c2] 34)
  replace hs1 := hs1.nw hnB
  replace he1 := he1.nw hnB
  clear hnB hn2
  generalize w2.alloc (.cells #[.slice q1 3 c1, .slice q2 es.length c2] 34) = w3 at *
  generalize w2.heap.size = g9' at *
  have HEN := hid (HEE.out _ _ w3 hs1 he1)
  clear HEE
  have hw3 := hn3
  clear hn3
  go_upto_region 5 with (first
    | (go_at_call 20; refine HEN.out.mono ?_; rintro e' w4 ⟨v4, rfl, hown4, hn4⟩; obtain ⟨p4, c4, rfl, _⟩ := hown4.sl.open (n := N) ((u8s_length _).trans HN.out))
    | (go_at_call 25; refine (HNE.out _ _ hown4.sl (hw3.trans hn4)).mono ?_; rintro e' w5 hmk; obtain ⟨c, rfl, hst, cb, csc, cr, cnm, cf, cs⟩ := made_st hmk)
    | fail)
  have HLC := hid (show LogD c.b c.r c.nm.length es pl 13 by rw [cb, cr, cnm]; exact HLOG.out)
  have HF0 := hid (show hs0 c.first = stA es pl 0 by rw [cf]; rfl)
  have HCB := hid (show c.b.length = N by rw [cb]; exact HN.out)
  have h1 := hid (hst.open (by decide) (hs' := [some (stA es pl 0)]) (peak' := max 0 (cells [some (stA es pl 0)] : Int)) (id := 0) (er := 0) (by rw [cs, HF0.out]; rfl))
  have hs1' := hs1.nw hn4
  have HE := hid (he1.nw hn4)
  have t0' := hn4.cell t0
  have t1' := hn4.cell t1
  have g9'' := Nat.lt_of_lt_of_le g9 hn4.size
  have HW4 := hid (hw3.trans hn4)
  clear hst hmk cb csc cr cnm cf cs HNE HLOG HEN hown4 hs1 he1 hs1' t0 t1 g9 hw3 hn4 HSL HN
  go_upto_region 6 with (first
    | (go_at_call 26; refine h1.out.mono ?_; rintro e' w6 ⟨rfl, hst⟩)
    | fail)
  have hb6 := hst.base
  have u0 := hb6.cell t0'
  have u1 := hb6.cell t1'
  have gu := Nat.lt_of_lt_of_le g9'' hb6.size
  have HST0 := hid (show ∃ pk, HSt w4 c [some (stA es pl 0)] pk (2000 + 100 * 0) w6 from ⟨_, hst⟩)
  obtain ⟨pe, ce, epe, hce1, hce2, hce3, hec⟩ := HE.out
  obtain ⟨rfl, rfl⟩ : q2 = pe ∧ c2 = ce := by
    have := epe
    simp only [Value.slice.injEq] at this
    exact ⟨this.1, this.2.2⟩
  unfold maxLen at hce2
  have HEC := hid hec
  clear hst h1 hb6 hec epe
  go_wp2_with fail
  go_loopw [14, 15, 16, 17, 18, 19, 52] (fun _ _ _ _ _ _ i wr => ∃ k : Nat, k ≤ es.length ∧ i = .int .i64 k ∧ ∃ pk, HSt w4 c [some (stA es pl k)] pk (2000 + 100 * k) wr) (fun _ _ _ _ _ _ i _ => es.length - (intOf i).toNat)
  case atStart => exact ⟨0, Nat.zero_le _, rfl, HST0.out⟩
  case round =>
    obtain ⟨k, hk, rfl, pk, hst⟩ := hrel
    by_cases hlt : k < es.length
    · have hdk : decide (k < es.length) = true := decide_eq_true hlt
      obtain ⟨b1, o1, vi, rfl, d0, d1, hsl⟩ := HEC.out k hlt
      replace d0 := hst.base.cell d0
      replace d1 := hst.base.cell d1
      obtain ⟨qi, ci, rfl, _, _, _, _⟩ := i64s_open hsl
      have gb := World.block_lt_of_cell? wr _ d0
      simp only at gb
      have hil := HIL.out k hlt
      have HSTP := hid (HLC.out.step k hlt)
      have HSI := hid (stA_idx es pl k)
      have HSS := hid (stA_succ es pl k)
      go_upto_region 9 with fail
      obtain ⟨x0, x1⟩ := box2 wr (.int .u64 (tm es k)) (.slice qi (ids es k).length ci) 38
      have hnX := (Nw.refl wr).alloc (.cells #[.int .u64 (tm es k), .slice qi (ids es k).length ci] 38)
      have gX := lt_alloc wr (.cells #[.int .u64 (tm es k), .slice qi (ids es k).length ci] 38)
      have hst2 := hst.q.keep hnX wr.heap.size (Nat.le_refl _) gX
      have HS7 := hid hsl
      clear d0 d1 gb hst hsl
      generalize wr.alloc (.cells #[.int .u64 (tm es k), .slice qi (ids es k).length ci] 38) = w7 at *
      generalize wr.heap.size = gx at *
      have HIX := hid (show Calls Try.prog 31 #[.pointer (some ⟨c.a, 0, none⟩), .int .i64 0] w7 fun e w' => e = .returned (.tuple #[.int .i64 k, .bool true]) ∧ w7 = w' by
        have := hst2.st.idx 0
        rw [fnd1] at this
        rw [← HSI.out]
        exact this)
      have HNX := hid (hst2.next (by simp) (by omega) 0 (next1 HSTP.out))
      have HB7 := hid hst2.base
      clear hst2
      rw [HSS.out] at HNX
      dsimp only at HNX
      go_upto_region 12 with (first
        | (go_at_call 31; refine HIX.out.mono ?_; rintro e' w8 ⟨rfl, rfl⟩)
        | fail)
      go_upto_region 13 with (first
        | (go_at_call 36; refine HNX.out.mono ?_; rintro e' w8 ⟨v8, rfl, hs8, hst8, hm8⟩; obtain ⟨q8, c8, rfl, _⟩ := i64s_open hs8)
        | fail)
      obtain ⟨y0, y1⟩ := box2 w8 (.int .u64 (tm es k)) (.slice q8 (ids es k).length c8) 38
      have hnY := (Nw.refl w8).alloc (.cells #[.int .u64 (tm es k), .slice q8 (ids es k).length c8] 38)
      have gY := lt_alloc w8 (.cells #[.int .u64 (tm es k), .slice q8 (ids es k).length c8] 38)
      have x0' := hnY.cell (Mods.cell hm8 x0 (fun z => z (Or.inr rfl)))
      have x1' := hnY.cell (Mods.cell hm8 x1 (fun z => z (Or.inr rfl)))
      have gX' := Nat.lt_of_lt_of_le (Nat.lt_of_lt_of_le gX hm8.size) hnY.size
      have hst9 := hst8.nw hnY
      have HS9 := hid (HS7.out.nw hst9.base)
      have HV9 := hid (hs8.nw hnY)
      clear x0 x1 gX hm8 hst8 hs8 HNX HIX
      generalize w8.alloc (.cells #[.int .u64 (tm es k), .slice q8 (ids es k).length c8] 38) = w9 at *
      generalize w8.heap.size = gy at *
      have HSA := hid (fun w' (hn : Nw w9 w') => show Calls Try.prog 24 #[.agg #[.int .u64 (tm es k), .slice q8 (ids es k).length c8], .agg #[.int .u64 (tm es k), .slice qi (ids es k).length ci]] w' (Gives (.bool true) w') by
        have := same_c _ _ (tm es k) (tm es k) (ids es k) (ids es k) w' (HV9.out.nw hn) (HS9.out.nw hn)
        rwa [decide_eq_true ⟨rfl, rfl⟩] at this)
      have HCE := hid (fun w' (hn : Nw w9 w') => (hst9.st.nw hn).cells (by simp) (q := 3 + ((ids es k).length : Int)) (by simp [cells, cellsOf]))
      have HFI := hid (show HSt w4 c [some (stA es pl (k + 1))] _ (2000 + 100 * (k + 1)) w9 from by
        have := hst9.st
        rw [← HSS.out] at this
        exact this.more (by omega))
      clear hst9
      generalize (ids es k).length = li at *
      generalize tm es k = te at *
      have hwr : IntKind.i64.wrap (3 + (li : Int)) = 3 + (li : Int) := by rw [IntKind.wrap_i64]; omega
      refine wp_region_stairs (by kernel_rfl) (by kernel_rfl) (by kernel_rfl) ?_
      iterate 14
        refine Stairs.is ?_ ?_ ?_
        rotate_left 1
        · intro x wR hR hd K hK
          simp only [Act.put, List.setIfInBounds_toArray, List.set_cons_zero, List.set_cons_succ, Nat.reduceAdd, List.length_nil, List.length_cons, List.nil_append, List.cons_append, Say.ok] at hK ⊢
          clear hd
          change Hid _ at hK
          obtain ⟨hcR, hfR, hzR⟩ := nwc hR
          first | (refine wanted_yes ?_ ?_; rfl) | (refine wanted_no ?_ ?_; rfl)
          first | (refine hK.out _ _ ?_ ?_ <;> first | (solve | (repeat (first | assumption | exact Nw.refl _ | refine Nw.alloc ?_ _ | refine Nw.drew ?_ | refine Nw.drewN2 ?_ _ | (refine Nw.trans ?_ (by assumption))))) | ((conv => lhs; whnf) <;> exact rfl) | exact rfl | exact congrArg Value.bool (by simp) | exact congrArg (Value.int .i64) hwr) | (go_step; first | (refine hK.out _ _ ?_ ?_ <;> first | (solve | (repeat (first | assumption | exact Nw.refl _ | refine Nw.alloc ?_ _ | refine Nw.drew ?_ | refine Nw.drewN2 ?_ _ | (refine Nw.trans ?_ (by assumption))))) | ((conv => lhs; whnf) <;> exact rfl) | exact rfl | exact congrArg Value.bool (by simp) | exact congrArg (Value.int .i64) hwr) | ((first | (go_at_call 24; refine (HSA.out _ (by repeat (first | assumption | exact Nw.refl _ | refine Nw.alloc ?_ _ | refine Nw.drew ?_ | refine Nw.drewN2 ?_ _ | (refine Nw.trans ?_ (by assumption))))).mono ?_; rintro e' w5' ⟨rfl, hn5⟩) | (go_at_call 30; refine (HCE.out _ (by repeat (first | assumption | exact Nw.refl _ | refine Nw.alloc ?_ _ | refine Nw.drew ?_ | refine Nw.drewN2 ?_ _ | (refine Nw.trans ?_ (by assumption))))).mono ?_; rintro e' w5' ⟨rfl, rfl⟩)); (refine hK.out _ _ ?_ ?_ <;> first | (solve | (repeat (first | assumption | exact Nw.refl _ | refine Nw.alloc ?_ _ | refine Nw.drew ?_ | refine Nw.drewN2 ?_ _ | (refine Nw.trans ?_ (by assumption))))) | ((conv => lhs; whnf) <;> exact rfl) | exact rfl | exact congrArg Value.bool (by simp) | exact congrArg (Value.int .i64) hwr)))
        try simp only [Act.put, List.setIfInBounds_toArray, List.set_cons_zero, List.set_cons_succ, Nat.reduceAdd, List.length_nil, List.length_cons, List.nil_append, List.cons_append]
      iterate 1
        refine Stairs.is (.int .i64 (3 + (li : Int))) ?_ ?_
        · intro x wR hR hd K hK
          simp only [Act.put, List.setIfInBounds_toArray, List.set_cons_zero, List.set_cons_succ, Nat.reduceAdd, List.length_nil, List.length_cons, List.nil_append, List.cons_append, Say.ok] at hK ⊢
          clear hd
          change Hid _ at hK
          obtain ⟨hcR, hfR, hzR⟩ := nwc hR
          first | (refine wanted_yes ?_ ?_; rfl) | (refine wanted_no ?_ ?_; rfl)
          first | (refine hK.out _ _ ?_ ?_ <;> first | (solve | (repeat (first | assumption | exact Nw.refl _ | refine Nw.alloc ?_ _ | refine Nw.drew ?_ | refine Nw.drewN2 ?_ _ | (refine Nw.trans ?_ (by assumption))))) | ((conv => lhs; whnf) <;> exact rfl) | exact rfl | exact congrArg Value.bool (by simp) | exact congrArg (Value.int .i64) hwr) | (go_step; first | (refine hK.out _ _ ?_ ?_ <;> first | (solve | (repeat (first | assumption | exact Nw.refl _ | refine Nw.alloc ?_ _ | refine Nw.drew ?_ | refine Nw.drewN2 ?_ _ | (refine Nw.trans ?_ (by assumption))))) | ((conv => lhs; whnf) <;> exact rfl) | exact rfl | exact congrArg Value.bool (by simp) | exact congrArg (Value.int .i64) hwr) | ((first | (go_at_call 24; refine (HSA.out _ (by repeat (first | assumption | exact Nw.refl _ | refine Nw.alloc ?_ _ | refine Nw.drew ?_ | refine Nw.drewN2 ?_ _ | (refine Nw.trans ?_ (by assumption))))).mono ?_; rintro e' w5' ⟨rfl, hn5⟩) | (go_at_call 30; refine (HCE.out _ (by repeat (first | assumption | exact Nw.refl _ | refine Nw.alloc ?_ _ | refine Nw.drew ?_ | refine Nw.drewN2 ?_ _ | (refine Nw.trans ?_ (by assumption))))).mono ?_; rintro e' w5' ⟨rfl, rfl⟩)); (refine hK.out _ _ ?_ ?_ <;> first | (solve | (repeat (first | assumption | exact Nw.refl _ | refine Nw.alloc ?_ _ | refine Nw.drew ?_ | refine Nw.drewN2 ?_ _ | (refine Nw.trans ?_ (by assumption))))) | ((conv => lhs; whnf) <;> exact rfl) | exact rfl | exact congrArg Value.bool (by simp) | exact congrArg (Value.int .i64) hwr)))
        try simp only [Act.put, List.setIfInBounds_toArray, List.set_cons_zero, List.set_cons_succ, Nat.reduceAdd, List.length_nil, List.length_cons, List.nil_append, List.cons_append]
      iterate 1
        refine Stairs.is (.bool false) ?_ ?_
        · intro x wR hR hd K hK
          simp only [Act.put, List.setIfInBounds_toArray, List.set_cons_zero, List.set_cons_succ, Nat.reduceAdd, List.length_nil, List.length_cons, List.nil_append, List.cons_append, Say.ok] at hK ⊢
          clear hd
          change Hid _ at hK
          obtain ⟨hcR, hfR, hzR⟩ := nwc hR
          first | (refine wanted_yes ?_ ?_; rfl) | (refine wanted_no ?_ ?_; rfl)
          first | (refine hK.out _ _ ?_ ?_ <;> first | (solve | (repeat (first | assumption | exact Nw.refl _ | refine Nw.alloc ?_ _ | refine Nw.drew ?_ | refine Nw.drewN2 ?_ _ | (refine Nw.trans ?_ (by assumption))))) | ((conv => lhs; whnf) <;> exact rfl) | exact rfl | exact congrArg Value.bool (by simp) | exact congrArg (Value.int .i64) hwr) | (go_step; first | (refine hK.out _ _ ?_ ?_ <;> first | (solve | (repeat (first | assumption | exact Nw.refl _ | refine Nw.alloc ?_ _ | refine Nw.drew ?_ | refine Nw.drewN2 ?_ _ | (refine Nw.trans ?_ (by assumption))))) | ((conv => lhs; whnf) <;> exact rfl) | exact rfl | exact congrArg Value.bool (by simp) | exact congrArg (Value.int .i64) hwr) | ((first | (go_at_call 24; refine (HSA.out _ (by repeat (first | assumption | exact Nw.refl _ | refine Nw.alloc ?_ _ | refine Nw.drew ?_ | refine Nw.drewN2 ?_ _ | (refine Nw.trans ?_ (by assumption))))).mono ?_; rintro e' w5' ⟨rfl, hn5⟩) | (go_at_call 30; refine (HCE.out _ (by repeat (first | assumption | exact Nw.refl _ | refine Nw.alloc ?_ _ | refine Nw.drew ?_ | refine Nw.drewN2 ?_ _ | (refine Nw.trans ?_ (by assumption))))).mono ?_; rintro e' w5' ⟨rfl, rfl⟩)); (refine hK.out _ _ ?_ ?_ <;> first | (solve | (repeat (first | assumption | exact Nw.refl _ | refine Nw.alloc ?_ _ | refine Nw.drew ?_ | refine Nw.drewN2 ?_ _ | (refine Nw.trans ?_ (by assumption))))) | ((conv => lhs; whnf) <;> exact rfl) | exact rfl | exact congrArg Value.bool (by simp) | exact congrArg (Value.int .i64) hwr)))
        try simp only [Act.put, List.setIfInBounds_toArray, List.set_cons_zero, List.set_cons_succ, Nat.reduceAdd, List.length_nil, List.length_cons, List.nil_append, List.cons_append]
      iterate 1
        refine Stairs.is ?_ ?_ ?_
        rotate_left 1
        · intro x wR hR hd K hK
          simp only [Act.put, List.setIfInBounds_toArray, List.set_cons_zero, List.set_cons_succ, Nat.reduceAdd, List.length_nil, List.length_cons, List.nil_append, List.cons_append, Say.ok] at hK ⊢
          clear hd
          change Hid _ at hK
          obtain ⟨hcR, hfR, hzR⟩ := nwc hR
          first | (refine wanted_yes ?_ ?_; rfl) | (refine wanted_no ?_ ?_; rfl)
          first | (refine hK.out _ _ ?_ ?_ <;> first | (solve | (repeat (first | assumption | exact Nw.refl _ | refine Nw.alloc ?_ _ | refine Nw.drew ?_ | refine Nw.drewN2 ?_ _ | (refine Nw.trans ?_ (by assumption))))) | ((conv => lhs; whnf) <;> exact rfl) | exact rfl | exact congrArg Value.bool (by simp) | exact congrArg (Value.int .i64) hwr) | (go_step; first | (refine hK.out _ _ ?_ ?_ <;> first | (solve | (repeat (first | assumption | exact Nw.refl _ | refine Nw.alloc ?_ _ | refine Nw.drew ?_ | refine Nw.drewN2 ?_ _ | (refine Nw.trans ?_ (by assumption))))) | ((conv => lhs; whnf) <;> exact rfl) | exact rfl | exact congrArg Value.bool (by simp) | exact congrArg (Value.int .i64) hwr) | ((first | (go_at_call 24; refine (HSA.out _ (by repeat (first | assumption | exact Nw.refl _ | refine Nw.alloc ?_ _ | refine Nw.drew ?_ | refine Nw.drewN2 ?_ _ | (refine Nw.trans ?_ (by assumption))))).mono ?_; rintro e' w5' ⟨rfl, hn5⟩) | (go_at_call 30; refine (HCE.out _ (by repeat (first | assumption | exact Nw.refl _ | refine Nw.alloc ?_ _ | refine Nw.drew ?_ | refine Nw.drewN2 ?_ _ | (refine Nw.trans ?_ (by assumption))))).mono ?_; rintro e' w5' ⟨rfl, rfl⟩)); (refine hK.out _ _ ?_ ?_ <;> first | (solve | (repeat (first | assumption | exact Nw.refl _ | refine Nw.alloc ?_ _ | refine Nw.drew ?_ | refine Nw.drewN2 ?_ _ | (refine Nw.trans ?_ (by assumption))))) | ((conv => lhs; whnf) <;> exact rfl) | exact rfl | exact congrArg Value.bool (by simp) | exact congrArg (Value.int .i64) hwr)))
        try simp only [Act.put, List.setIfInBounds_toArray, List.set_cons_zero, List.set_cons_succ, Nat.reduceAdd, List.length_nil, List.length_cons, List.nil_append, List.cons_append]
      refine Stairs.nil ?_
      intro x wR hR hx
      clear hx
      obtain ⟨hcR, hfR, hzR⟩ := nwc hR
      clear hcR hfR hzR x0' x1' y0 y1
      have HFR := hid (HFI.out.nw hR)
      go_wp2
      go_roundw
      case rel => exact ⟨k + 1, by omega, by go_num, _, HFR.out⟩
      case measure => simp [intOf]; omega
    · obtain rfl : k = es.length := by omega
      have hdk : decide (es.length < es.length) = false := decide_eq_false (by omega)
      have HSP := hid HLC.out.stop
      have HNE := hid HLC.out.ne
      have HN1 := hid (fun w' (M : Nat) (h : HSt w4 c [some (stA es pl es.length)] pk M w') (hM : M ≤ 1000000000000) => h.next (by simp) hM 0 (next1_no HSP.out HNE.out))
      have h1 := hid (HN1.out _ _ hst (by omega))
      have hzb := hst.base
      clear hst
      go_upto_region 17 with (first
        | (go_at_call 36; refine h1.out.mono ?_; rintro e' w7 ⟨v7, rfl, hs7, hst7⟩; obtain ⟨q7, c7, rfl, _⟩ := i64s_open hs7)
        | fail)
      have h2 := hid (HN1.out _ _ (hst7.nw ((Nw.refl w7).alloc (.cells #[.int .u64 0, .slice q7 ([] : List Int).length c7] 38))) (by omega))
      clear h1 hst7 hs7
      go_upto_region 18 with (first
        | (go_at_call 36; refine h2.out.mono ?_; rintro e' w8 ⟨v8, rfl, hs8, hst8⟩; obtain ⟨q8, c8, rfl, _⟩ := i64s_open hs8)
        | fail)
      have hst9 := hst8.nw ((Nw.refl w8).alloc (.cells #[.int .u64 0, .slice q8 ([] : List Int).length c8] 38))
      clear h2 hst8 hs8
      generalize w8.alloc (.cells #[.int .u64 0, .slice q8 ([] : List Int).length c8] 38) = w9 at *
      have hb9 := hst9.base
      have r0 := hb9.cell t0'
      have r1 := hb9.cell t1'
      have gr := Nat.lt_of_lt_of_le g9'' hb9.size
      obtain ⟨j, hj⟩ : ∃ j : Nat, q % ((es.length : Int) + 2) = j := ⟨(q % ((es.length : Int) + 2)).toNat, by have := Int.emod_nonneg q (show (es.length : Int) + 2 ≠ 0 by omega); omega⟩
      have hjl : j < es.length + 2 := by have := Int.emod_lt_of_pos q (show (0 : Int) < (es.length : Int) + 2 by omega); omega
      have hdz : (es.length : Int) + 2 ≠ 0 := by omega
      by_cases hjle : j ≤ es.length
      · have h3 := hid (hst9.seek (by simp) (by rw [HCB.out]; omega) 0 j (by omega) (seek1 (by rw [HF0.out]; exact HLC.out.walk j hjle)))
        have hd1 : decide ((es.length : Int) < (j : Int)) = false := decide_eq_false (by omega)
        have hd1n : decide (es.length < j) = false := decide_eq_false (by omega)
        clear hst9 hb9
        go_upto_region 20 with (first
          | (go_at_call 37; refine h3.out.mono ?_; rintro e' w10 ⟨rfl, hst10⟩)
          | fail)
        have HIX := hid (show Calls Try.prog 31 #[.pointer (some ⟨c.a, 0, none⟩), .int .i64 0] w10 fun e w' => e = .returned (.tuple #[.int .i64 j, .bool true]) ∧ w10 = w' by
          have := hst10.idx 0
          rw [fnd1] at this
          rw [← stA_idx es pl j]
          exact this)
        have hb10 := hst10.base
        have s0 := hb10.cell t0'
        have s1 := hb10.cell t1'
        have gs := Nat.lt_of_lt_of_le g9'' hb10.size
        have HB := hid hb10
        clear hst10 r0 r1 gr h3 hb10
        go_wp2_with (first
          | (go_at_call 31; refine HIX.out.mono ?_; rintro e' w11 ⟨rfl, rfl⟩)
          | (go_at_call 33; refine (awake_c _).mono ?_; rintro e' w12 ⟨rfl, hn12⟩)
          | fail)
        go_ret
        exact ⟨rfl, HW4.out.trans (HB.out.trans hn12)⟩
      · have h3 := hid (hst9.seek (by simp) (by rw [HCB.out]; omega) 0 j (by omega) (seek1_no (by rw [HF0.out]; exact HLC.out.walk_end j (by omega)) HNE.out))
        have hd1 : decide ((es.length : Int) < (j : Int)) = true := decide_eq_true (by omega)
        have hd1n : decide (es.length < j) = true := decide_eq_true (by omega)
        clear hst9 hb9
        go_upto_region 20 with (first
          | (go_at_call 37; refine h3.out.mono ?_; rintro e' w10 ⟨rfl, hst10⟩)
          | fail)
        have HIX := hid (show Calls Try.prog 31 #[.pointer (some ⟨c.a, 0, none⟩), .int .i64 0] w10 fun e w' => e = .returned (.tuple #[.int .i64 (es.length : Int), .bool true]) ∧ w10 = w' by
          have := hst10.idx 0
          rw [fnd1] at this
          rw [← stA_idx es pl es.length]
          exact this)
        have hb10 := hst10.base
        have s0 := hb10.cell t0'
        have s1 := hb10.cell t1'
        have gs := Nat.lt_of_lt_of_le g9'' hb10.size
        have HB := hid hb10
        clear hst10 r0 r1 gr h3 hb10
        go_wp2_with (first
          | (go_at_call 31; refine HIX.out.mono ?_; rintro e' w11 ⟨rfl, rfl⟩)
          | (go_at_call 33; refine (awake_c _).mono ?_; rintro e' w12 ⟨rfl, hn12⟩)
          | fail)
        go_ret
        exact ⟨rfl, HW4.out.trans (HB.out.trans hn12)⟩
end Hp
end Go.Proofs.Ytdihoedehmfgfaa
