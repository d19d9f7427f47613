/- Joined texts.
Calls on heads that come in, as data. No program in sight. No condition.
HeadsOrder walked. No condition but lengths.
HeadsApart walked. No condition but lengths.
-/
import Derived.Test.YtdihoedehmfgfaaBase
import Derived.Deep.Slices
import Derived.Test.YtdihoedehmfgfaaJHk
import Derived.Test.YtdihoedehmfgfaaSpoil
set_option linter.unusedSimpArgs false
set_option linter.unusedVariables false
namespace Go.Proofs.Ytdihoedehmfgfaa
open Go.ChangeShapes Go.WideShapes Go.ChangeAt Go.RowKit
namespace Hp
/-- A call: what, of which head, a place. -/
structure Ha where
  m : Int
  id : Int
  k : Int
def noHa : Ha := ⟨0, 0, 0⟩
def ha (l : List Ha) (i : Nat) : Ha := l.getD i noHa
structure HaOk (x : Ha) : Prop where
  m : 0 ≤ x.m ∧ x.m ≤ 255
  id : -9223372036854775808 ≤ x.id ∧ x.id ≤ 9223372036854775807
  k : -9223372036854775808 ≤ x.k ∧ x.k ≤ 9223372036854775807
def HaC (w : World) (p : Option Addr) (l : List Ha) : Prop := ∀ i, i < l.length → ∃ (b off : Nat), p = some ⟨b, off, none⟩ ∧ HaOk (ha l i) ∧ w.cell? ⟨b, off + i * 3, none⟩ = some (.int .u8 (ha l i).m) ∧ w.cell? ⟨b, off + i * 3 + 1, none⟩ = some (.int .i64 (ha l i).id) ∧ w.cell? ⟨b, off + i * 3 + 2, none⟩ = some (.int .i64 (ha l i).k)
def Has (w : World) (v : Value) (l : List Ha) : Prop := ∃ p cap, v = .slice p l.length cap ∧ l.length ≤ cap ∧ cap ≤ maxLen ∧ (p = none → cap = 0) ∧ HaC w p l
section
variable {H : Type} {enc : TypeId × Value → H} {P : Program}
theorem open_hacts {t e : TypeId} {f0 f1 f2 : Field} {W : World} {base : Nat} {v : Value} {d : DataW H} {p : List MemPlace} (ht : P.underlying t = some (.slice e)) (he : P.underlying e = some (.struct #[f0, f1, f2]))
    (ce : P.cellsOf e = 3) (o0 : f0.offset = 0) (o1 : f1.offset = 1) (o2 : f2.offset = 2) (c0 : P.cellsOf f0.type = 1) (c1 : P.cellsOf f1.type = 1) (c2 : P.cellsOf f2.type = 1)
    (h0 : P.underlying f0.type = some (.int .u8)) (h1 : P.underlying f1.type = some (.int .i64)) (h2 : P.underlying f2.type = some (.int .i64))
    (hval : Value.okWide P W .any base t v) (hj : DataW.Trod enc P W 0 (fun _ => true) true t v d p) : ∃ l : List Ha, Has W v l := by
  obtain ⟨a0, len, cap, rfl⟩ := okWide_slice ht hval
  obtain ⟨fuel, hf⟩ := hj
  simp only [Value.cells] at hf
  rcases Deep.open_slice ht hf with ⟨hcs, hx⟩ | ⟨a, len', cap', m, n, D, Pl, hcs, hb, hl, hm, hmm, hx, hel⟩
  · simp at hcs
    obtain ⟨rfl, rfl, rfl⟩ := hcs
    exact ⟨[], none, 0, rfl, Nat.le_refl _, Nat.zero_le _, fun _ => rfl, fun i hi => by cases hi⟩
  · simp at hcs
    obtain ⟨rfl, rfl, rfl⟩ := hcs
    simp only [if_true] at hmm
    subst hmm
    have each : ∀ i, i < len → ∃ x : Ha, HaOk x ∧ W.cell? (a.add (i * 3)) = some (.int .u8 x.m) ∧ W.cell? (a.add (i * 3 + 1)) = some (.int .i64 x.id) ∧ W.cell? (a.add (i * 3 + 2)) = some (.int .i64 x.k) := by
      intro i hi
      obtain ⟨cs', k1, k2⟩ := hel i (by omega)
      rw [ce] at k1
      obtain ⟨_, hlen, hcell⟩ := World.cells?_some k1
      obtain ⟨xs, k, hk, hxy, _, hxl, hg⟩ := DataW.trod_struct he k2
      match xs, hxl, cs', hlen with
      | [y0, y1, y2], _, [v0, v1, v2], _ =>
        have g0 := hg 0 f0 rfl
        have g1 := hg 1 f1 rfl
        have g2 := hg 2 f2 rfl
        simp [o0, o1, o2, c0, c1, c2] at g0 g1 g2
        have e0 := hcell 0 (by omega)
        have e1 := hcell 1 (by omega)
        have e2 := hcell 2 (by omega)
        rw [Deep.add_add] at e0 e1 e2
        obtain ⟨z0, hz0, _, hw0⟩ := DataW.trod_int h0 g0
        obtain ⟨z1, hz1, _, hw1⟩ := DataW.trod_int h1 g1
        obtain ⟨z2, hz2, _, hw2⟩ := DataW.trod_int h2 g2
        have b0 := bounds_u8 hw0
        have b1 := bounds_i64 hw1
        have b2 := bounds_i64 hw2
        simp at hz0 hz1 hz2
        refine ⟨⟨z0, z1, z2⟩, ⟨b0, b1, b2⟩, ?_, ?_, ?_⟩
        · rw [← hz0]; simpa using e0
        · rw [← hz1]; simpa using e1
        · rw [← hz2]; simpa using e2
    have : ∃ l : List Ha, l.length = len ∧ ∀ i, i < len → HaOk (ha l i) ∧ W.cell? (a.add (i * 3)) = some (.int .u8 (ha l i).m) ∧ W.cell? (a.add (i * 3 + 1)) = some (.int .i64 (ha l i).id) ∧ W.cell? (a.add (i * 3 + 2)) = some (.int .i64 (ha l i).k) := by
      haveI : Inhabited Ha := ⟨noHa⟩
      obtain ⟨g, hg⟩ := Deep.choose_lt each
      refine ⟨(List.range len).map g, by simp, fun i hi => ?_⟩
      have e : ha ((List.range len).map g) i = g i := by simp [ha, hi]
      rw [e]
      exact hg i hi
    obtain ⟨l, hll, hal⟩ := this
    subst hll
    refine ⟨l, some a, m, rfl, hl, hm, (fun h => by cases h), fun i hi => ?_⟩
    obtain ⟨k0, k1, k2, k3⟩ := hal i hi
    obtain ⟨_, z, _⟩ := hal 0 (by omega)
    have ea := addr_add_of_cell (w := W) (a := a) (v := .int .u8 (ha l 0).m) (by simpa using z)
    rw [ea] at k1 k2 k3
    rw [addr_add] at k1 k2 k3
    exact ⟨a.block, a.off, by rw [← ea], k0, k1, k2, k3⟩
end
end Hp
end Go.Proofs.Ytdihoedehmfgfaa
namespace Go.Proofs.Ytdihoedehmfgfaa
open Go.ChangeShapes Go.WideShapes Go.ChangeAt Go.RowKit
namespace Hp
open Go.Proofs.Ytdihoedehmfgfaa.Rec (none_ get i64s_open)
open Go.Proofs.Ytdihoedehmfgfaa.Sc (recP SI Ok place rec_in miss)
open Go.Proofs.Ytdihoedehmfgfaa.Sum (Hands8)
open Go.Proofs.Ytdihoedehmfgfaa.Tr (T Es tm ids namesP Evs EC Small box2 lt_alloc same_c makeP make_c3 make_may make_small make_len pqr u16s u16s_length)
open Go.Proofs.Ytdihoedehmfgfaa.Lg (headerP recsX headR encP encode_c make_tb make_enc enc_len9 head_same head_enc may_names may_fine)
open Go.Proofs.Ytdihoedehmfgfaa.Src (rt)
theorem fnd1 (z : HS) : fnd [some z] (0 : Int) = some z := rfl
theorem next1 {b : List UInt8} {r : Nat} {p pk : Int} {z z' : HS} (h : nxt b r p z = (z', 0)) : nextP b r p [some z] pk 0 = (([some z'], max pk (cells [some z'] : Int)), ((z'.t, z'.ids), 0)) := by
  unfold nextP
  rw [fnd1]
  dsimp only
  rw [h, if_neg (show ¬ ((0 : Int) ≠ 0) by decide)]
  rfl
theorem next1_no {b : List UInt8} {r : Nat} {p pk E : Int} {z : HS} (h : nxt b r p z = (z, E)) (hE : E ≠ 0) : nextP b r p [some z] pk 0 = (([some z], pk), ((0, []), E)) := by
  unfold nextP
  rw [fnd1]
  dsimp only
  rw [h, if_pos hE]
theorem seek1 {b : List UInt8} {r : Nat} {p f pk : Int} {z z' : HS} {k : Nat} (h : walk b r p k (hs0 f) = (z', 0)) : seekP b r p f [some z] pk 0 k = (([some z'], max pk (cells [some z'] : Int)), 0) := by
  unfold seekP
  rw [fnd1]
  dsimp only
  rw [if_neg (by omega), Int.toNat_natCast, h, if_neg (show ¬ ((0 : Int) ≠ 0) by decide)]
  rfl
theorem seek1_no {b : List UInt8} {r : Nat} {p f pk E : Int} {z z' : HS} {k : Nat} (h : walk b r p k (hs0 f) = (z', E)) (hE : E ≠ 0) : seekP b r p f [some z] pk 0 k = (([some z], pk), E) := by
  unfold seekP
  rw [fnd1]
  dsimp only
  rw [if_neg (by omega), Int.toNat_natCast, h, if_pos hE]
theorem make_is (start : Int) (ns : List Nat) : ∃ es, makeP start ns = (⟨pqr, es⟩ : T) := ⟨_, rfl⟩
set_option maxRecDepth 20000 in
set_option maxHeartbeats 3200000 in
theorem order_walk (start : Int) (h0 : 0 ≤ start) (h64 : start < 18446744073709551616) (v1 vs : Value) (ns : List Nat) (sc : List Int) (q : Int) (w : World) (hv1 : Sl w v1 (u16s ns)) (hns : ∀ n ∈ ns, n ≤ 65535) (hs : Sl w vs (i64s sc)) (hls : sc.length ≤ 1000000000) (hx : ∀ x ∈ sc, -9223372036854775808 ≤ x ∧ x ≤ 9223372036854775807) (hq0 : 0 ≤ q) (hq1 : q ≤ 255) :
    Calls Try.prog 9 #[.int .u64 start, v1, vs, .int .u8 q] w fun e w' => e = .returned (.bool true) ∧ Nw w w' := by
  have HM1 := hid (make_c3 start h0 h64 v1 ns w hv1 hns)
  have HMM := hid (make_may start h0 ns)
  have HSM := hid (make_small start h0 ns)
  have HLE := make_len start h0 ns
  have HTB := hid (make_tb start h0 ns)
  have hme := make_enc start h0 ns
  have hm9 := enc_len9 _ (make_may start h0 ns)
  obtain ⟨es, hE⟩ := make_is start ns
  have HSL := hid (fun w' (h : Nw w w') => hs.nw h)
  obtain ⟨p5, k5, rfl, _, _, _, _⟩ := hv1.open (u16s_length ns)
  obtain ⟨ps, ks, rfl, _, _, _, _⟩ := hs.open (i64s_length sc)
  rw [hE] at HM1 HMM HSM HLE HTB hme hm9
  dsimp only at HM1 HLE HTB
  clear hv1 hns hE hs
  have HEE := hid (fun (x y : Value) w' (h1 : Sl w' x (Lx.strs pqr)) (h2 : Evs w' y es) => encode_c x y ⟨pqr, es⟩ w' h1 h2 HSM.out (Nat.le_trans HLE (by decide)) HTB.out)
  have hem : encP (⟨pqr, es⟩ : T) = headerP pqr ++ recsX es := by unfold Lg.encP; rw [if_pos HMM.out]
  have hpq : namesP pqr = true := may_names HMM.out
  have hlog : LogD (encP (⟨pqr, es⟩ : T)) (encP (⟨pqr, es⟩ : T)).length 3 es (place pqr es) 13 := by
    rw [hem]
    exact enc_log (may_fine HMM.out HTB.out) (by decide) (by decide)
  have hfull : headR (encP (⟨pqr, es⟩ : T)) 5 = (pqr, ((place pqr es 0 : Nat) : Int), 0) := by rw [head_same, hem]; exact head_enc _ _ hpq
  have HIL := hid (show ∀ i, i < es.length → (ids es i).length ≤ 1000000000 by obtain ⟨_, _, q, _⟩ := HSM.out; exact q)
  clear hem hpq HMM
  generalize hemE : encP (⟨pqr, es⟩ : T) = em at *
  generalize place pqr es = pl at *
  have HNE := hid (fun (v : Value) w' (hv : Bytes w' v em) (hw : Nw w w') => show Calls Try.prog 25 #[v, .slice ps sc.length ks, .int .i64 (-1), .int .i64 2] w' (Made w' em sc em.length pqr (pl 0 : Nat) 2) by
    have := poolnew_c v (.slice ps sc.length ks) em sc (-1) 2 w' hv (HSL.out w' hw) (by omega) hls hx
    rw [show rt em.length (-1) = em.length by unfold Src.rt; rw [if_neg (by omega)]] at this
    refine this.mono fun e w1 h => ?_
    unfold NewO at h
    rw [if_neg (by decide), List.take_of_length_le (Nat.le_refl _), show miss em em.length = 5 by unfold miss; rw [if_neg (by omega)], hfull] at h
    exact h)
  have HLOG := hid hlog
  have hlen : es.length ≤ 60 := HLE
  clear hlog hfull hemE HLE
  obtain ⟨N, hN⟩ : ∃ N, em.length = N := ⟨_, rfl⟩
  rw [hN] at hme hm9
  have HN := hid hN
  clear hN
  go_enter Try.func9, Try.ntmps9
  go_upto_region 2 with (first
    | (go_at_call 18; refine HM1.out.mono ?_; rintro e w2 ⟨q1, c1, q2, c2, rfl, hs1, he1, hn2⟩)
    | fail)
  obtain ⟨t0, t1⟩ := box2 w2 (.slice q1 3 c1) (.slice q2 es.length c2) 34
  have hn3 := hn2.alloc (.cells #[.slice q1 3 c1, .slice q2 es.length c2] 34)
  have hnB := (Nw.refl w2).alloc (.cells #[.slice q1 3 c1, .slice q2 es.length c2] 34)
  have g9 := lt_alloc w2 (.cells #[.slice q1 3 c1, .slice q2 es.length c2] 34)
  replace hs1 := hs1.nw hnB
  replace he1 := he1.nw hnB
  clear hnB hn2
  generalize w2.alloc (.cells #[.slice q1 3 c1, .slice q2 es.length c2] 34) = w3 at *
  generalize w2.heap.size = g9' at *
  have HEN := hid (HEE.out _ _ w3 hs1 he1)
  clear HEE
  have hw3 := hn3
  clear hn3
  go_upto_region 5 with (first
    | (go_at_call 20; refine HEN.out.mono ?_; rintro e' w4 ⟨v4, rfl, hown4, hn4⟩; obtain ⟨p4, c4, rfl, _⟩ := hown4.sl.open (n := N) ((u8s_length _).trans HN.out))
    | (go_at_call 25; refine (HNE.out _ _ hown4.sl (hw3.trans hn4)).mono ?_; rintro e' w5 hmk; obtain ⟨c, rfl, hst, cb, csc, cr, cnm, cf, cs⟩ := made_st hmk)
    | fail)
  have HLC := hid (show LogD c.b c.r c.nm.length es pl 13 by rw [cb, cr, cnm]; exact HLOG.out)
  have HF0 := hid (show hs0 c.first = stA es pl 0 by rw [cf]; rfl)
  have HCB := hid (show c.b.length = N by rw [cb]; exact HN.out)
  have h1 := hid (hst.open (by decide) (hs' := [some (stA es pl 0)]) (peak' := max 0 (cells [some (stA es pl 0)] : Int)) (id := 0) (er := 0) (by rw [cs, HF0.out]; rfl))
  have hs1' := hs1.nw hn4
  have HE := hid (he1.nw hn4)
  have t0' := hn4.cell t0
  have t1' := hn4.cell t1
  have g9'' := Nat.lt_of_lt_of_le g9 hn4.size
  have HW4 := hid (hw3.trans hn4)
  clear hst hmk cb csc cr cnm cf cs HNE HLOG HEN hown4 hs1 he1 hs1' t0 t1 g9 hw3 hn4 HSL HN
  go_upto_region 6 with (first
    | (go_at_call 26; refine h1.out.mono ?_; rintro e' w6 ⟨rfl, hst⟩)
    | fail)
  have hb6 := hst.base
  have u0 := hb6.cell t0'
  have u1 := hb6.cell t1'
  have gu := Nat.lt_of_lt_of_le g9'' hb6.size
  have HST0 := hid (show ∃ pk, HSt w4 c [some (stA es pl 0)] pk (2000 + 100 * 0) w6 from ⟨_, hst⟩)
  obtain ⟨pe, ce, epe, hce1, hce2, hce3, hec⟩ := HE.out
  obtain ⟨rfl, rfl⟩ : q2 = pe ∧ c2 = ce := by
    have := epe
    simp only [Value.slice.injEq] at this
    exact ⟨this.1, this.2.2⟩
  unfold maxLen at hce2
  have HEC := hid hec
  clear hst h1 hb6 hec epe
  go_wp2_with fail
  go_loopw [14, 15, 16, 17, 18, 19, 52] (fun _ _ _ _ _ _ i wr => ∃ k : Nat, k ≤ es.length ∧ i = .int .i64 k ∧ ∃ pk, HSt w4 c [some (stA es pl k)] pk (2000 + 100 * k) wr) (fun _ _ _ _ _ _ i _ => es.length - (intOf i).toNat)
  case atStart => exact ⟨0, Nat.zero_le _, rfl, HST0.out⟩
  case round =>
    obtain ⟨k, hk, rfl, pk, hst⟩ := hrel
    by_cases hlt : k < es.length
    · have hdk : decide (k < es.length) = true := decide_eq_true hlt
      obtain ⟨b1, o1, vi, rfl, d0, d1, hsl⟩ := HEC.out k hlt
      replace d0 := hst.base.cell d0
      replace d1 := hst.base.cell d1
      obtain ⟨qi, ci, rfl, _, _, _, _⟩ := i64s_open hsl
      have gb := World.block_lt_of_cell? wr _ d0
      simp only at gb
      have hil := HIL.out k hlt
      have HSTP := hid (HLC.out.step k hlt)
      have HSI := hid (stA_idx es pl k)
      have HSS := hid (stA_succ es pl k)
      go_upto_region 9 with fail
      obtain ⟨x0, x1⟩ := box2 wr (.int .u64 (tm es k)) (.slice qi (ids es k).length ci) 38
      have hnX := (Nw.refl wr).alloc (.cells #[.int .u64 (tm es k), .slice qi (ids es k).length ci] 38)
      have gX := lt_alloc wr (.cells #[.int .u64 (tm es k), .slice qi (ids es k).length ci] 38)
      have hst2 := hst.q.keep hnX wr.heap.size (Nat.le_refl _) gX
      have HS7 := hid hsl
      clear d0 d1 gb hst hsl
      generalize wr.alloc (.cells #[.int .u64 (tm es k), .slice qi (ids es k).length ci] 38) = w7 at *
      generalize wr.heap.size = gx at *
      have HIX := hid (show Calls Try.prog 31 #[.pointer (some ⟨c.a, 0, none⟩), .int .i64 0] w7 fun e w' => e = .returned (.tuple #[.int .i64 k, .bool true]) ∧ w7 = w' by
        have := hst2.st.idx 0
        rw [fnd1] at this
        rw [← HSI.out]
        exact this)
      have HNX := hid (hst2.next (by simp) (by omega) 0 (next1 HSTP.out))
      have HB7 := hid hst2.base
      clear hst2
      rw [HSS.out] at HNX
      dsimp only at HNX
      go_upto_region 12 with (first
        | (go_at_call 31; refine HIX.out.mono ?_; rintro e' w8 ⟨rfl, rfl⟩)
        | fail)
      go_upto_region 13 with (first
        | (go_at_call 36; refine HNX.out.mono ?_; rintro e' w8 ⟨v8, rfl, hs8, hst8, hm8⟩; obtain ⟨q8, c8, rfl, _⟩ := i64s_open hs8)
        | fail)
      obtain ⟨y0, y1⟩ := box2 w8 (.int .u64 (tm es k)) (.slice q8 (ids es k).length c8) 38
      have hnY := (Nw.refl w8).alloc (.cells #[.int .u64 (tm es k), .slice q8 (ids es k).length c8] 38)
      have gY := lt_alloc w8 (.cells #[.int .u64 (tm es k), .slice q8 (ids es k).length c8] 38)
      have x0' := hnY.cell (Mods.cell hm8 x0 (fun z => z (Or.inr rfl)))
      have x1' := hnY.cell (Mods.cell hm8 x1 (fun z => z (Or.inr rfl)))
      have gX' := Nat.lt_of_lt_of_le (Nat.lt_of_lt_of_le gX hm8.size) hnY.size
      have hst9 := hst8.nw hnY
      have HS9 := hid (HS7.out.nw hst9.base)
      have HV9 := hid (hs8.nw hnY)
      clear x0 x1 gX hm8 hst8 hs8 HNX HIX
      generalize w8.alloc (.cells #[.int .u64 (tm es k), .slice q8 (ids es k).length c8] 38) = w9 at *
      generalize w8.heap.size = gy at *
      have HSA := hid (fun w' (hn : Nw w9 w') => show Calls Try.prog 24 #[.agg #[.int .u64 (tm es k), .slice q8 (ids es k).length c8], .agg #[.int .u64 (tm es k), .slice qi (ids es k).length ci]] w' (Gives (.bool true) w') by
        have := same_c _ _ (tm es k) (tm es k) (ids es k) (ids es k) w' (HV9.out.nw hn) (HS9.out.nw hn)
        rwa [decide_eq_true ⟨rfl, rfl⟩] at this)
      have HCE := hid (fun w' (hn : Nw w9 w') => (hst9.st.nw hn).cells (by simp) (q := 3 + ((ids es k).length : Int)) (by simp [cells, cellsOf]))
      have HFI := hid (show HSt w4 c [some (stA es pl (k + 1))] _ (2000 + 100 * (k + 1)) w9 from by
        have := hst9.st
        rw [← HSS.out] at this
        exact this.more (by omega))
      clear hst9
      generalize (ids es k).length = li at *
      generalize tm es k = te at *
      have hwr : IntKind.i64.wrap (3 + (li : Int)) = 3 + (li : Int) := by rw [IntKind.wrap_i64]; omega
      refine wp_region_stairs (by kernel_rfl) (by kernel_rfl) (by kernel_rfl) ?_
      iterate 14
        refine Stairs.is ?_ ?_ ?_
        rotate_left 1
        · intro x wR hR hd K hK
          simp only [Act.put, List.setIfInBounds_toArray, List.set_cons_zero, List.set_cons_succ, Nat.reduceAdd, List.length_nil, List.length_cons, List.nil_append, List.cons_append, Say.ok] at hK ⊢
          clear hd
          change Hid _ at hK
          obtain ⟨hcR, hfR, hzR⟩ := nwc hR
          first | (refine wanted_yes ?_ ?_; rfl) | (refine wanted_no ?_ ?_; rfl)
          first | (refine hK.out _ _ ?_ ?_ <;> first | (solve | (repeat (first | assumption | exact Nw.refl _ | refine Nw.alloc ?_ _ | refine Nw.drew ?_ | refine Nw.drewN2 ?_ _ | (refine Nw.trans ?_ (by assumption))))) | ((conv => lhs; whnf) <;> exact rfl) | exact rfl | exact congrArg Value.bool (by simp) | exact congrArg (Value.int .i64) hwr) | (go_step; first | (refine hK.out _ _ ?_ ?_ <;> first | (solve | (repeat (first | assumption | exact Nw.refl _ | refine Nw.alloc ?_ _ | refine Nw.drew ?_ | refine Nw.drewN2 ?_ _ | (refine Nw.trans ?_ (by assumption))))) | ((conv => lhs; whnf) <;> exact rfl) | exact rfl | exact congrArg Value.bool (by simp) | exact congrArg (Value.int .i64) hwr) | ((first | (go_at_call 24; refine (HSA.out _ (by repeat (first | assumption | exact Nw.refl _ | refine Nw.alloc ?_ _ | refine Nw.drew ?_ | refine Nw.drewN2 ?_ _ | (refine Nw.trans ?_ (by assumption))))).mono ?_; rintro e' w5' ⟨rfl, hn5⟩) | (go_at_call 30; refine (HCE.out _ (by repeat (first | assumption | exact Nw.refl _ | refine Nw.alloc ?_ _ | refine Nw.drew ?_ | refine Nw.drewN2 ?_ _ | (refine Nw.trans ?_ (by assumption))))).mono ?_; rintro e' w5' ⟨rfl, rfl⟩)); (refine hK.out _ _ ?_ ?_ <;> first | (solve | (repeat (first | assumption | exact Nw.refl _ | refine Nw.alloc ?_ _ | refine Nw.drew ?_ | refine Nw.drewN2 ?_ _ | (refine Nw.trans ?_ (by assumption))))) | ((conv => lhs; whnf) <;> exact rfl) | exact rfl | exact congrArg Value.bool (by simp) | exact congrArg (Value.int .i64) hwr)))
        try simp only [Act.put, List.setIfInBounds_toArray, List.set_cons_zero, List.set_cons_succ, Nat.reduceAdd, List.length_nil, List.length_cons, List.nil_append, List.cons_append]
      iterate 1
        refine Stairs.is (.int .i64 (3 + (li : Int))) ?_ ?_
        · intro x wR hR hd K hK
          simp only [Act.put, List.setIfInBounds_toArray, List.set_cons_zero, List.set_cons_succ, Nat.reduceAdd, List.length_nil, List.length_cons, List.nil_append, List.cons_append, Say.ok] at hK ⊢
          clear hd
          change Hid _ at hK
          obtain ⟨hcR, hfR, hzR⟩ := nwc hR
          first | (refine wanted_yes ?_ ?_; rfl) | (refine wanted_no ?_ ?_; rfl)
          first | (refine hK.out _ _ ?_ ?_ <;> first | (solve | (repeat (first | assumption | exact Nw.refl _ | refine Nw.alloc ?_ _ | refine Nw.drew ?_ | refine Nw.drewN2 ?_ _ | (refine Nw.trans ?_ (by assumption))))) | ((conv => lhs; whnf) <;> exact rfl) | exact rfl | exact congrArg Value.bool (by simp) | exact congrArg (Value.int .i64) hwr) | (go_step; first | (refine hK.out _ _ ?_ ?_ <;> first | (solve | (repeat (first | assumption | exact Nw.refl _ | refine Nw.alloc ?_ _ | refine Nw.drew ?_ | refine Nw.drewN2 ?_ _ | (refine Nw.trans ?_ (by assumption))))) | ((conv => lhs; whnf) <;> exact rfl) | exact rfl | exact congrArg Value.bool (by simp) | exact congrArg (Value.int .i64) hwr) | ((first | (go_at_call 24; refine (HSA.out _ (by repeat (first | assumption | exact Nw.refl _ | refine Nw.alloc ?_ _ | refine Nw.drew ?_ | refine Nw.drewN2 ?_ _ | (refine Nw.trans ?_ (by assumption))))).mono ?_; rintro e' w5' ⟨rfl, hn5⟩) | (go_at_call 30; refine (HCE.out _ (by repeat (first | assumption | exact Nw.refl _ | refine Nw.alloc ?_ _ | refine Nw.drew ?_ | refine Nw.drewN2 ?_ _ | (refine Nw.trans ?_ (by assumption))))).mono ?_; rintro e' w5' ⟨rfl, rfl⟩)); (refine hK.out _ _ ?_ ?_ <;> first | (solve | (repeat (first | assumption | exact Nw.refl _ | refine Nw.alloc ?_ _ | refine Nw.drew ?_ | refine Nw.drewN2 ?_ _ | (refine Nw.trans ?_ (by assumption))))) | ((conv => lhs; whnf) <;> exact rfl) | exact rfl | exact congrArg Value.bool (by simp) | exact congrArg (Value.int .i64) hwr)))
        try simp only [Act.put, List.setIfInBounds_toArray, List.set_cons_zero, List.set_cons_succ, Nat.reduceAdd, List.length_nil, List.length_cons, List.nil_append, List.cons_append]
      iterate 1
        refine Stairs.is (.bool false) ?_ ?_
        · intro x wR hR hd K hK
          simp only [Act.put, List.setIfInBounds_toArray, List.set_cons_zero, List.set_cons_succ, Nat.reduceAdd, List.length_nil, List.length_cons, List.nil_append, List.cons_append, Say.ok] at hK ⊢
          clear hd
          change Hid _ at hK
          obtain ⟨hcR, hfR, hzR⟩ := nwc hR
          first | (refine wanted_yes ?_ ?_; rfl) | (refine wanted_no ?_ ?_; rfl)
          first | (refine hK.out _ _ ?_ ?_ <;> first | (solve | (repeat (first | assumption | exact Nw.refl _ | refine Nw.alloc ?_ _ | refine Nw.drew ?_ | refine Nw.drewN2 ?_ _ | (refine Nw.trans ?_ (by assumption))))) | ((conv => lhs; whnf) <;> exact rfl) | exact rfl | exact congrArg Value.bool (by simp) | exact congrArg (Value.int .i64) hwr) | (go_step; first | (refine hK.out _ _ ?_ ?_ <;> first | (solve | (repeat (first | assumption | exact Nw.refl _ | refine Nw.alloc ?_ _ | refine Nw.drew ?_ | refine Nw.drewN2 ?_ _ | (refine Nw.trans ?_ (by assumption))))) | ((conv => lhs; whnf) <;> exact rfl) | exact rfl | exact congrArg Value.bool (by simp) | exact congrArg (Value.int .i64) hwr) | ((first | (go_at_call 24; refine (HSA.out _ (by repeat (first | assumption | exact Nw.refl _ | refine Nw.alloc ?_ _ | refine Nw.drew ?_ | refine Nw.drewN2 ?_ _ | (refine Nw.trans ?_ (by assumption))))).mono ?_; rintro e' w5' ⟨rfl, hn5⟩) | (go_at_call 30; refine (HCE.out _ (by repeat (first | assumption | exact Nw.refl _ | refine Nw.alloc ?_ _ | refine Nw.drew ?_ | refine Nw.drewN2 ?_ _ | (refine Nw.trans ?_ (by assumption))))).mono ?_; rintro e' w5' ⟨rfl, rfl⟩)); (refine hK.out _ _ ?_ ?_ <;> first | (solve | (repeat (first | assumption | exact Nw.refl _ | refine Nw.alloc ?_ _ | refine Nw.drew ?_ | refine Nw.drewN2 ?_ _ | (refine Nw.trans ?_ (by assumption))))) | ((conv => lhs; whnf) <;> exact rfl) | exact rfl | exact congrArg Value.bool (by simp) | exact congrArg (Value.int .i64) hwr)))
        try simp only [Act.put, List.setIfInBounds_toArray, List.set_cons_zero, List.set_cons_succ, Nat.reduceAdd, List.length_nil, List.length_cons, List.nil_append, List.cons_append]
      iterate 1
        refine Stairs.is ?_ ?_ ?_
        rotate_left 1
        · intro x wR hR hd K hK
          simp only [Act.put, List.setIfInBounds_toArray, List.set_cons_zero, List.set_cons_succ, Nat.reduceAdd, List.length_nil, List.length_cons, List.nil_append, List.cons_append, Say.ok] at hK ⊢
          clear hd
          change Hid _ at hK
          obtain ⟨hcR, hfR, hzR⟩ := nwc hR
          first | (refine wanted_yes ?_ ?_; rfl) | (refine wanted_no ?_ ?_; rfl)
          first | (refine hK.out _ _ ?_ ?_ <;> first | (solve | (repeat (first | assumption | exact Nw.refl _ | refine Nw.alloc ?_ _ | refine Nw.drew ?_ | refine Nw.drewN2 ?_ _ | (refine Nw.trans ?_ (by assumption))))) | ((conv => lhs; whnf) <;> exact rfl) | exact rfl | exact congrArg Value.bool (by simp) | exact congrArg (Value.int .i64) hwr) | (go_step; first | (refine hK.out _ _ ?_ ?_ <;> first | (solve | (repeat (first | assumption | exact Nw.refl _ | refine Nw.alloc ?_ _ | refine Nw.drew ?_ | refine Nw.drewN2 ?_ _ | (refine Nw.trans ?_ (by assumption))))) | ((conv => lhs; whnf) <;> exact rfl) | exact rfl | exact congrArg Value.bool (by simp) | exact congrArg (Value.int .i64) hwr) | ((first | (go_at_call 24; refine (HSA.out _ (by repeat (first | assumption | exact Nw.refl _ | refine Nw.alloc ?_ _ | refine Nw.drew ?_ | refine Nw.drewN2 ?_ _ | (refine Nw.trans ?_ (by assumption))))).mono ?_; rintro e' w5' ⟨rfl, hn5⟩) | (go_at_call 30; refine (HCE.out _ (by repeat (first | assumption | exact Nw.refl _ | refine Nw.alloc ?_ _ | refine Nw.drew ?_ | refine Nw.drewN2 ?_ _ | (refine Nw.trans ?_ (by assumption))))).mono ?_; rintro e' w5' ⟨rfl, rfl⟩)); (refine hK.out _ _ ?_ ?_ <;> first | (solve | (repeat (first | assumption | exact Nw.refl _ | refine Nw.alloc ?_ _ | refine Nw.drew ?_ | refine Nw.drewN2 ?_ _ | (refine Nw.trans ?_ (by assumption))))) | ((conv => lhs; whnf) <;> exact rfl) | exact rfl | exact congrArg Value.bool (by simp) | exact congrArg (Value.int .i64) hwr)))
        try simp only [Act.put, List.setIfInBounds_toArray, List.set_cons_zero, List.set_cons_succ, Nat.reduceAdd, List.length_nil, List.length_cons, List.nil_append, List.cons_append]
      refine Stairs.nil ?_
      intro x wR hR hx
      clear hx
      obtain ⟨hcR, hfR, hzR⟩ := nwc hR
      clear hcR hfR hzR x0' x1' y0 y1
      have HFR := hid (HFI.out.nw hR)
      go_wp2
      go_roundw
      case rel => exact ⟨k + 1, by omega, by go_num, _, HFR.out⟩
      case measure => simp [intOf]; omega
    · obtain rfl : k = es.length := by omega
      have hdk : decide (es.length < es.length) = false := decide_eq_false (by omega)
      have HSP := hid HLC.out.stop
      have HNE := hid HLC.out.ne
      have HN1 := hid (fun w' (M : Nat) (h : HSt w4 c [some (stA es pl es.length)] pk M w') (hM : M ≤ 1000000000000) => h.next (by simp) hM 0 (next1_no HSP.out HNE.out))
      have h1 := hid (HN1.out _ _ hst (by omega))
      have hzb := hst.base
      clear hst
      go_upto_region 17 with (first
        | (go_at_call 36; refine h1.out.mono ?_; rintro e' w7 ⟨v7, rfl, hs7, hst7⟩; obtain ⟨q7, c7, rfl, _⟩ := i64s_open hs7)
        | fail)
      have h2 := hid (HN1.out _ _ (hst7.nw ((Nw.refl w7).alloc (.cells #[.int .u64 0, .slice q7 ([] : List Int).length c7] 38))) (by omega))
      clear h1 hst7 hs7
      go_upto_region 18 with (first
        | (go_at_call 36; refine h2.out.mono ?_; rintro e' w8 ⟨v8, rfl, hs8, hst8⟩; obtain ⟨q8, c8, rfl, _⟩ := i64s_open hs8)
        | fail)
      have hst9 := hst8.nw ((Nw.refl w8).alloc (.cells #[.int .u64 0, .slice q8 ([] : List Int).length c8] 38))
      clear h2 hst8 hs8
      generalize w8.alloc (.cells #[.int .u64 0, .slice q8 ([] : List Int).length c8] 38) = w9 at *
      have hb9 := hst9.base
      have r0 := hb9.cell t0'
      have r1 := hb9.cell t1'
      have gr := Nat.lt_of_lt_of_le g9'' hb9.size
      obtain ⟨j, hj⟩ : ∃ j : Nat, q % ((es.length : Int) + 2) = j := ⟨(q % ((es.length : Int) + 2)).toNat, by have := Int.emod_nonneg q (show (es.length : Int) + 2 ≠ 0 by omega); omega⟩
      have hjl : j < es.length + 2 := by have := Int.emod_lt_of_pos q (show (0 : Int) < (es.length : Int) + 2 by omega); omega
      have hdz : (es.length : Int) + 2 ≠ 0 := by omega
      by_cases hjle : j ≤ es.length
      · have h3 := hid (hst9.seek (by simp) (by rw [HCB.out]; omega) 0 j (by omega) (seek1 (by rw [HF0.out]; exact HLC.out.walk j hjle)))
        have hd1 : decide ((es.length : Int) < (j : Int)) = false := decide_eq_false (by omega)
        have hd1n : decide (es.length < j) = false := decide_eq_false (by omega)
        clear hst9 hb9
        go_upto_region 20 with (first
          | (go_at_call 37; refine h3.out.mono ?_; rintro e' w10 ⟨rfl, hst10⟩)
          | fail)
        have HIX := hid (show Calls Try.prog 31 #[.pointer (some ⟨c.a, 0, none⟩), .int .i64 0] w10 fun e w' => e = .returned (.tuple #[.int .i64 j, .bool true]) ∧ w10 = w' by
          have := hst10.idx 0
          rw [fnd1] at this
          rw [← stA_idx es pl j]
          exact this)
        have hb10 := hst10.base
        have s0 := hb10.cell t0'
        have s1 := hb10.cell t1'
        have gs := Nat.lt_of_lt_of_le g9'' hb10.size
        have HB := hid hb10
        clear hst10 r0 r1 gr h3 hb10
        go_wp2_with (first
          | (go_at_call 31; refine HIX.out.mono ?_; rintro e' w11 ⟨rfl, rfl⟩)
          | (go_at_call 33; refine (awake_c _).mono ?_; rintro e' w12 ⟨rfl, hn12⟩)
          | fail)
        go_ret
        exact ⟨rfl, HW4.out.trans (HB.out.trans hn12)⟩
      · have h3 := hid (hst9.seek (by simp) (by rw [HCB.out]; omega) 0 j (by omega) (seek1_no (by rw [HF0.out]; exact HLC.out.walk_end j (by omega)) HNE.out))
        have hd1 : decide ((es.length : Int) < (j : Int)) = true := decide_eq_true (by omega)
        have hd1n : decide (es.length < j) = true := decide_eq_true (by omega)
        clear hst9 hb9
        go_upto_region 20 with (first
          | (go_at_call 37; refine h3.out.mono ?_; rintro e' w10 ⟨rfl, hst10⟩)
          | fail)
        have HIX := hid (show Calls Try.prog 31 #[.pointer (some ⟨c.a, 0, none⟩), .int .i64 0] w10 fun e w' => e = .returned (.tuple #[.int .i64 (es.length : Int), .bool true]) ∧ w10 = w' by
          have := hst10.idx 0
          rw [fnd1] at this
          rw [← stA_idx es pl es.length]
          exact this)
        have hb10 := hst10.base
        have s0 := hb10.cell t0'
        have s1 := hb10.cell t1'
        have gs := Nat.lt_of_lt_of_le g9'' hb10.size
        have HB := hid hb10
        clear hst10 r0 r1 gr h3 hb10
        go_wp2_with (first
          | (go_at_call 31; refine HIX.out.mono ?_; rintro e' w11 ⟨rfl, rfl⟩)
          | (go_at_call 33; refine (awake_c _).mono ?_; rintro e' w12 ⟨rfl, hn12⟩)
          | fail)
        go_ret
        exact ⟨rfl, HW4.out.trans (HB.out.trans hn12)⟩
end Hp
end Go.Proofs.Ytdihoedehmfgfaa
namespace Go.Proofs.Ytdihoedehmfgfaa
open Go.ChangeShapes Go.WideShapes Go.ChangeAt Go.RowKit
namespace Hp
open Go.Proofs.Ytdihoedehmfgfaa.Rec (none_ get i64s_open)
open Go.Proofs.Ytdihoedehmfgfaa.Sc (recP SI Ok place rec_in miss)
open Go.Proofs.Ytdihoedehmfgfaa.Sum (Hands8)
open Go.Proofs.Ytdihoedehmfgfaa.Tr (T Es tm ids namesP Evs EC Small box2 lt_alloc same_c makeP make_c3 make_may make_small make_len pqr u16s u16s_length)
open Go.Proofs.Ytdihoedehmfgfaa.Lg (headerP recsX headR encP encode_c make_tb make_enc enc_len9 head_same head_enc may_names may_fine)
open Go.Proofs.Ytdihoedehmfgfaa.Src (rt)
/-! ### Plain: the head at 0 is not touched -/
def At0 (z : HS) (hs : List (Option HS)) : Prop := hs[0]? = some (some z)
theorem At0.fnd {z : HS} {hs : List (Option HS)} (h : At0 z hs) : fnd hs 0 = some z := by
  rw [show (0 : Int) = ((0 : Nat) : Int) from rfl, fnd_at, h]; rfl
theorem At0.put {z x : HS} {hs : List (Option HS)} (h : At0 z hs) : At0 z (put hs x) := by
  unfold At0 at *
  cases hs with
  | nil => cases h
  | cons y r =>
    obtain rfl : y = some z := by simpa using h
    unfold Hp.put
    split
    · show ((some z :: r).set (free (some z :: r)) (some x))[0]? = _
      simp only [free, List.set_cons_succ]; rfl
    · rfl
theorem At0.set {z : HS} {hs : List (Option HS)} (h : At0 z hs) {j : Nat} (hj : j ≠ 0) (y : Option HS) : At0 z (hs.set j y) := by
  unfold At0 at *
  rw [List.getElem?_set_ne hj]; exact h
theorem fnd_ne {hs : List (Option HS)} {id : Int} {x : HS} (h : fnd hs id = some x) (hne : id ≠ 0) : id.toNat ≠ 0 := by
  unfold fnd at h
  split at h
  · omega
  · cases h
theorem At0.openP {z x : HS} {hs : List (Option HS)} {size pk : Int} (h : At0 z hs) : At0 z (openP size hs pk x).1.1 ∧ (openP size hs pk x).1.1.length ≤ hs.length + 1 := by
  unfold Hp.openP
  split
  · exact ⟨h, Nat.le_succ _⟩
  · exact ⟨h.put, put_len _ _⟩
theorem At0.cloneP {z : HS} {hs : List (Option HS)} {size pk id : Int} (h : At0 z hs) : At0 z (cloneP size hs pk id).1.1 ∧ (cloneP size hs pk id).1.1.length ≤ hs.length + 1 := by
  unfold Hp.cloneP
  cases Hp.fnd hs id with
  | none => exact ⟨h, Nat.le_succ _⟩
  | some x => exact h.openP
theorem At0.nextP {z : HS} {hs : List (Option HS)} {b : List UInt8} {r : Nat} {p pk id : Int} (h : At0 z hs) (hne : id ≠ 0) : At0 z (nextP b r p hs pk id).1.1 ∧ (nextP b r p hs pk id).1.1.length ≤ hs.length + 1 := by
  unfold Hp.nextP
  cases hx : Hp.fnd hs id with
  | none => exact ⟨h, Nat.le_succ _⟩
  | some x =>
    dsimp only
    split
    · exact ⟨h, Nat.le_succ _⟩
    · exact ⟨h.set (fnd_ne hx hne) _, by rw [List.length_set]; omega⟩
theorem At0.seekP {z : HS} {hs : List (Option HS)} {b : List UInt8} {r : Nat} {p f pk id k : Int} (h : At0 z hs) (hne : id ≠ 0) : At0 z (seekP b r p f hs pk id k).1.1 ∧ (seekP b r p f hs pk id k).1.1.length ≤ hs.length + 1 := by
  unfold Hp.seekP
  cases hx : Hp.fnd hs id with
  | none => exact ⟨h, Nat.le_succ _⟩
  | some x =>
    dsimp only
    split
    · exact ⟨h, Nat.le_succ _⟩
    split
    · exact ⟨h, Nat.le_succ _⟩
    · exact ⟨h.set (fnd_ne hx hne) _, by rw [List.length_set]; omega⟩
theorem At0.closeP {z : HS} {hs : List (Option HS)} {id : Int} (h : At0 z hs) (hne : id ≠ 0) : At0 z (closeP hs id).1 ∧ (closeP hs id).1.length ≤ hs.length + 1 := by
  unfold Hp.closeP
  cases hx : Hp.fnd hs id with
  | none => exact ⟨h, Nat.le_succ _⟩
  | some x => exact ⟨h.set (fnd_ne hx hne) _, by show (hs.set _ none).length ≤ _; rw [List.length_set]; omega⟩
theorem next0_ok {b : List UInt8} {r : Nat} {p pk : Int} {z z' : HS} {hs : List (Option HS)} (h0 : At0 z hs) (h : nxt b r p z = (z', 0)) : nextP b r p hs pk 0 = ((hs.set 0 (some z'), max pk (cells (hs.set 0 (some z')) : Int)), ((z'.t, z'.ids), 0)) := by
  unfold nextP
  rw [h0.fnd]
  dsimp only
  rw [h, if_neg (show ¬ ((0 : Int) ≠ 0) by decide)]
  rfl
theorem next0_no {b : List UInt8} {r : Nat} {p pk E : Int} {z : HS} {hs : List (Option HS)} (h0 : At0 z hs) (h : nxt b r p z = (z, E)) (hE : E ≠ 0) : nextP b r p hs pk 0 = ((hs, pk), ((0, []), E)) := by
  unfold nextP
  rw [h0.fnd]
  dsimp only
  rw [h, if_pos hE]
/-! ### A pool whose head at 0 stands still -/
def A0 (W : World) (c : Cf) (z : HS) (M N : Nat) (w : World) : Prop := ∃ hs pk, HSt W c hs pk N w ∧ At0 z hs ∧ hs.length ≤ M
section
variable {W w w' : World} {c : Cf} {z : HS} {M N : Nat}
theorem A0.base (h : A0 W c z M N w) : Nw W w := by obtain ⟨_, _, h, _⟩ := h; exact h.base
theorem A0.nw (h : A0 W c z M N w) (hn : Nw w w') : A0 W c z M N w' := by obtain ⟨hs, pk, h, q⟩ := h; exact ⟨hs, pk, h.nw hn, q⟩
theorem A0.more {M' N' : Nat} (h : A0 W c z M N w) (hM : M ≤ M') (hN : N ≤ N') : A0 W c z M' N' w := by obtain ⟨hs, pk, h, q1, q2⟩ := h; exact ⟨hs, pk, h.more hN, q1, by omega⟩
theorem A0.clone (h : A0 W c z M N w) (hM : M ≤ 90000) (id : Int) : Calls Try.prog 28 #[.pointer (some ⟨c.a, 0, none⟩), .int .i64 id] w fun e w' => (∃ a b, e = .returned (.tuple #[.int .i64 a, .int .i64 b])) ∧ A0 W c z (M + 1) N w' := by
  obtain ⟨hs, pk, h, q1, q2⟩ := h
  refine (h.clone (by omega) (j := id) rfl).mono ?_
  rintro e w1 ⟨rfl, h2⟩
  exact ⟨⟨_, _, rfl⟩, _, _, h2, q1.cloneP.1, Nat.le_trans q1.cloneP.2 (by omega)⟩
theorem A0.next (h : A0 W c z M N w) (hM : M ≤ 90000) (hN : N ≤ 1000000000000) (id : Int) (hne : id ≠ 0) : Calls Try.prog 36 #[.pointer (some ⟨c.a, 0, none⟩), .int .i64 id] w fun e w' => (∃ a v b, e = .returned (.tuple #[.agg #[.int .u64 a, v], .int .i64 b])) ∧ A0 W c z (M + 1) (N + 100) w' := by
  obtain ⟨hs, pk, h, q1, q2⟩ := h
  refine (h.next (by omega) hN id rfl).mono ?_
  rintro e w1 ⟨v, rfl, _, h2⟩
  exact ⟨⟨_, _, _, rfl⟩, _, _, h2, (q1.nextP hne).1, Nat.le_trans (q1.nextP hne).2 (by omega)⟩
theorem A0.seek (h : A0 W c z M N w) (hM : M ≤ 90000) (hN : N + 100 * (c.b.length + 2) ≤ 1000000000000) (id k : Int) (hk : k ≤ 9223372036854775807) (hne : id ≠ 0) : Calls Try.prog 37 #[.pointer (some ⟨c.a, 0, none⟩), .int .i64 id, .int .i64 k] w fun e w' => (∃ a, e = .returned (.int .i64 a)) ∧ A0 W c z (M + 1) (N + 100 * (c.b.length + 2)) w' := by
  obtain ⟨hs, pk, h, q1, q2⟩ := h
  refine (h.seek (by omega) hN id k hk rfl).mono ?_
  rintro e w1 ⟨rfl, h2⟩
  exact ⟨⟨_, rfl⟩, _, _, h2, (q1.seekP hne).1, Nat.le_trans (q1.seekP hne).2 (by omega)⟩
theorem A0.close (h : A0 W c z M N w) (id : Int) (hne : id ≠ 0) : Calls Try.prog 27 #[.pointer (some ⟨c.a, 0, none⟩), .int .i64 id] w fun e w' => (∃ a, e = .returned (.bool a)) ∧ A0 W c z (M + 1) N w' := by
  obtain ⟨hs, pk, h, q1, q2⟩ := h
  refine (h.close (j := id) rfl).mono ?_
  rintro e w1 ⟨rfl, h2⟩
  exact ⟨⟨_, rfl⟩, _, _, h2, (q1.closeP hne).1, Nat.le_trans (q1.closeP hne).2 (by omega)⟩
theorem A0.count (h : A0 W c z M N w) : ∃ q : Nat, Calls Try.prog 29 #[.pointer (some ⟨c.a, 0, none⟩)] w fun e w' => e = .returned (.int .i64 (q : Int)) ∧ w = w' := by
  obtain ⟨hs, pk, h, q1, q2⟩ := h
  exact ⟨_, h.count rfl⟩
theorem A0.idx (h : A0 W c z M N w) : Calls Try.prog 31 #[.pointer (some ⟨c.a, 0, none⟩), .int .i64 0] w fun e w' => e = .returned (.tuple #[.int .i64 z.idx, .bool true]) ∧ w = w' := by
  obtain ⟨hs, pk, h, q1, q2⟩ := h
  have := h.idx 0
  rw [q1.fnd] at this
  exact this
end
set_option maxRecDepth 20000 in
set_option maxHeartbeats 3200000 in
theorem apart_walk (start : Int) (h0 : 0 ≤ start) (h64 : start < 18446744073709551616) (v1 vs va : Value) (ns : List Nat) (sc : List Int) (q : Int) (al : List Ha) (w : World) (hv1 : Sl w v1 (u16s ns)) (hns : ∀ n ∈ ns, n ≤ 65535) (hs : Sl w vs (i64s sc)) (hls : sc.length ≤ 1000000000) (hx : ∀ x ∈ sc, -9223372036854775808 ≤ x ∧ x ≤ 9223372036854775807) (hq0 : 0 ≤ q) (hq1 : q ≤ 255) (ha : Has w va al) :
    Calls Try.prog 10 #[.int .u64 start, v1, vs, .int .u8 q, va] w fun e w' => e = .returned (.bool true) ∧ Nw w w' := by
  obtain ⟨pa, ka, rfl, hka, hkm, hk0, hac⟩ := ha
  unfold maxLen at hkm
  have HAC := hid hac
  clear hac
  have HM1 := hid (fun w' (h : Nw w w') => make_c3 start h0 h64 v1 ns w' (hv1.nw h) hns)
  have HMM := hid (make_may start h0 ns)
  have HSM := hid (make_small start h0 ns)
  have HLE := make_len start h0 ns
  have HTB := hid (make_tb start h0 ns)
  have hme := make_enc start h0 ns
  have hm9 := enc_len9 _ (make_may start h0 ns)
  obtain ⟨es, hE⟩ := make_is start ns
  have HSL := hid (fun w' (h : Nw w w') => hs.nw h)
  obtain ⟨p5, k5, rfl, _, _, _, _⟩ := hv1.open (u16s_length ns)
  obtain ⟨ps, ks, rfl, _, _, _, _⟩ := hs.open (i64s_length sc)
  rw [hE] at HM1 HMM HSM HLE HTB hme hm9
  dsimp only at HM1 HLE HTB
  clear hv1 hns hE hs
  have HEE := hid (fun (x y : Value) w' (h1 : Sl w' x (Lx.strs pqr)) (h2 : Evs w' y es) => encode_c x y ⟨pqr, es⟩ w' h1 h2 HSM.out (Nat.le_trans HLE (by decide)) HTB.out)
  have hem : encP (⟨pqr, es⟩ : T) = headerP pqr ++ recsX es := by unfold Lg.encP; rw [if_pos HMM.out]
  have hpq : namesP pqr = true := may_names HMM.out
  have hlog : LogD (encP (⟨pqr, es⟩ : T)) (encP (⟨pqr, es⟩ : T)).length 3 es (place pqr es) 13 := by
    rw [hem]
    exact enc_log (may_fine HMM.out HTB.out) (by decide) (by decide)
  have hfull : headR (encP (⟨pqr, es⟩ : T)) 5 = (pqr, ((place pqr es 0 : Nat) : Int), 0) := by rw [head_same, hem]; exact head_enc _ _ hpq
  have HIL := hid (show ∀ i, i < es.length → (ids es i).length ≤ 1000000000 by obtain ⟨_, _, q, _⟩ := HSM.out; exact q)
  clear hem hpq HMM
  generalize hemE : encP (⟨pqr, es⟩ : T) = em at *
  generalize place pqr es = pl at *
  have HNE := hid (fun (v : Value) w' (hv : Bytes w' v em) (hw : Nw w w') => show Calls Try.prog 25 #[v, .slice ps sc.length ks, .int .i64 (-1), .int .i64 9] w' (Made w' em sc em.length pqr (pl 0 : Nat) 9) by
    have := poolnew_c v (.slice ps sc.length ks) em sc (-1) 9 w' hv (HSL.out w' hw) (by omega) hls hx
    rw [show rt em.length (-1) = em.length by unfold Src.rt; rw [if_neg (by omega)]] at this
    refine this.mono fun e w1 h => ?_
    unfold NewO at h
    rw [if_neg (by decide), List.take_of_length_le (Nat.le_refl _), show miss em em.length = 5 by unfold miss; rw [if_neg (by omega)], hfull] at h
    exact h)
  have HLOG := hid hlog
  have hlen : es.length ≤ 60 := HLE
  clear hlog hfull hemE HLE
  obtain ⟨N, hN⟩ : ∃ N, em.length = N := ⟨_, rfl⟩
  rw [hN] at hme hm9
  have HN := hid hN
  clear hN
  by_cases hal : (300 : Int) < (al.length : Int)
  · have hd300 : decide ((300 : Int) < (al.length : Int)) = true := decide_eq_true hal
    have hd300n : decide (300 < al.length) = true := decide_eq_true (by omega)
    clear HEE HNE HM1
    go_enter Try.func10, Try.ntmps10
    go_wp2_with (first
      | (go_at_call 33; refine (awake_c _).mono ?_; rintro e' w12 ⟨rfl, hn12⟩)
      | fail)
    go_ret
    exact ⟨rfl, hn12⟩
  have hd300 : decide ((300 : Int) < (al.length : Int)) = false := decide_eq_false hal
  have hd300n : decide (300 < al.length) = false := decide_eq_false (by omega)
  have hal3 : al.length ≤ 300 := by omega
  clear hal
  go_enter Try.func10, Try.ntmps10
  go_upto_region 4 with (first
    | (go_at_call 18; refine (HM1.out _ (Nw.refl _)).mono ?_; rintro e w2 ⟨q1, c1, q2, c2, rfl, hs1, he1, hn2⟩)
    | fail)
  obtain ⟨t0, t1⟩ := box2 w2 (.slice q1 3 c1) (.slice q2 es.length c2) 34
  have hn3 := hn2.alloc (.cells #[.slice q1 3 c1, .slice q2 es.length c2] 34)
  have hnB := (Nw.refl w2).alloc (.cells #[.slice q1 3 c1, .slice q2 es.length c2] 34)
  have g9 := lt_alloc w2 (.cells #[.slice q1 3 c1, .slice q2 es.length c2] 34)
  replace hs1 := hs1.nw hnB
  replace he1 := he1.nw hnB
  clear hnB hn2
  generalize w2.alloc (.cells #[.slice q1 3 c1, .slice q2 es.length c2] 34) = w3 at *
  generalize w2.heap.size = g9' at *
  have HEN := hid (HEE.out _ _ w3 hs1 he1)
  clear HEE
  have hw3 := hn3
  clear hn3
  go_upto_region 7 with (first
    | (go_at_call 20; refine HEN.out.mono ?_; rintro e' w4 ⟨v4, rfl, hown4, hn4⟩; obtain ⟨p4, c4, rfl, _⟩ := hown4.sl.open (n := N) ((u8s_length _).trans HN.out))
    | (go_at_call 25; refine (HNE.out _ _ hown4.sl (hw3.trans hn4)).mono ?_; rintro e' w5 hmk; obtain ⟨c, rfl, hst, cb, csc, cr, cnm, cf, cs⟩ := made_st hmk)
    | fail)
  have HLC := hid (show LogD c.b c.r c.nm.length es pl 13 by rw [cb, cr, cnm]; exact HLOG.out)
  have HF0 := hid (show hs0 c.first = stA es pl 0 by rw [cf]; rfl)
  have CS := hid cs
  have HCB := hid (show c.b.length = N by rw [cb]; exact HN.out)
  have h1 := hid (hst.open (by decide) (hs' := [some (stA es pl 0)]) (peak' := max 0 (cells [some (stA es pl 0)] : Int)) (id := 0) (er := 0) (by rw [cs, HF0.out]; rfl))
  have hs1' := hs1.nw hn4
  have HE := hid (he1.nw hn4)
  have t0' := hn4.cell t0
  have t1' := hn4.cell t1
  have g9'' := Nat.lt_of_lt_of_le g9 hn4.size
  have HW4 := hid (hw3.trans hn4)
  clear hst hmk cb csc cr cnm cf cs HNE HLOG HEN hown4 hs1 he1 hs1' t0 t1 g9 hw3 hn4 HSL HN
  go_upto_region 8 with (first
    | (go_at_call 26; refine h1.out.mono ?_; rintro e' w6 ⟨rfl, hst⟩)
    | fail)
  have hb6 := hst.base
  have u0 := hb6.cell t0'
  have u1 := hb6.cell t1'
  have gu := Nat.lt_of_lt_of_le g9'' hb6.size
  obtain ⟨pe, ce, epe, hce1, hce2, hce3, hec⟩ := HE.out
  obtain ⟨rfl, rfl⟩ : q2 = pe ∧ c2 = ce := by
    have := epe
    simp only [Value.slice.injEq] at this
    exact ⟨this.1, this.2.2⟩
  unfold maxLen at hce2
  have HEC := hid hec
  clear h1 hec epe
  obtain ⟨j, hj⟩ : ∃ j : Nat, q % ((es.length : Int) + 1) = j := ⟨(q % ((es.length : Int) + 1)).toNat, by have := Int.emod_nonneg q (show (es.length : Int) + 1 ≠ 0 by omega); omega⟩
  have hjl : j < es.length + 1 := by have := Int.emod_lt_of_pos q (show (0 : Int) < (es.length : Int) + 1 by omega); omega
  have hdz : (es.length : Int) + 1 ≠ 0 := by omega
  have h2 := hid (hst.seek (by simp) (by rw [HCB.out]; omega) 0 j (by omega) (seek1 (by rw [HF0.out]; exact HLC.out.walk j (by omega))))
  clear hst hb6
  go_upto_region 11 with (first
    | (go_at_call 37; refine h2.out.mono ?_; rintro e' w7 ⟨rfl, hst⟩)
    | fail)
  have h3 := hid (hst.clone (by simp) (j := 0) (hs' := [some (stA es pl j), some (stA es pl j)]) (peak' := max _ (cells [some (stA es pl j), some (stA es pl j)] : Int)) (id := 1) (er := 0) (by unfold cloneP; rw [fnd1]; dsimp only; rw [CS.out]; rfl))
  clear hst h2 u0 u1 gu
  go_upto_region 14 with (first
    | (go_at_call 28; refine h3.out.mono ?_; rintro e' w8 ⟨rfl, hst⟩)
    | fail)
  have HZ0 := hid (show A0 w4 c (stA es pl j) 2 (2000 + 1000200 * (0 + 1)) w8 from ⟨_, _, hst.more (by rw [HCB.out]; omega), rfl, Nat.le_refl _⟩)
  clear hst h3
  go_wp2_with fail
  go_loopw [19, 20, 21, 80] (fun _ _ _ i wr => ∃ k : Nat, k ≤ al.length ∧ i = .int .i64 k ∧ A0 w4 c (stA es pl j) (2 + k) (2000 + 1000200 * (k + 1)) wr) (fun _ _ _ i _ => al.length - (intOf i).toNat)
  case atStart => exact ⟨0, Nat.zero_le _, rfl, HZ0.out⟩
  case round =>
    obtain ⟨k, hk, rfl, hst⟩ := hrel
    by_cases hlt : k < al.length
    · have hdk : decide (k < al.length) = true := decide_eq_true hlt
      obtain ⟨ba, oa, rfl, hok, d0, d1, d2⟩ := HAC.out k hlt
      have hbw := HW4.out.trans hst.base
      replace d0 := hbw.cell d0
      replace d1 := hbw.cell d1
      replace d2 := hbw.cell d2
      have gb := World.block_lt_of_cell? wr _ d0
      simp only at gb
      obtain ⟨⟨hm0, hm1⟩, ⟨hi0, hi1⟩, ⟨hkk0, hkk1⟩⟩ := hok
      generalize ha al k = x at *
      obtain ⟨xm, xi, xk⟩ := x
      dsimp only at d0 d1 d2 hm0 hm1 hi0 hi1 hkk0 hkk1
      go_upto_region 17 with fail
      have yA := heap_new wr (.cells #[.int .u8 xm, .int .i64 xi, .int .i64 xk] 72)
      have hnX := (Nw.refl wr).alloc (.cells #[.int .u8 xm, .int .i64 xi, .int .i64 xk] 72)
      have hst2 := hst.nw hnX
      clear d0 d1 d2 gb hst hbw hnX
      generalize wr.alloc (.cells #[.int .u8 xm, .int .i64 xi, .int .i64 xk] 72) = w9 at *
      generalize wr.heap.size = gx at *
      have x0 := heap_cell yA 0
      have x1 := heap_cell yA 1
      have x2 := heap_cell yA 2
      have gxx := lt_of_heap yA
      simp only [List.getElem?_toArray, List.getElem?_cons_succ, List.getElem?_cons_zero] at x0 x1 x2
      clear yA
      have HNX := hid hst2
      obtain ⟨r, hr⟩ : ∃ r : Nat, xm % 5 = r := ⟨(xm % 5).toNat, by omega⟩
      have hr5 : r < 5 := by omega
      obtain ⟨qc, hqc⟩ := hst2.count
      have HQC := hid hqc
      have HIX := hid (fun w' M N (h : A0 w4 c (stA es pl j) M N w') => show Calls Try.prog 31 #[.pointer (some ⟨c.a, 0, none⟩), .int .i64 0] w' fun e w'' => e = .returned (.tuple #[.int .i64 j, .bool true]) ∧ w' = w'' by
        rw [← stA_idx es pl j]
        exact h.idx)
      clear hqc hst2
      by_cases hid0 : xi = 0
      · subst hid0
        go_wp2
        go_roundw
        case rel => exact ⟨k + 1, by omega, by go_num, HNX.out.more (by omega) (by omega)⟩
        case measure => simp [intOf]; omega
      · have hdi : (xi == 0) = false := by simpa using hid0
        have HI0 := hid hid0
        clear hid0
        match r, hr5, hr with
        | 0, _, hr =>
          go_wp2
          go_roundw
          case rel => exact ⟨k + 1, by omega, by go_num, HNX.out.more (by omega) (by omega)⟩
          case measure => simp [intOf]; omega
        | 1, _, hr =>
          by_cases hq9 : qc = 9
          · subst hq9
            go_wp2_with (first
              | (go_at_call 29; refine HQC.out.mono ?_; rintro e' w5 ⟨rfl, rfl⟩)
              | fail)
            go_roundw
            case rel => exact ⟨k + 1, by omega, by go_num, HNX.out.more (by omega) (by omega)⟩
            case measure => simp [intOf]; omega
          · have hd9 : ((qc : Int) == 9) = false := by simp; omega
            have hd9n : (qc == 9) = false := by simpa using hq9
            have HCL := hid (HNX.out.clone (by omega) xi)
            clear hq9
            go_wp2_with (first
              | (go_at_call 29; refine HQC.out.mono ?_; rintro e' w5 ⟨rfl, rfl⟩)
              | (go_at_call 28; refine HCL.out.mono ?_; rintro e' w10 ⟨⟨a1, a2, rfl⟩, hst10⟩)
              | (go_at_call 31; refine (HIX.out _ _ _ hst10).mono ?_; rintro e' w5 ⟨rfl, rfl⟩)
              | fail)
            go_roundw
            case rel => exact ⟨k + 1, by omega, by go_num, hst10.more (by omega) (by omega)⟩
            case measure => simp [intOf]; omega
        | 2, _, hr =>
          have HCL := hid (HNX.out.next (by omega) (by omega) xi HI0.out)
          go_wp2_with (first
            | (go_at_call 36; refine HCL.out.mono ?_; rintro e' w10 ⟨⟨a1, a2, a3, rfl⟩, hst10⟩)
            | (go_at_call 31; refine (HIX.out _ _ _ hst10).mono ?_; rintro e' w5 ⟨rfl, rfl⟩)
            | fail)
          go_roundw
          case rel => exact ⟨k + 1, by omega, by go_num, hst10.more (by omega) (by omega)⟩
          case measure => simp [intOf]; omega
        | 3, _, hr =>
          have HCL := hid (HNX.out.seek (by omega) (by rw [HCB.out]; omega) xi xk (by omega) HI0.out)
          go_wp2_with (first
            | (go_at_call 37; refine HCL.out.mono ?_; rintro e' w10 ⟨⟨a1, rfl⟩, hst10⟩)
            | (go_at_call 31; refine (HIX.out _ _ _ hst10).mono ?_; rintro e' w5 ⟨rfl, rfl⟩)
            | fail)
          go_roundw
          case rel => exact ⟨k + 1, by omega, by go_num, hst10.more (by omega) (by have := HCB.out; omega)⟩
          case measure => simp [intOf]; omega
        | 4, _, hr =>
          have HCL := hid (HNX.out.close xi HI0.out)
          go_wp2_with (first
            | (go_at_call 27; refine HCL.out.mono ?_; rintro e' w10 ⟨⟨a1, rfl⟩, hst10⟩)
            | (go_at_call 31; refine (HIX.out _ _ _ hst10).mono ?_; rintro e' w5 ⟨rfl, rfl⟩)
            | fail)
          go_roundw
          case rel => exact ⟨k + 1, by omega, by go_num, hst10.more (by omega) (by omega)⟩
          case measure => simp [intOf]; omega
        | r + 5, hr5, _ => omega
    · obtain rfl : k = al.length := by omega
      have hdk : decide (al.length < al.length) = false := decide_eq_false (by omega)
      obtain ⟨hs, pk, hst, hat, hln⟩ := hst
      by_cases hje : j = es.length
      · subst hje
        have h5 := hid (hst.next (by omega) (by omega) 0 (next0_no hat HLC.out.stop HLC.out.ne))
        clear hst hat
        go_upto_region 32 with (first
          | (go_at_call 36; refine h5.out.mono ?_; rintro e' w10 ⟨v10, rfl, hs10, hst10⟩; obtain ⟨q10, c10, rfl, _⟩ := i64s_open hs10)
          | fail)
        have hst11 := hst10.nw ((Nw.refl w10).alloc (.cells #[.int .u64 0, .slice q10 ([] : List Int).length c10] 38))
        clear hst10 hs10 h5
        generalize w10.alloc (.cells #[.int .u64 0, .slice q10 ([] : List Int).length c10] 38) = w11 at *
        have hb10 := hst11.base
        have s0 := hb10.cell t0'
        have s1 := hb10.cell t1'
        have gs := Nat.lt_of_lt_of_le g9'' hb10.size
        have HB := hid hb10
        clear hst11 hb10
        go_wp2_with (first
          | (go_at_call 33; refine (awake_c _).mono ?_; rintro e' w12 ⟨rfl, hn12⟩)
          | fail)
        go_ret
        exact ⟨rfl, HW4.out.trans (HB.out.trans hn12)⟩
      · have hjlt : j < es.length := by omega
        have h5 := hid (hst.next (by omega) (by omega) 0 (next0_ok hat (HLC.out.step j hjlt)))
        rw [stA_succ] at h5
        dsimp only at h5
        have hdje : ((j : Int) == (es.length : Int)) = false := by simp; omega
        have hdjn : (j == es.length) = false := by simpa using hje
        have hdl : decide ((es.length : Int) ≤ (j : Int)) = false := decide_eq_false (by omega)
        clear hst hat
        go_upto_region 32 with (first
          | (go_at_call 36; refine h5.out.mono ?_; rintro e' w10 ⟨v10, rfl, hs10, hst10⟩; obtain ⟨q10, c10, rfl, _⟩ := i64s_open hs10)
          | fail)
        obtain ⟨y0, y1⟩ := box2 w10 (.int .u64 (tm es j)) (.slice q10 (ids es j).length c10) 38
        have hnY := (Nw.refl w10).alloc (.cells #[.int .u64 (tm es j), .slice q10 (ids es j).length c10] 38)
        have gY := lt_alloc w10 (.cells #[.int .u64 (tm es j), .slice q10 (ids es j).length c10] 38)
        have hst11 := hst10.nw hnY
        have HV := hid (hs10.nw hnY)
        clear hst10 hs10 h5 hnY
        generalize w10.alloc (.cells #[.int .u64 (tm es j), .slice q10 (ids es j).length c10] 38) = w11 at *
        generalize w10.heap.size = gy at *
        have hb10 := hst11.base
        have s0 := hb10.cell t0'
        have s1 := hb10.cell t1'
        have gs := Nat.lt_of_lt_of_le g9'' hb10.size
        obtain ⟨b1, o1, vi, rfl, d0, d1, hsl⟩ := HEC.out j hjlt
        obtain ⟨qi, ci, rfl, _, _, _, _⟩ := i64s_open hsl
        replace d0 := hb10.cell d0
        replace d1 := hb10.cell d1
        have gb := World.block_lt_of_cell? w11 _ d0
        simp only at gb
        have HSL2 := hid (hsl.nw hb10)
        have HB := hid hb10
        clear hst11 hb10 hsl
        have HSA := hid (fun w' (hn : Nw w11 w') => show Calls Try.prog 24 #[.agg #[.int .u64 (tm es j), .slice q10 (ids es j).length c10], .agg #[.int .u64 (tm es j), .slice qi (ids es j).length ci]] w' (Gives (.bool true) w') by
          have := same_c _ _ (tm es j) (tm es j) (ids es j) (ids es j) w' (HV.out.nw hn) (HSL2.out.nw hn)
          rwa [decide_eq_true ⟨rfl, rfl⟩] at this)
        generalize (ids es j).length = li at *
        generalize tm es j = te at *
        go_upto_region 34 with fail
        refine wp_region_stairs (by kernel_rfl) (by kernel_rfl) (by kernel_rfl) ?_
        iterate 15
          refine Stairs.is ?_ ?_ ?_
          rotate_left 1
          · intro x wR hR hd K hK
            simp only [Act.put, List.setIfInBounds_toArray, List.set_cons_zero, List.set_cons_succ, Nat.reduceAdd, List.length_nil, List.length_cons, List.nil_append, List.cons_append, Say.ok] at hK ⊢
            clear hd
            change Hid _ at hK
            obtain ⟨hcR, hfR, hzR⟩ := nwc hR
            first | (refine wanted_yes ?_ ?_; rfl) | (refine wanted_no ?_ ?_; rfl)
            first | (refine hK.out _ _ ?_ ?_ <;> first | (solve | (repeat (first | assumption | exact Nw.refl _ | refine Nw.alloc ?_ _ | refine Nw.drew ?_ | refine Nw.drewN2 ?_ _ | (refine Nw.trans ?_ (by assumption))))) | ((conv => lhs; whnf) <;> exact rfl) | exact rfl | exact congrArg (Value.int .u8) hq2 | exact congrArg (Value.int .u8) hq2' | exact hs5 | exact congrArg Value.bool hd0 | exact congrArg Value.bool (by simp)) | (go_step; first | (refine hK.out _ _ ?_ ?_ <;> first | (solve | (repeat (first | assumption | exact Nw.refl _ | refine Nw.alloc ?_ _ | refine Nw.drew ?_ | refine Nw.drewN2 ?_ _ | (refine Nw.trans ?_ (by assumption))))) | ((conv => lhs; whnf) <;> exact rfl) | exact rfl | exact congrArg (Value.int .u8) hq2 | exact congrArg (Value.int .u8) hq2' | exact hs5 | exact congrArg Value.bool hd0 | exact congrArg Value.bool (by simp)) | ((first | (go_at_call 24; refine (HSA.out _ (by repeat (first | assumption | exact Nw.refl _ | refine Nw.alloc ?_ _ | refine Nw.drew ?_ | refine Nw.drewN2 ?_ _ | (refine Nw.trans ?_ (by assumption))))).mono ?_; rintro e' w5' ⟨rfl, hn5⟩) | (go_at_call 33; refine (awake_c _).mono ?_; rintro e' w5' ⟨rfl, hn5⟩)); (refine hK.out _ _ ?_ ?_ <;> first | (solve | (repeat (first | assumption | exact Nw.refl _ | refine Nw.alloc ?_ _ | refine Nw.drew ?_ | refine Nw.drewN2 ?_ _ | (refine Nw.trans ?_ (by assumption))))) | ((conv => lhs; whnf) <;> exact rfl) | exact rfl | exact congrArg (Value.int .u8) hq2 | exact congrArg (Value.int .u8) hq2' | exact hs5 | exact congrArg Value.bool hd0 | exact congrArg Value.bool (by simp))))
          try simp only [Act.put, List.setIfInBounds_toArray, List.set_cons_zero, List.set_cons_succ, Nat.reduceAdd, List.length_nil, List.length_cons, List.nil_append, List.cons_append]
        refine Stairs.nil ?_
        intro x wR hR hx
        clear hx
        obtain ⟨hcR, hfR, hzR⟩ := nwc hR
        clear hcR hfR hzR
        go_wp2
        go_ret
        exact ⟨rfl, HW4.out.trans (HB.out.trans hR)⟩
end Hp
end Go.Proofs.Ytdihoedehmfgfaa
