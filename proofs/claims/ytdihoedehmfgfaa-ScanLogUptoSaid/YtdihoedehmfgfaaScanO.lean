/- ScanLog walked: it returns true. No condition but lengths. -/
import Derived.Test.YtdihoedehmfgfaaScanH
import Derived.Test.YtdihoedehmfgfaaSpoil
import Derived.Test.YtdihoedehmfgfaaJSs
set_option linter.unusedSimpArgs false
set_option linter.unusedVariables false
namespace Go.Proofs.Ytdihoedehmfgfaa
open Go.ChangeShapes Go.WideShapes Go.ChangeAt Go.RowKit
namespace Sc
open Go.Proofs.Ytdihoedehmfgfaa.Lx (strs_open)
open Go.Proofs.Ytdihoedehmfgfaa.Rec (i64s_open none_)
open Go.Proofs.Ytdihoedehmfgfaa.Sum (Hands8)
open Go.Proofs.Ytdihoedehmfgfaa.Tr (T Es tm ids Evs EC Small box2 lt_alloc makeP make_may make_len make_small make_c3 u16s u16s_length pqr same_c eqs_c)
open Go.Proofs.Ytdihoedehmfgfaa.Lg (Hd noHd headR decP recsP encP encode_c spoil_c spoilP spoil_len make_tb make_enc EvIn HandsDI decode_i)
theorem strs_apart {w : World} {v : Value} {l : List ByteArray} {B a r n : Nat} {b : List UInt8} {sc : List Int} (h : Sl w v (Lx.strs l)) (hs : SI w B a b sc r n) : Lx.strs l ≠ [] → ∀ k, v.ownBlock = some k → k ≠ a := by
  intro h0 k hk e1
  subst e1
  obtain ⟨bv, sv, hg, hb, hsv, _⟩ := hs
  obtain ⟨pb, cb, rfl, _⟩ := hb.open
  obtain ⟨ps, cs, rfl, _⟩ := hsv
  obtain ⟨p, cap, rfl, h1, h2, h3, h4⟩ := h
  have hl : 0 < (Lx.strs l).length := by
    cases l with
    | nil => exact absurd rfl h0
    | cons x r => exact Nat.succ_pos _
  obtain ⟨b1, o1, e1, hc⟩ := h4 0 hl
  subst e1
  simp only [Value.ownBlock, Option.some.injEq] at hk
  subst hk
  obtain ⟨z, _, hz⟩ := List.mem_map.1 (List.getElem_mem hl)
  rw [heap_cell hg, ← hz] at hc
  match o1, hc with
  | 0, hc => simp at hc
  | 1, hc => simp at hc
  | 2, hc => simp at hc
  | 3, hc => simp at hc
  | n + 4, hc => simp at hc
theorem Mods.cellN {S : Nat → Prop} {w w' : World} {b o : Nat} {v : Value} (h : Mods S w w') (hs : ¬ S b) (hc : w.cell? ⟨b, o, none⟩ = some v) : w'.cell? ⟨b, o, none⟩ = some v :=
  (World.cell?_of_block (a := ⟨b, o, none⟩) (h.block b (World.block_lt_of_cell? w _ hc) hs)).trans hc
theorem EvIn.evc {w w' : World} {B a : Nat} {v : Value} {es : Es} (h : EvIn w B v es) (hm : Mods (· = a) w w') (ha : a < B) : Evs w' v es := (h.mods hm (fun k hk _ e => by omega)).evs
set_option maxRecDepth 20000 in
set_option maxHeartbeats 12800000 in
theorem log_walk (start : Int) (h0 : 0 ≤ start) (h64 : start < 18446744073709551616) (vb v1 vs : Value) (b : List UInt8) (ns : List Nat) (at_ cut : Nat) (x : UInt8) (sc : List Int) (w : World) (hb : Bytes w vb b) (hlb : b.length ≤ 100000000) (hv1 : Sl w v1 (u16s ns)) (hns : ∀ n ∈ ns, n ≤ 65535) (hat : at_ ≤ 65535) (hcu : cut ≤ 65535)
    (hs : Sl w vs (i64s sc)) (hls : sc.length ≤ 1000000000) (hx : ∀ x ∈ sc, -9223372036854775808 ≤ x ∧ x ≤ 9223372036854775807) :
    Calls Try.prog 8 #[vb, .int .u64 start, v1, .int .u16 (at_ : Int), .int .u16 (cut : Int), .int .u8 (x.toNat : Int), vs] w fun e w' => e = .returned (.bool true) ∧ Nw w w' := by
  have HM1 := hid (fun w' (h : Nw w w') => make_c3 start h0 h64 v1 ns w' (hv1.nw h) hns)
  have HEE := hid (fun (x y : Value) w' (h1 : Sl w' x (Lx.strs pqr)) (h2 : Evs w' y (makeP start ns).evs) => encode_c x y (makeP start ns) w' h1 h2 (make_small start h0 ns) (Nat.le_trans (make_len start h0 ns) (by decide)) (make_tb start h0 ns))
  have hme := make_enc start h0 ns
  have s1 := spoil_len (encP (makeP start ns)) [] at_ cut x
  rw [List.length_nil] at s1
  have HSP := hid (fun (v : Value) w' (h1 : Bytes w' v (encP (makeP start ns))) => spoil_c v (.slice none 0 0) _ [] at_ cut x w' h1 (Bytes.nil _) (by omega) (by simp) hat hcu)
  have HSL := hid (fun w' (h : Nw w w') => hs.nw h)
  have HBB := hid hb
  obtain ⟨pb, kb, rfl, _, _, _, _⟩ := hb.open
  obtain ⟨p5, k5, rfl, _, _, _, _⟩ := hv1.open (u16s_length ns)
  obtain ⟨ps, ks, rfl, _, _, _, _⟩ := hs.open (i64s_length sc)
  clear hv1 hns hs hb
  generalize spoilP (encP (makeP start ns)) at_ cut x [] = Y2 at *
  generalize encP (makeP start ns) = em at *
  generalize makeP start ns = aT at *
  generalize ns.length = nl at *
  have HNW0 := hid (fun w' (h : Nw w w') (v : Value) (Y : List UInt8) (hv : Bytes w' v Y) (hl : Y.length ≤ 500000000) => show Calls Try.prog 21 #[v, .slice ps sc.length ks, .int .i64 (-1)] w' (Src.NewOk w' Y sc Y.length) by
    have := Src.new_c v (.slice ps sc.length ks) Y sc (-1) w' hv (HSL.out w' h) (by omega) hls
    rwa [show Src.rt Y.length (-1) = Y.length by unfold Src.rt; rw [if_neg (by omega)]] at this)
  have hx' := hid hx
  clear hls hx
  go_enter Try.func8, Try.ntmps8
  go_upto_region 2 with (first
    | (go_at_call 18; refine (HM1.out _ (by repeat (first | assumption | exact Nw.refl _ | refine Nw.alloc ?_ _ | refine Nw.drew ?_ | refine Nw.drewN2 ?_ _ | (refine Nw.trans ?_ (by assumption))))).mono ?_; rintro e w2 ⟨q1, c1, q2, c2, rfl, hs1, he1, hn2⟩)
    | (go_at_call 20; refine (HEE.out _ _ _ hs1 he1).mono ?_; rintro e w3 ⟨v3, rfl, hown3, hn3⟩; have hbe : Bytes w3 v3 em := hown3.sl; obtain ⟨q3, c3, rfl, _⟩ := hbe.open)
    | fail)
  clear HM1 HEE hs1 he1
  go_upto_region 3 with (first
    | (go_at_call 16; refine (HSP.out _ _ hbe).mono ?_; rintro e w4 ⟨v4, rfl, hown4, hn4⟩; have hs4 : Bytes w4 v4 Y2 := hown4.sl; obtain ⟨q4, c4, rfl, _⟩ := hs4.open)
    | fail)
  have hw4 := hn2.trans (hn3.trans hn4)
  have HAR := hid (show ∀ j : Nat, j < 3 → ∃ (q : Option Addr) (c : Nat) (Y : List UInt8), (∀ w', (Instr.index 61 (.agg #[.slice pb b.length kb, .slice q3 em.length c3, .slice q4 Y2.length c4]) (.int .i64 (j : Int))).run Try.prog w' = .ok (.slice q Y.length c) w') ∧ Bytes w4 (.slice q Y.length c) Y ∧ Y.length ≤ 500000000 from fun j hj =>
    match j, hj with
    | 0, _ => ⟨_, _, b, fun _ => by kernel_rfl, HBB.out.nw hw4, by omega⟩
    | 1, _ => ⟨_, _, em, fun _ => by kernel_rfl, hbe.nw hn4, by omega⟩
    | 2, _ => ⟨_, _, Y2, fun _ => by kernel_rfl, hs4, by omega⟩)
  have HN4 := hid hw4
  clear hbe hs4 hown3 hown4 hn2 hn3 hn4 HSP HSL HBB hw4 hme s1 hlb
  generalize b.length = nb at *
  generalize em.length = ne at *
  generalize Y2.length = n2 at *
  go_loopw [17, 18, 19, 20, 21, 22, 23, 24, 25, 26, 27, 28, 29, 30, 31, 44] (fun _ _ _ _ _ _ _ _ _ _ _ _ _ _ _ i wr => ∃ j : Nat, j ≤ 3 ∧ i = .int .i64 j ∧ Nw w4 wr) (fun _ _ _ _ _ _ _ _ _ _ _ _ _ _ _ i _ => 3 - (intOf i).toNat)
  case atStart => exact ⟨0, by omega, rfl, Nw.refl _⟩
  case round =>
    obtain ⟨j0, hj0, rfl, hn4r⟩ := hrel
    by_cases hlt0 : j0 < 3
    · have hdj0 : decide ((j0 : Int) < 3) = true := decide_eq_true (by omega)
      have hdj0n : decide (j0 < 3) = true := decide_eq_true hlt0
      obtain ⟨q, c, Y, hrun, hB4, hYl⟩ := HAR.out j0 hlt0
      have hbY := hB4.nw hn4r
      have hn := hn4r
      have okY : Ok Y sc Y.length := ⟨Nat.le_refl _, by omega, hx'.out⟩
      have HHD0 := hid (fun B a n w' h hn => show Calls Try.prog 22 #[.pointer (some ⟨a, 0, none⟩)] w' (HandsHs w' B a Y sc Y.length n (headR Y 5)) by
        have := head_c B a Y sc Y.length n w' h okY hn
        rwa [List.take_of_length_le (Nat.le_refl _), show miss Y Y.length = 5 by unfold miss; rw [if_neg (by omega)]] at this)
      have HDC0 := hid (fun v w' (h : Bytes w' v Y) => decode_i v Y w' h (by omega))
      have HNW := HNW0
      clear HAR HNW0 hB4 hn4r
      rcases Hp.head_two Y with ⟨hno, hdno⟩ | ⟨l, i, hh⟩
      · have HHD := hid (fun B a n w' h hn => show Calls Try.prog 22 #[.pointer (some ⟨a, 0, none⟩)] w' (HandsHs w' B a Y sc Y.length n ([], 0, 5)) by
          have := HHD0.out B a n w' h hn
          rw [hno] at this; exact this)
        have HDC := hid (fun v w' (h : Bytes w' v Y) => show Calls Try.prog 34 #[v] w' (HandsDI w' ((⟨[], []⟩ : T), ((0 : Int), (5 : Int)))) by
          have := HDC0.out v w' h
          rw [hdno] at this; exact this)
        clear HHD0 HDC0 hno hdno okY
        -- 0: the length of the names; 0: that of the events
        go_upto_region 6 with (first
          | (go_at_call 21; refine (HNW.out _ (HN4.out.trans hn) _ _ hbY hYl).mono ?_; rintro e' w5 ⟨a, rfl, his, ha, hlt', hn5⟩)
          | fail)
        have hs5 : SI w5 wr.heap.size a Y sc Y.length 0 := his
        have hb5 := hbY.nw hn5
        clear his
        go_upto_region 7 with (first
          | (go_at_call 34; refine (HDC.out _ _ hb5).mono ?_; rintro e' w6 ⟨v6, rfl, ⟨vn, ve, rfl, hvn, hve⟩, hn6⟩; dsimp only at hvn hve ⊢; obtain ⟨qn, cn, rfl⟩ : ∃ qn cn, vn = .slice qn 0 cn := (by obtain ⟨q, c, h, _⟩ := strs_open hvn; exact ⟨q, c, h⟩); obtain ⟨qe, ce, rfl⟩ := hve.shape (n := 0) rfl)
          | fail)
        have hnT := (Nw.refl w6).alloc (.cells #[.slice qn 0 cn, .slice qe 0 ce] 34)
        obtain ⟨t0, t1⟩ := box2 w6 (.slice qn 0 cn) (.slice qe 0 ce) 34
        have lT := lt_alloc w6 (.cells #[.slice qn 0 cn, .slice qe 0 ce] 34)
        have hsT := hs5.nw (hn6.trans hnT)
        have hvnT := hvn.nw hnT
        have hveT := hve.nw hnT
        have hnwT := hn.trans (hn5.trans (hn6.trans hnT))
        have hz5 := hn5.size
        have hn4z := hn.size
        have hz6 := hn6.size
        clear hvn hve hnT hs5 hb5 hbY hn5 hn6 hn
        generalize w6.alloc (.cells #[.slice qn 0 cn, .slice qe 0 ce] 34) = wT at *
        generalize w6.heap.size = gT at *
        have HHT := hid (HHD.out wr.heap.size a 0 wT hsT (by omega))
        go_upto_region 8 with (first
          | (go_at_call 22; refine HHT.out.mono ?_; rintro e' w7 ⟨v7, n7, rfl, hv7, hs7, hn7, hm7⟩; dsimp only at hv7 ⊢; obtain ⟨q7, c7, rfl⟩ : ∃ q7 c7, v7 = .slice q7 0 c7 := (by obtain ⟨q, c, h, _⟩ := strs_open hv7; exact ⟨q, c, h⟩))
          | fail)
        have hz4 := hn4z
        have hn7' := hnwT.ofMods hm7 (fun k hk => by omega)
        have u0 := Mods.cellN hm7 (show ¬ gT = a by omega) t0
        have u1 := Mods.cellN hm7 (show ¬ gT = a by omega) t1
        have hvn7 := Sl.mods hvnT hm7 (fun h0 k hk => strs_apart hvnT hsT h0 k hk)
        have l7 := hm7.size
        clear HHT HNW HHD HDC hnwT t0 t1 hvnT
        have HEQ := hid (show Calls Try.prog 35 #[.slice q7 0 c7, .slice qn 0 cn] w7 (Gives (.bool true) w7) by
          have := eqs_c _ _ [] [] w7 hv7 hvn7
          rwa [decide_eq_true rfl] at this)
        go_wp2_with (first
          | (go_at_call 35; refine HEQ.out.mono ?_; rintro e' w8 ⟨rfl, hn8⟩)
          | fail)
        go_roundw
        case rel => exact ⟨j0 + 1, by omega, by go_num, hn7'.trans hn8⟩
        case measure => (simp [intOf] <;> omega)
      · obtain ⟨es, f, hr⟩ : ∃ es f, recsP Y l i.toNat = (es, f) := ⟨_, _, rfl⟩
        obtain ⟨qp, rfl, hl64, hrec, hqe, hel, hlast⟩ := Hp.whole_told hh hr
        have hdw := Hp.dec_whole hh hr
        obtain ⟨ee, hee⟩ : ∃ ee, (if f = 13 then 0 else f) = ee := ⟨_, rfl⟩
        rw [hee] at hdw
        have HLA := hid (show ∃ t xl n g, recP Y Y.length (qp es.length : Int) l.length = ((t, xl), n, g) ∧ ((g = 13 ∧ ee = 0) ∨ (ee = g ∧ (g = 7 ∨ g = 2 ∨ g = 6 ∨ g = 9)) ∨ (g = 0 ∧ ee = 8 ∧ 0 < es.length ∧ t < tm es (es.length - 1))) by
          obtain ⟨t, xl, n, g, h1, h2⟩ := hlast
          refine ⟨t, xl, n, g, h1, ?_⟩
          rcases h2 with ⟨rfl, rfl⟩ | ⟨rfl, h⟩ | ⟨rfl, rfl, h⟩
          · exact Or.inl ⟨rfl, hee.symm⟩
          · refine Or.inr (Or.inl ⟨?_, h⟩)
            rw [← hee, if_neg (by omega)]
          · refine Or.inr (Or.inr ⟨rfl, ?_, h⟩)
            rw [← hee, if_neg (by decide)])
        have he5 : ee ≠ 5 := by
          obtain ⟨t, xl, n, g, h1, h2⟩ := HLA.out
          omega
        have hd5 : (ee == 5) = false := beq_eq_false_iff_ne.2 he5
        have hd5' : (ee != 5) = true := by simpa using he5
        have HHD := hid (fun B a n w' h hn => show Calls Try.prog 22 #[.pointer (some ⟨a, 0, none⟩)] w' (HandsHs w' B a Y sc Y.length n (l, ((qp 0 : Nat) : Int), 0)) by
          have := HHD0.out B a n w' h hn
          rw [hh] at this; exact this)
        have HDC := hid (fun v w' (h : Bytes w' v Y) => show Calls Try.prog 34 #[v] w' (HandsDI w' ((⟨l, es⟩ : T), ((es.length : Int), ee))) by
          have := HDC0.out v w' h
          rw [hdw] at this; exact this)
        have HRC := hid (fun B a n (j : Nat) w' h hn (hj : qp j ≤ Y.length) => record_c B a Y sc Y.length n ((qp j : Nat) : Int) (l.length : Int) w' h okY hn (by omega) (by omega) (by omega) (by omega))
        have HREC := hid hrec
        have HQE := hid hqe
        clear HHD0 HDC0 hh hr hdw hee hlast hrec hqe okY he5
        -- l.length: the length of the names; es.length: that of the events
        go_upto_region 6 with (first
          | (go_at_call 21; refine (HNW.out _ (HN4.out.trans hn) _ _ hbY hYl).mono ?_; rintro e' w5 ⟨a, rfl, his, ha, hlt', hn5⟩)
          | fail)
        have hs5 : SI w5 wr.heap.size a Y sc Y.length 0 := his
        have hb5 := hbY.nw hn5
        clear his
        go_upto_region 7 with (first
          | (go_at_call 34; refine (HDC.out _ _ hb5).mono ?_; rintro e' w6 ⟨v6, rfl, ⟨vn, ve, rfl, hvn, hve⟩, hn6⟩; dsimp only at hvn hve ⊢; obtain ⟨qn, cn, rfl⟩ : ∃ qn cn, vn = .slice qn l.length cn := (by obtain ⟨q, c, h, _⟩ := strs_open hvn; exact ⟨q, c, h⟩); obtain ⟨qe, ce, rfl⟩ := hve.shape (n := es.length) rfl)
          | fail)
        have hnT := (Nw.refl w6).alloc (.cells #[.slice qn l.length cn, .slice qe es.length ce] 34)
        obtain ⟨t0, t1⟩ := box2 w6 (.slice qn l.length cn) (.slice qe es.length ce) 34
        have lT := lt_alloc w6 (.cells #[.slice qn l.length cn, .slice qe es.length ce] 34)
        have hsT := hs5.nw (hn6.trans hnT)
        have hvnT := hvn.nw hnT
        have hveT := hve.nw hnT
        have hnwT := hn.trans (hn5.trans (hn6.trans hnT))
        have hz5 := hn5.size
        have hn4z := hn.size
        have hz6 := hn6.size
        clear hvn hve hnT hs5 hb5 hbY hn5 hn6 hn
        generalize w6.alloc (.cells #[.slice qn l.length cn, .slice qe es.length ce] 34) = wT at *
        generalize w6.heap.size = gT at *
        have HHT := hid (HHD.out wr.heap.size a 0 wT hsT (by omega))
        go_upto_region 8 with (first
          | (go_at_call 22; refine HHT.out.mono ?_; rintro e' w7 ⟨v7, n7, rfl, hv7, hs7, hn7, hm7⟩; dsimp only at hv7 ⊢; obtain ⟨q7, c7, rfl⟩ : ∃ q7 c7, v7 = .slice q7 l.length c7 := (by obtain ⟨q, c, h, _⟩ := strs_open hv7; exact ⟨q, c, h⟩))
          | fail)
        have hz4 := hn4z
        have hn7' := hnwT.ofMods hm7 (fun k hk => by omega)
        have u0 := Mods.cellN hm7 (show ¬ gT = a by omega) t0
        have u1 := Mods.cellN hm7 (show ¬ gT = a by omega) t1
        have hvn7 := Sl.mods hvnT hm7 (fun h0 k hk => strs_apart hvnT hsT h0 k hk)
        have l7 := hm7.size
        clear HHT HNW HHD HDC hnwT t0 t1 hvnT
        have HEQ := hid (show Calls Try.prog 35 #[.slice q7 l.length c7, .slice qn l.length cn] w7 (Gives (.bool true) w7) by
          have := eqs_c _ _ l l w7 hv7 hvn7
          rwa [decide_eq_true rfl] at this)
        have hve7 := hveT.mods hm7 (fun k hk _ e => by omega)
        clear hv7 hvn7 hsT hveT hm7
        go_upto_region 12 with (first
          | (go_at_call 35; refine HEQ.out.mono ?_; rintro e' w8 ⟨rfl, hn8⟩)
          | fail)
        have hs8 := hs7.nw hn8
        have hve8 := hve7.nw hn8
        have y0 := hn8.cell u0
        have y1 := hn8.cell u1
        have hn8' := hn7'.trans hn8
        have l8 := hn8.size
        clear HEQ hs7 hve7 u0 u1 hn7' hn8
        generalize wr.heap.size = B0 at *
        go_loopw [23, 25, 26, 27, 28, 92] (fun at_ _ _ _ _ i wr => ∃ (j m : Nat), j ≤ es.length ∧ at_ = .int .i64 (qp j) ∧ i = .int .i64 j ∧ m ≤ 2000 + 100 * j ∧ SI wr B0 a Y sc Y.length m ∧ Mods (· = a) w8 wr) (fun _ _ _ _ _ i _ => es.length - (intOf i).toNat)
        case atStart => exact ⟨0, n7, Nat.zero_le _, rfl, rfl, by omega, hs8, Mods.refl _ _⟩
        case round =>
          obtain ⟨j, m, hj, rfl, rfl, hm, hsq, hmq⟩ := hrel
          have hveq := hve8.mods hmq (fun k hk _ e => by omega)
          have u0 := Mods.cellN hmq (show ¬ gT = a by omega) y0
          have u1 := Mods.cellN hmq (show ¬ gT = a by omega) y1
          have hnq := hn8'.ofMods hmq (fun k hk => by omega)
          have lq := hmq.size
          clear hs8 hve8 y0 y1 hn8'
          by_cases hlt : j < es.length
          · have hdj : decide ((j : Int) < es.length) = true := decide_eq_true (by omega)
            have hdjn : decide (j < es.length) = true := decide_eq_true hlt
            obtain ⟨hr1, hr2, hr3⟩ := HREC.out j hlt
            have HR := hid (HRC.out B0 a m j wr hsq (by omega) (by omega))
            rw [hr1] at HR
            have hdi : decide (((qp (j + 1) : Nat) : Int) ≤ (qp j : Int)) = false := decide_eq_false (by omega)
            have HEV := hid (fun w' (h : Mods (· = a) wr w') => EvIn.evc hveq h (by omega))
            clear hr1
            go_upto_region 15 with (first
              | (go_at_call 23; refine HR.out.mono ?_; rintro e' w9 ⟨v9, k9, rfl, hown9, hs9, hk9, hm9⟩; dsimp only at hown9 ⊢; obtain ⟨p9, c9, rfl, _⟩ := i64s_open hown9.sl)
              | fail)
            have hnA := (Nw.refl w9).alloc (.cells #[.int .u64 (tm es j), .slice p9 (ids es j).length c9] 38)
            obtain ⟨x0, x1⟩ := box2 w9 (.int .u64 (tm es j)) (.slice p9 (ids es j).length c9) 38
            have lA := lt_alloc w9 (.cells #[.int .u64 (tm es j), .slice p9 (ids es j).length c9] 38)
            have hmA := hm9.nw hnA
            have hsA := hs9.nw hnA
            have hoA := hown9.sl.nw hnA
            have z0 := Mods.cellN hmA (show ¬ gT = a by omega) u0
            have z1 := Mods.cellN hmA (show ¬ gT = a by omega) u1
            have hmS := hmq.trans hmA
            have hevA := HEV.out _ hmA
            clear HEV HR hown9 hs9 hm9 hnA u0 u1 hsq hmA hveq
            generalize w9.alloc (.cells #[.int .u64 (tm es j), .slice p9 (ids es j).length c9] 38) = wA at *
            generalize w9.heap.size = g9 at *
            obtain ⟨pe, ke, e1, _, _, _, hec⟩ := hevA
            cases e1
            obtain ⟨b7, o7, vj, rfl, d0, d1, hsj⟩ := hec j hlt
            obtain ⟨pj, cj, rfl, _⟩ := i64s_open hsj
            clear hec
            generalize tm es j = tj at *
            generalize ids es j = idl at *
            have HSM := hid (fun w' (h : Nw wA w') => show Calls Try.prog 24 #[.agg #[.int .u64 tj, .slice p9 idl.length c9], .agg #[.int .u64 tj, .slice pj idl.length cj]] w' (Gives (.bool true) w') by
              have := same_c _ _ tj tj idl idl w' (hoA.nw h) (hsj.nw h)
              rwa [decide_eq_true ⟨rfl, rfl⟩] at this)
            clear hoA hsj
            generalize idl.length = il at *
            have gd := World.block_lt_of_cell? _ _ d0
            simp only at gd
            have gT2 := World.block_lt_of_cell? _ _ z0
            simp only at gT2
            refine wp_region_stairs (by kernel_rfl) (by kernel_rfl) (by kernel_rfl) ?_
            iterate 17
              refine Stairs.is ?_ ?_ ?_
              rotate_left 1
              · intro x wR hR hd K hK
                simp only [Act.put, List.setIfInBounds_toArray, List.set_cons_zero, List.set_cons_succ, Nat.reduceAdd, List.length_nil, List.length_cons, List.nil_append, List.cons_append, Say.ok] at hK ⊢
                clear hd
                change Hid _ at hK
                obtain ⟨hcR, hfR, hzR⟩ := nwc hR
                first | (refine wanted_yes ?_ ?_; rfl) | (refine wanted_no ?_ ?_; rfl)
                first | (refine hK.out _ _ ?_ ?_ <;> first | (solve | (repeat (first | assumption | exact Nw.refl _ | refine Nw.alloc ?_ _ | refine Nw.drew ?_ | refine Nw.drewN2 ?_ _ | (refine Nw.trans ?_ (by assumption))))) | ((conv => lhs; whnf) <;> exact rfl) | exact rfl | exact congrArg (Value.int .u8) hq2 | exact congrArg (Value.int .u8) hq2' | exact hs5 | exact congrArg Value.bool hd0 | exact congrArg Value.bool (by simp)) | (go_step; first | (refine hK.out _ _ ?_ ?_ <;> first | (solve | (repeat (first | assumption | exact Nw.refl _ | refine Nw.alloc ?_ _ | refine Nw.drew ?_ | refine Nw.drewN2 ?_ _ | (refine Nw.trans ?_ (by assumption))))) | ((conv => lhs; whnf) <;> exact rfl) | exact rfl | exact congrArg (Value.int .u8) hq2 | exact congrArg (Value.int .u8) hq2' | exact hs5 | exact congrArg Value.bool hd0 | exact congrArg Value.bool (by simp)) | ((first | (go_at_call 24; refine (HSM.out _ (by repeat (first | assumption | exact Nw.refl _ | refine Nw.alloc ?_ _ | refine Nw.drew ?_ | refine Nw.drewN2 ?_ _ | (refine Nw.trans ?_ (by assumption))))).mono ?_; rintro e' w5' ⟨rfl, hn5⟩)); (refine hK.out _ _ ?_ ?_ <;> first | (solve | (repeat (first | assumption | exact Nw.refl _ | refine Nw.alloc ?_ _ | refine Nw.drew ?_ | refine Nw.drewN2 ?_ _ | (refine Nw.trans ?_ (by assumption))))) | ((conv => lhs; whnf) <;> exact rfl) | exact rfl | exact congrArg (Value.int .u8) hq2 | exact congrArg (Value.int .u8) hq2' | exact hs5 | exact congrArg Value.bool hd0 | exact congrArg Value.bool (by simp))))
              try simp only [Act.put, List.setIfInBounds_toArray, List.set_cons_zero, List.set_cons_succ, Nat.reduceAdd, List.length_nil, List.length_cons, List.nil_append, List.cons_append]
            refine Stairs.nil ?_
            intro x wR hR hx
            clear hx
            obtain ⟨hcR, hfR, hzR⟩ := nwc hR
            have hsR := hsA.nw hR
            have hmR := hmS.nw hR
            clear hcR hfR hzR hR
            go_wp2
            go_roundw
            case rel => exact ⟨j + 1, k9, by omega, rfl, by go_num, by omega, hsR, hmR⟩
            case measure => (simp [intOf] <;> omega)
          · obtain rfl : j = es.length := by omega
            have hdj : decide ((es.length : Int) < es.length) = false := decide_eq_false (by omega)
            have hdjn : decide (es.length < es.length) = false := decide_eq_false (by omega)
            obtain ⟨t, xl, nn, g, hr1, hcase⟩ := HLA.out
            have HR := hid (HRC.out B0 a m es.length wr hsq (by omega) HQE.out)
            rw [hr1] at HR
            have HEV := hid (fun w' (h : Mods (· = a) wr w') => EvIn.evc hveq h (by omega))
            clear hr1
            go_upto_region 20 with (first
              | (go_at_call 23; refine HR.out.mono ?_; rintro e' w9 ⟨v9, k9, rfl, hown9, hs9, hk9, hm9⟩; dsimp only at hown9 ⊢; obtain ⟨p9, c9, rfl, _⟩ := i64s_open hown9.sl)
              | fail)
            have hnA := (Nw.refl w9).alloc (.cells #[.int .u64 t, .slice p9 xl.length c9] 38)
            obtain ⟨x0, x1⟩ := box2 w9 (.int .u64 t) (.slice p9 xl.length c9) 38
            have lA := lt_alloc w9 (.cells #[.int .u64 t, .slice p9 xl.length c9] 38)
            have hmA := hm9.nw hnA
            have z0 := Mods.cellN hmA (show ¬ gT = a by omega) u0
            have z1 := Mods.cellN hmA (show ¬ gT = a by omega) u1
            have hfin := hnq.ofMods hmA (fun k hk => by omega)
            have hevA := HEV.out _ hmA
            clear HEV HR hown9 hs9 hm9 hnA u0 u1 hsq hmA hveq hnq hmq
            generalize w9.alloc (.cells #[.int .u64 t, .slice p9 xl.length c9] 38) = wA at *
            generalize w9.heap.size = g9 at *
            generalize xl.length = xn at *
            have gT2 := World.block_lt_of_cell? _ _ z0
            simp only at gT2
            rcases hcase with ⟨rfl, rfl⟩ | ⟨rfl, hg⟩ | ⟨rfl, rfl, hpos, htt⟩
            · clear hevA
              refine wp_region_stairs (by kernel_rfl) (by kernel_rfl) (by kernel_rfl) ?_
              iterate 43
                refine Stairs.is ?_ ?_ ?_
                rotate_left 1
                · intro x wR hR hd K hK
                  simp only [Act.put, List.setIfInBounds_toArray, List.set_cons_zero, List.set_cons_succ, Nat.reduceAdd, List.length_nil, List.length_cons, List.nil_append, List.cons_append, Say.ok] at hK ⊢
                  clear hd
                  change Hid _ at hK
                  obtain ⟨hcR, hfR, hzR⟩ := nwc hR
                  first | (refine wanted_yes ?_ ?_; rfl) | (refine wanted_no ?_ ?_; rfl)
                  first | (refine hK.out _ _ ?_ ?_ <;> first | (solve | (repeat (first | assumption | exact Nw.refl _ | refine Nw.alloc ?_ _ | refine Nw.drew ?_ | refine Nw.drewN2 ?_ _ | (refine Nw.trans ?_ (by assumption))))) | ((conv => lhs; whnf) <;> exact rfl) | exact rfl | exact congrArg (Value.int .u8) hq2 | exact congrArg (Value.int .u8) hq2' | exact hs5 | exact congrArg Value.bool hd0 | exact congrArg Value.bool (by simp)) | (go_step; first | (refine hK.out _ _ ?_ ?_ <;> first | (solve | (repeat (first | assumption | exact Nw.refl _ | refine Nw.alloc ?_ _ | refine Nw.drew ?_ | refine Nw.drewN2 ?_ _ | (refine Nw.trans ?_ (by assumption))))) | ((conv => lhs; whnf) <;> exact rfl) | exact rfl | exact congrArg (Value.int .u8) hq2 | exact congrArg (Value.int .u8) hq2' | exact hs5 | exact congrArg Value.bool hd0 | exact congrArg Value.bool (by simp)) | ((first | fail); (refine hK.out _ _ ?_ ?_ <;> first | (solve | (repeat (first | assumption | exact Nw.refl _ | refine Nw.alloc ?_ _ | refine Nw.drew ?_ | refine Nw.drewN2 ?_ _ | (refine Nw.trans ?_ (by assumption))))) | ((conv => lhs; whnf) <;> exact rfl) | exact rfl | exact congrArg (Value.int .u8) hq2 | exact congrArg (Value.int .u8) hq2' | exact hs5 | exact congrArg Value.bool hd0 | exact congrArg Value.bool (by simp))))
                try simp only [Act.put, List.setIfInBounds_toArray, List.set_cons_zero, List.set_cons_succ, Nat.reduceAdd, List.length_nil, List.length_cons, List.nil_append, List.cons_append]
              refine Stairs.nil ?_
              intro x wR hR hx
              clear hx
              obtain ⟨hcR, hfR, hzR⟩ := nwc hR
              have hfin2 := hfin.trans hR
              clear hcR hfR hzR hR
              go_wp2
              go_roundw
              case rel => exact ⟨j0 + 1, by omega, by go_num, hfin2⟩
              case measure => (simp [intOf] <;> omega)
            · clear hevA
              have e0 : (ee == 0) = false := beq_eq_false_iff_ne.2 (by omega)
              have e0' : (ee != 0) = true := by simp; omega
              have e8 : (ee == 8) = false := beq_eq_false_iff_ne.2 (by omega)
              have e8' : (ee != 8) = true := by simp; omega
              clear hg
              refine wp_region_stairs (by kernel_rfl) (by kernel_rfl) (by kernel_rfl) ?_
              iterate 1
                refine Stairs.is ?_ ?_ ?_
                rotate_left 1
                · intro x wR hR hd K hK
                  simp only [Act.put, List.setIfInBounds_toArray, List.set_cons_zero, List.set_cons_succ, Nat.reduceAdd, List.length_nil, List.length_cons, List.nil_append, List.cons_append, Say.ok] at hK ⊢
                  clear hd
                  change Hid _ at hK
                  obtain ⟨hcR, hfR, hzR⟩ := nwc hR
                  first | (refine wanted_yes ?_ ?_; rfl) | (refine wanted_no ?_ ?_; rfl)
                  first | (refine hK.out _ _ ?_ ?_ <;> first | (solve | (repeat (first | assumption | exact Nw.refl _ | refine Nw.alloc ?_ _ | refine Nw.drew ?_ | refine Nw.drewN2 ?_ _ | (refine Nw.trans ?_ (by assumption))))) | ((conv => lhs; whnf) <;> exact rfl) | exact rfl | exact congrArg Value.bool e0 | exact congrArg Value.bool e0' | exact congrArg Value.bool e8 | exact congrArg Value.bool e8' | exact congrArg Value.bool (by simp)) | (go_step; first | (refine hK.out _ _ ?_ ?_ <;> first | (solve | (repeat (first | assumption | exact Nw.refl _ | refine Nw.alloc ?_ _ | refine Nw.drew ?_ | refine Nw.drewN2 ?_ _ | (refine Nw.trans ?_ (by assumption))))) | ((conv => lhs; whnf) <;> exact rfl) | exact rfl | exact congrArg Value.bool e0 | exact congrArg Value.bool e0' | exact congrArg Value.bool e8 | exact congrArg Value.bool e8' | exact congrArg Value.bool (by simp)) | ((first | fail); (refine hK.out _ _ ?_ ?_ <;> first | (solve | (repeat (first | assumption | exact Nw.refl _ | refine Nw.alloc ?_ _ | refine Nw.drew ?_ | refine Nw.drewN2 ?_ _ | (refine Nw.trans ?_ (by assumption))))) | ((conv => lhs; whnf) <;> exact rfl) | exact rfl | exact congrArg Value.bool e0 | exact congrArg Value.bool e0' | exact congrArg Value.bool e8 | exact congrArg Value.bool e8' | exact congrArg Value.bool (by simp))))
                try simp only [Act.put, List.setIfInBounds_toArray, List.set_cons_zero, List.set_cons_succ, Nat.reduceAdd, List.length_nil, List.length_cons, List.nil_append, List.cons_append]
              iterate 1
                refine Stairs.is (.bool false) ?_ ?_
                · intro x wR hR hd K hK
                  simp only [Act.put, List.setIfInBounds_toArray, List.set_cons_zero, List.set_cons_succ, Nat.reduceAdd, List.length_nil, List.length_cons, List.nil_append, List.cons_append, Say.ok] at hK ⊢
                  clear hd
                  change Hid _ at hK
                  obtain ⟨hcR, hfR, hzR⟩ := nwc hR
                  first | (refine wanted_yes ?_ ?_; rfl) | (refine wanted_no ?_ ?_; rfl)
                  first | (refine hK.out _ _ ?_ ?_ <;> first | (solve | (repeat (first | assumption | exact Nw.refl _ | refine Nw.alloc ?_ _ | refine Nw.drew ?_ | refine Nw.drewN2 ?_ _ | (refine Nw.trans ?_ (by assumption))))) | ((conv => lhs; whnf) <;> exact rfl) | exact rfl | exact congrArg Value.bool e0 | exact congrArg Value.bool e0' | exact congrArg Value.bool e8 | exact congrArg Value.bool e8' | exact congrArg Value.bool (by simp)) | (go_step; first | (refine hK.out _ _ ?_ ?_ <;> first | (solve | (repeat (first | assumption | exact Nw.refl _ | refine Nw.alloc ?_ _ | refine Nw.drew ?_ | refine Nw.drewN2 ?_ _ | (refine Nw.trans ?_ (by assumption))))) | ((conv => lhs; whnf) <;> exact rfl) | exact rfl | exact congrArg Value.bool e0 | exact congrArg Value.bool e0' | exact congrArg Value.bool e8 | exact congrArg Value.bool e8' | exact congrArg Value.bool (by simp)) | ((first | fail); (refine hK.out _ _ ?_ ?_ <;> first | (solve | (repeat (first | assumption | exact Nw.refl _ | refine Nw.alloc ?_ _ | refine Nw.drew ?_ | refine Nw.drewN2 ?_ _ | (refine Nw.trans ?_ (by assumption))))) | ((conv => lhs; whnf) <;> exact rfl) | exact rfl | exact congrArg Value.bool e0 | exact congrArg Value.bool e0' | exact congrArg Value.bool e8 | exact congrArg Value.bool e8' | exact congrArg Value.bool (by simp))))
                try simp only [Act.put, List.setIfInBounds_toArray, List.set_cons_zero, List.set_cons_succ, Nat.reduceAdd, List.length_nil, List.length_cons, List.nil_append, List.cons_append]
              iterate 6
                refine Stairs.is ?_ ?_ ?_
                rotate_left 1
                · intro x wR hR hd K hK
                  simp only [Act.put, List.setIfInBounds_toArray, List.set_cons_zero, List.set_cons_succ, Nat.reduceAdd, List.length_nil, List.length_cons, List.nil_append, List.cons_append, Say.ok] at hK ⊢
                  clear hd
                  change Hid _ at hK
                  obtain ⟨hcR, hfR, hzR⟩ := nwc hR
                  first | (refine wanted_yes ?_ ?_; rfl) | (refine wanted_no ?_ ?_; rfl)
                  first | (refine hK.out _ _ ?_ ?_ <;> first | (solve | (repeat (first | assumption | exact Nw.refl _ | refine Nw.alloc ?_ _ | refine Nw.drew ?_ | refine Nw.drewN2 ?_ _ | (refine Nw.trans ?_ (by assumption))))) | ((conv => lhs; whnf) <;> exact rfl) | exact rfl | exact congrArg Value.bool e0 | exact congrArg Value.bool e0' | exact congrArg Value.bool e8 | exact congrArg Value.bool e8' | exact congrArg Value.bool (by simp)) | (go_step; first | (refine hK.out _ _ ?_ ?_ <;> first | (solve | (repeat (first | assumption | exact Nw.refl _ | refine Nw.alloc ?_ _ | refine Nw.drew ?_ | refine Nw.drewN2 ?_ _ | (refine Nw.trans ?_ (by assumption))))) | ((conv => lhs; whnf) <;> exact rfl) | exact rfl | exact congrArg Value.bool e0 | exact congrArg Value.bool e0' | exact congrArg Value.bool e8 | exact congrArg Value.bool e8' | exact congrArg Value.bool (by simp)) | ((first | fail); (refine hK.out _ _ ?_ ?_ <;> first | (solve | (repeat (first | assumption | exact Nw.refl _ | refine Nw.alloc ?_ _ | refine Nw.drew ?_ | refine Nw.drewN2 ?_ _ | (refine Nw.trans ?_ (by assumption))))) | ((conv => lhs; whnf) <;> exact rfl) | exact rfl | exact congrArg Value.bool e0 | exact congrArg Value.bool e0' | exact congrArg Value.bool e8 | exact congrArg Value.bool e8' | exact congrArg Value.bool (by simp))))
                try simp only [Act.put, List.setIfInBounds_toArray, List.set_cons_zero, List.set_cons_succ, Nat.reduceAdd, List.length_nil, List.length_cons, List.nil_append, List.cons_append]
              iterate 1
                refine Stairs.is (.bool false) ?_ ?_
                · intro x wR hR hd K hK
                  simp only [Act.put, List.setIfInBounds_toArray, List.set_cons_zero, List.set_cons_succ, Nat.reduceAdd, List.length_nil, List.length_cons, List.nil_append, List.cons_append, Say.ok] at hK ⊢
                  clear hd
                  change Hid _ at hK
                  obtain ⟨hcR, hfR, hzR⟩ := nwc hR
                  first | (refine wanted_yes ?_ ?_; rfl) | (refine wanted_no ?_ ?_; rfl)
                  first | (refine hK.out _ _ ?_ ?_ <;> first | (solve | (repeat (first | assumption | exact Nw.refl _ | refine Nw.alloc ?_ _ | refine Nw.drew ?_ | refine Nw.drewN2 ?_ _ | (refine Nw.trans ?_ (by assumption))))) | ((conv => lhs; whnf) <;> exact rfl) | exact rfl | exact congrArg Value.bool e0 | exact congrArg Value.bool e0' | exact congrArg Value.bool e8 | exact congrArg Value.bool e8' | exact congrArg Value.bool (by simp)) | (go_step; first | (refine hK.out _ _ ?_ ?_ <;> first | (solve | (repeat (first | assumption | exact Nw.refl _ | refine Nw.alloc ?_ _ | refine Nw.drew ?_ | refine Nw.drewN2 ?_ _ | (refine Nw.trans ?_ (by assumption))))) | ((conv => lhs; whnf) <;> exact rfl) | exact rfl | exact congrArg Value.bool e0 | exact congrArg Value.bool e0' | exact congrArg Value.bool e8 | exact congrArg Value.bool e8' | exact congrArg Value.bool (by simp)) | ((first | fail); (refine hK.out _ _ ?_ ?_ <;> first | (solve | (repeat (first | assumption | exact Nw.refl _ | refine Nw.alloc ?_ _ | refine Nw.drew ?_ | refine Nw.drewN2 ?_ _ | (refine Nw.trans ?_ (by assumption))))) | ((conv => lhs; whnf) <;> exact rfl) | exact rfl | exact congrArg Value.bool e0 | exact congrArg Value.bool e0' | exact congrArg Value.bool e8 | exact congrArg Value.bool e8' | exact congrArg Value.bool (by simp))))
                try simp only [Act.put, List.setIfInBounds_toArray, List.set_cons_zero, List.set_cons_succ, Nat.reduceAdd, List.length_nil, List.length_cons, List.nil_append, List.cons_append]
              iterate 23
                refine Stairs.is ?_ ?_ ?_
                rotate_left 1
                · intro x wR hR hd K hK
                  simp only [Act.put, List.setIfInBounds_toArray, List.set_cons_zero, List.set_cons_succ, Nat.reduceAdd, List.length_nil, List.length_cons, List.nil_append, List.cons_append, Say.ok] at hK ⊢
                  clear hd
                  change Hid _ at hK
                  obtain ⟨hcR, hfR, hzR⟩ := nwc hR
                  first | (refine wanted_yes ?_ ?_; rfl) | (refine wanted_no ?_ ?_; rfl)
                  first | (refine hK.out _ _ ?_ ?_ <;> first | (solve | (repeat (first | assumption | exact Nw.refl _ | refine Nw.alloc ?_ _ | refine Nw.drew ?_ | refine Nw.drewN2 ?_ _ | (refine Nw.trans ?_ (by assumption))))) | ((conv => lhs; whnf) <;> exact rfl) | exact rfl | exact congrArg Value.bool e0 | exact congrArg Value.bool e0' | exact congrArg Value.bool e8 | exact congrArg Value.bool e8' | exact congrArg Value.bool (by simp)) | (go_step; first | (refine hK.out _ _ ?_ ?_ <;> first | (solve | (repeat (first | assumption | exact Nw.refl _ | refine Nw.alloc ?_ _ | refine Nw.drew ?_ | refine Nw.drewN2 ?_ _ | (refine Nw.trans ?_ (by assumption))))) | ((conv => lhs; whnf) <;> exact rfl) | exact rfl | exact congrArg Value.bool e0 | exact congrArg Value.bool e0' | exact congrArg Value.bool e8 | exact congrArg Value.bool e8' | exact congrArg Value.bool (by simp)) | ((first | fail); (refine hK.out _ _ ?_ ?_ <;> first | (solve | (repeat (first | assumption | exact Nw.refl _ | refine Nw.alloc ?_ _ | refine Nw.drew ?_ | refine Nw.drewN2 ?_ _ | (refine Nw.trans ?_ (by assumption))))) | ((conv => lhs; whnf) <;> exact rfl) | exact rfl | exact congrArg Value.bool e0 | exact congrArg Value.bool e0' | exact congrArg Value.bool e8 | exact congrArg Value.bool e8' | exact congrArg Value.bool (by simp))))
                try simp only [Act.put, List.setIfInBounds_toArray, List.set_cons_zero, List.set_cons_succ, Nat.reduceAdd, List.length_nil, List.length_cons, List.nil_append, List.cons_append]
              iterate 1
                refine Stairs.is (.bool true) ?_ ?_
                · intro x wR hR hd K hK
                  simp only [Act.put, List.setIfInBounds_toArray, List.set_cons_zero, List.set_cons_succ, Nat.reduceAdd, List.length_nil, List.length_cons, List.nil_append, List.cons_append, Say.ok] at hK ⊢
                  clear hd
                  change Hid _ at hK
                  obtain ⟨hcR, hfR, hzR⟩ := nwc hR
                  first | (refine wanted_yes ?_ ?_; rfl) | (refine wanted_no ?_ ?_; rfl)
                  first | (refine hK.out _ _ ?_ ?_ <;> first | (solve | (repeat (first | assumption | exact Nw.refl _ | refine Nw.alloc ?_ _ | refine Nw.drew ?_ | refine Nw.drewN2 ?_ _ | (refine Nw.trans ?_ (by assumption))))) | ((conv => lhs; whnf) <;> exact rfl) | exact rfl | exact congrArg Value.bool e0 | exact congrArg Value.bool e0' | exact congrArg Value.bool e8 | exact congrArg Value.bool e8' | exact congrArg Value.bool (by simp)) | (go_step; first | (refine hK.out _ _ ?_ ?_ <;> first | (solve | (repeat (first | assumption | exact Nw.refl _ | refine Nw.alloc ?_ _ | refine Nw.drew ?_ | refine Nw.drewN2 ?_ _ | (refine Nw.trans ?_ (by assumption))))) | ((conv => lhs; whnf) <;> exact rfl) | exact rfl | exact congrArg Value.bool e0 | exact congrArg Value.bool e0' | exact congrArg Value.bool e8 | exact congrArg Value.bool e8' | exact congrArg Value.bool (by simp)) | ((first | fail); (refine hK.out _ _ ?_ ?_ <;> first | (solve | (repeat (first | assumption | exact Nw.refl _ | refine Nw.alloc ?_ _ | refine Nw.drew ?_ | refine Nw.drewN2 ?_ _ | (refine Nw.trans ?_ (by assumption))))) | ((conv => lhs; whnf) <;> exact rfl) | exact rfl | exact congrArg Value.bool e0 | exact congrArg Value.bool e0' | exact congrArg Value.bool e8 | exact congrArg Value.bool e8' | exact congrArg Value.bool (by simp))))
                try simp only [Act.put, List.setIfInBounds_toArray, List.set_cons_zero, List.set_cons_succ, Nat.reduceAdd, List.length_nil, List.length_cons, List.nil_append, List.cons_append]
              iterate 2
                refine Stairs.is ?_ ?_ ?_
                rotate_left 1
                · intro x wR hR hd K hK
                  simp only [Act.put, List.setIfInBounds_toArray, List.set_cons_zero, List.set_cons_succ, Nat.reduceAdd, List.length_nil, List.length_cons, List.nil_append, List.cons_append, Say.ok] at hK ⊢
                  clear hd
                  change Hid _ at hK
                  obtain ⟨hcR, hfR, hzR⟩ := nwc hR
                  first | (refine wanted_yes ?_ ?_; rfl) | (refine wanted_no ?_ ?_; rfl)
                  first | (refine hK.out _ _ ?_ ?_ <;> first | (solve | (repeat (first | assumption | exact Nw.refl _ | refine Nw.alloc ?_ _ | refine Nw.drew ?_ | refine Nw.drewN2 ?_ _ | (refine Nw.trans ?_ (by assumption))))) | ((conv => lhs; whnf) <;> exact rfl) | exact rfl | exact congrArg Value.bool e0 | exact congrArg Value.bool e0' | exact congrArg Value.bool e8 | exact congrArg Value.bool e8' | exact congrArg Value.bool (by simp)) | (go_step; first | (refine hK.out _ _ ?_ ?_ <;> first | (solve | (repeat (first | assumption | exact Nw.refl _ | refine Nw.alloc ?_ _ | refine Nw.drew ?_ | refine Nw.drewN2 ?_ _ | (refine Nw.trans ?_ (by assumption))))) | ((conv => lhs; whnf) <;> exact rfl) | exact rfl | exact congrArg Value.bool e0 | exact congrArg Value.bool e0' | exact congrArg Value.bool e8 | exact congrArg Value.bool e8' | exact congrArg Value.bool (by simp)) | ((first | fail); (refine hK.out _ _ ?_ ?_ <;> first | (solve | (repeat (first | assumption | exact Nw.refl _ | refine Nw.alloc ?_ _ | refine Nw.drew ?_ | refine Nw.drewN2 ?_ _ | (refine Nw.trans ?_ (by assumption))))) | ((conv => lhs; whnf) <;> exact rfl) | exact rfl | exact congrArg Value.bool e0 | exact congrArg Value.bool e0' | exact congrArg Value.bool e8 | exact congrArg Value.bool e8' | exact congrArg Value.bool (by simp))))
                try simp only [Act.put, List.setIfInBounds_toArray, List.set_cons_zero, List.set_cons_succ, Nat.reduceAdd, List.length_nil, List.length_cons, List.nil_append, List.cons_append]
              iterate 1
                refine Stairs.is (.bool true) ?_ ?_
                · intro x wR hR hd K hK
                  simp only [Act.put, List.setIfInBounds_toArray, List.set_cons_zero, List.set_cons_succ, Nat.reduceAdd, List.length_nil, List.length_cons, List.nil_append, List.cons_append, Say.ok] at hK ⊢
                  clear hd
                  change Hid _ at hK
                  obtain ⟨hcR, hfR, hzR⟩ := nwc hR
                  first | (refine wanted_yes ?_ ?_; rfl) | (refine wanted_no ?_ ?_; rfl)
                  first | (refine hK.out _ _ ?_ ?_ <;> first | (solve | (repeat (first | assumption | exact Nw.refl _ | refine Nw.alloc ?_ _ | refine Nw.drew ?_ | refine Nw.drewN2 ?_ _ | (refine Nw.trans ?_ (by assumption))))) | ((conv => lhs; whnf) <;> exact rfl) | exact rfl | exact congrArg Value.bool e0 | exact congrArg Value.bool e0' | exact congrArg Value.bool e8 | exact congrArg Value.bool e8' | exact congrArg Value.bool (by simp)) | (go_step; first | (refine hK.out _ _ ?_ ?_ <;> first | (solve | (repeat (first | assumption | exact Nw.refl _ | refine Nw.alloc ?_ _ | refine Nw.drew ?_ | refine Nw.drewN2 ?_ _ | (refine Nw.trans ?_ (by assumption))))) | ((conv => lhs; whnf) <;> exact rfl) | exact rfl | exact congrArg Value.bool e0 | exact congrArg Value.bool e0' | exact congrArg Value.bool e8 | exact congrArg Value.bool e8' | exact congrArg Value.bool (by simp)) | ((first | fail); (refine hK.out _ _ ?_ ?_ <;> first | (solve | (repeat (first | assumption | exact Nw.refl _ | refine Nw.alloc ?_ _ | refine Nw.drew ?_ | refine Nw.drewN2 ?_ _ | (refine Nw.trans ?_ (by assumption))))) | ((conv => lhs; whnf) <;> exact rfl) | exact rfl | exact congrArg Value.bool e0 | exact congrArg Value.bool e0' | exact congrArg Value.bool e8 | exact congrArg Value.bool e8' | exact congrArg Value.bool (by simp))))
                try simp only [Act.put, List.setIfInBounds_toArray, List.set_cons_zero, List.set_cons_succ, Nat.reduceAdd, List.length_nil, List.length_cons, List.nil_append, List.cons_append]
              iterate 4
                refine Stairs.is ?_ ?_ ?_
                rotate_left 1
                · intro x wR hR hd K hK
                  simp only [Act.put, List.setIfInBounds_toArray, List.set_cons_zero, List.set_cons_succ, Nat.reduceAdd, List.length_nil, List.length_cons, List.nil_append, List.cons_append, Say.ok] at hK ⊢
                  clear hd
                  change Hid _ at hK
                  obtain ⟨hcR, hfR, hzR⟩ := nwc hR
                  first | (refine wanted_yes ?_ ?_; rfl) | (refine wanted_no ?_ ?_; rfl)
                  first | (refine hK.out _ _ ?_ ?_ <;> first | (solve | (repeat (first | assumption | exact Nw.refl _ | refine Nw.alloc ?_ _ | refine Nw.drew ?_ | refine Nw.drewN2 ?_ _ | (refine Nw.trans ?_ (by assumption))))) | ((conv => lhs; whnf) <;> exact rfl) | exact rfl | exact congrArg Value.bool e0 | exact congrArg Value.bool e0' | exact congrArg Value.bool e8 | exact congrArg Value.bool e8' | exact congrArg Value.bool (by simp)) | (go_step; first | (refine hK.out _ _ ?_ ?_ <;> first | (solve | (repeat (first | assumption | exact Nw.refl _ | refine Nw.alloc ?_ _ | refine Nw.drew ?_ | refine Nw.drewN2 ?_ _ | (refine Nw.trans ?_ (by assumption))))) | ((conv => lhs; whnf) <;> exact rfl) | exact rfl | exact congrArg Value.bool e0 | exact congrArg Value.bool e0' | exact congrArg Value.bool e8 | exact congrArg Value.bool e8' | exact congrArg Value.bool (by simp)) | ((first | fail); (refine hK.out _ _ ?_ ?_ <;> first | (solve | (repeat (first | assumption | exact Nw.refl _ | refine Nw.alloc ?_ _ | refine Nw.drew ?_ | refine Nw.drewN2 ?_ _ | (refine Nw.trans ?_ (by assumption))))) | ((conv => lhs; whnf) <;> exact rfl) | exact rfl | exact congrArg Value.bool e0 | exact congrArg Value.bool e0' | exact congrArg Value.bool e8 | exact congrArg Value.bool e8' | exact congrArg Value.bool (by simp))))
                try simp only [Act.put, List.setIfInBounds_toArray, List.set_cons_zero, List.set_cons_succ, Nat.reduceAdd, List.length_nil, List.length_cons, List.nil_append, List.cons_append]
              iterate 1
                refine Stairs.is (.bool false) ?_ ?_
                · intro x wR hR hd K hK
                  simp only [Act.put, List.setIfInBounds_toArray, List.set_cons_zero, List.set_cons_succ, Nat.reduceAdd, List.length_nil, List.length_cons, List.nil_append, List.cons_append, Say.ok] at hK ⊢
                  clear hd
                  change Hid _ at hK
                  obtain ⟨hcR, hfR, hzR⟩ := nwc hR
                  first | (refine wanted_yes ?_ ?_; rfl) | (refine wanted_no ?_ ?_; rfl)
                  first | (refine hK.out _ _ ?_ ?_ <;> first | (solve | (repeat (first | assumption | exact Nw.refl _ | refine Nw.alloc ?_ _ | refine Nw.drew ?_ | refine Nw.drewN2 ?_ _ | (refine Nw.trans ?_ (by assumption))))) | ((conv => lhs; whnf) <;> exact rfl) | exact rfl | exact congrArg Value.bool e0 | exact congrArg Value.bool e0' | exact congrArg Value.bool e8 | exact congrArg Value.bool e8' | exact congrArg Value.bool (by simp)) | (go_step; first | (refine hK.out _ _ ?_ ?_ <;> first | (solve | (repeat (first | assumption | exact Nw.refl _ | refine Nw.alloc ?_ _ | refine Nw.drew ?_ | refine Nw.drewN2 ?_ _ | (refine Nw.trans ?_ (by assumption))))) | ((conv => lhs; whnf) <;> exact rfl) | exact rfl | exact congrArg Value.bool e0 | exact congrArg Value.bool e0' | exact congrArg Value.bool e8 | exact congrArg Value.bool e8' | exact congrArg Value.bool (by simp)) | ((first | fail); (refine hK.out _ _ ?_ ?_ <;> first | (solve | (repeat (first | assumption | exact Nw.refl _ | refine Nw.alloc ?_ _ | refine Nw.drew ?_ | refine Nw.drewN2 ?_ _ | (refine Nw.trans ?_ (by assumption))))) | ((conv => lhs; whnf) <;> exact rfl) | exact rfl | exact congrArg Value.bool e0 | exact congrArg Value.bool e0' | exact congrArg Value.bool e8 | exact congrArg Value.bool e8' | exact congrArg Value.bool (by simp))))
                try simp only [Act.put, List.setIfInBounds_toArray, List.set_cons_zero, List.set_cons_succ, Nat.reduceAdd, List.length_nil, List.length_cons, List.nil_append, List.cons_append]
              iterate 2
                refine Stairs.is ?_ ?_ ?_
                rotate_left 1
                · intro x wR hR hd K hK
                  simp only [Act.put, List.setIfInBounds_toArray, List.set_cons_zero, List.set_cons_succ, Nat.reduceAdd, List.length_nil, List.length_cons, List.nil_append, List.cons_append, Say.ok] at hK ⊢
                  clear hd
                  change Hid _ at hK
                  obtain ⟨hcR, hfR, hzR⟩ := nwc hR
                  first | (refine wanted_yes ?_ ?_; rfl) | (refine wanted_no ?_ ?_; rfl)
                  first | (refine hK.out _ _ ?_ ?_ <;> first | (solve | (repeat (first | assumption | exact Nw.refl _ | refine Nw.alloc ?_ _ | refine Nw.drew ?_ | refine Nw.drewN2 ?_ _ | (refine Nw.trans ?_ (by assumption))))) | ((conv => lhs; whnf) <;> exact rfl) | exact rfl | exact congrArg Value.bool e0 | exact congrArg Value.bool e0' | exact congrArg Value.bool e8 | exact congrArg Value.bool e8' | exact congrArg Value.bool (by simp)) | (go_step; first | (refine hK.out _ _ ?_ ?_ <;> first | (solve | (repeat (first | assumption | exact Nw.refl _ | refine Nw.alloc ?_ _ | refine Nw.drew ?_ | refine Nw.drewN2 ?_ _ | (refine Nw.trans ?_ (by assumption))))) | ((conv => lhs; whnf) <;> exact rfl) | exact rfl | exact congrArg Value.bool e0 | exact congrArg Value.bool e0' | exact congrArg Value.bool e8 | exact congrArg Value.bool e8' | exact congrArg Value.bool (by simp)) | ((first | fail); (refine hK.out _ _ ?_ ?_ <;> first | (solve | (repeat (first | assumption | exact Nw.refl _ | refine Nw.alloc ?_ _ | refine Nw.drew ?_ | refine Nw.drewN2 ?_ _ | (refine Nw.trans ?_ (by assumption))))) | ((conv => lhs; whnf) <;> exact rfl) | exact rfl | exact congrArg Value.bool e0 | exact congrArg Value.bool e0' | exact congrArg Value.bool e8 | exact congrArg Value.bool e8' | exact congrArg Value.bool (by simp))))
                try simp only [Act.put, List.setIfInBounds_toArray, List.set_cons_zero, List.set_cons_succ, Nat.reduceAdd, List.length_nil, List.length_cons, List.nil_append, List.cons_append]
              refine Stairs.nil ?_
              intro x wR hR hx
              clear hx
              obtain ⟨hcR, hfR, hzR⟩ := nwc hR
              have hfin2 := hfin.trans hR
              clear hcR hfR hzR hR
              go_wp2
              go_roundw
              case rel => exact ⟨j0 + 1, by omega, by go_num, hfin2⟩
              case measure => (simp [intOf] <;> omega)
            · obtain ⟨pe, ke, e1, _, _, _, hec⟩ := hevA
              cases e1
              obtain ⟨b7, o7, vj, rfl, d0, d1, _⟩ := hec (es.length - 1) (by omega)
              have ek : ((es.length : Int) - 1).toNat = es.length - 1 := by omega
              have gd := World.block_lt_of_cell? _ _ d0
              simp only at gd
              have htd : decide (tm es (es.length - 1) ≤ t) = false := decide_eq_false (by omega)
              have hwr : IntKind.wrap .i64 ((es.length : Int) - 1) = (es.length : Int) - 1 := by rw [IntKind.wrap_i64]; omega
              have hz : ((es.length : Int) == 0) = false := beq_eq_false_iff_ne.2 (by omega)
              have hz2 : decide ((es.length : Int) = 0) = false := decide_eq_false (by omega)
              clear hec htt
              generalize tm es (es.length - 1) = tz at *
              refine wp_region_stairs (by kernel_rfl) (by kernel_rfl) (by kernel_rfl) ?_
              iterate 14
                refine Stairs.is ?_ ?_ ?_
                rotate_left 1
                · intro x wR hR hd K hK
                  simp only [Act.put, List.setIfInBounds_toArray, List.set_cons_zero, List.set_cons_succ, Nat.reduceAdd, List.length_nil, List.length_cons, List.nil_append, List.cons_append, Say.ok] at hK ⊢
                  clear hd
                  change Hid _ at hK
                  obtain ⟨hcR, hfR, hzR⟩ := nwc hR
                  first | (refine wanted_yes ?_ ?_; rfl) | (refine wanted_no ?_ ?_; rfl)
                  first | (refine hK.out _ _ ?_ ?_ <;> first | (solve | (repeat (first | assumption | exact Nw.refl _ | refine Nw.alloc ?_ _ | refine Nw.drew ?_ | refine Nw.drewN2 ?_ _ | (refine Nw.trans ?_ (by assumption))))) | ((conv => lhs; whnf) <;> exact rfl) | exact rfl | exact congrArg Value.bool htd | exact congrArg Value.bool hz | exact congrArg Value.bool hz2 | exact congrArg (Value.int .i64) hwr) | (go_step; first | (refine hK.out _ _ ?_ ?_ <;> first | (solve | (repeat (first | assumption | exact Nw.refl _ | refine Nw.alloc ?_ _ | refine Nw.drew ?_ | refine Nw.drewN2 ?_ _ | (refine Nw.trans ?_ (by assumption))))) | ((conv => lhs; whnf) <;> exact rfl) | exact rfl | exact congrArg Value.bool htd | exact congrArg Value.bool hz | exact congrArg Value.bool hz2 | exact congrArg (Value.int .i64) hwr) | ((first | fail); (refine hK.out _ _ ?_ ?_ <;> first | (solve | (repeat (first | assumption | exact Nw.refl _ | refine Nw.alloc ?_ _ | refine Nw.drew ?_ | refine Nw.drewN2 ?_ _ | (refine Nw.trans ?_ (by assumption))))) | ((conv => lhs; whnf) <;> exact rfl) | exact rfl | exact congrArg Value.bool htd | exact congrArg Value.bool hz | exact congrArg Value.bool hz2 | exact congrArg (Value.int .i64) hwr)))
                try simp only [Act.put, List.setIfInBounds_toArray, List.set_cons_zero, List.set_cons_succ, Nat.reduceAdd, List.length_nil, List.length_cons, List.nil_append, List.cons_append]
              iterate 1
                refine Stairs.is (.bool false) ?_ ?_
                · intro x wR hR hd K hK
                  simp only [Act.put, List.setIfInBounds_toArray, List.set_cons_zero, List.set_cons_succ, Nat.reduceAdd, List.length_nil, List.length_cons, List.nil_append, List.cons_append, Say.ok] at hK ⊢
                  clear hd
                  change Hid _ at hK
                  obtain ⟨hcR, hfR, hzR⟩ := nwc hR
                  first | (refine wanted_yes ?_ ?_; rfl) | (refine wanted_no ?_ ?_; rfl)
                  first | (refine hK.out _ _ ?_ ?_ <;> first | (solve | (repeat (first | assumption | exact Nw.refl _ | refine Nw.alloc ?_ _ | refine Nw.drew ?_ | refine Nw.drewN2 ?_ _ | (refine Nw.trans ?_ (by assumption))))) | ((conv => lhs; whnf) <;> exact rfl) | exact rfl | exact congrArg Value.bool htd | exact congrArg Value.bool hz | exact congrArg Value.bool hz2 | exact congrArg (Value.int .i64) hwr) | (go_step; first | (refine hK.out _ _ ?_ ?_ <;> first | (solve | (repeat (first | assumption | exact Nw.refl _ | refine Nw.alloc ?_ _ | refine Nw.drew ?_ | refine Nw.drewN2 ?_ _ | (refine Nw.trans ?_ (by assumption))))) | ((conv => lhs; whnf) <;> exact rfl) | exact rfl | exact congrArg Value.bool htd | exact congrArg Value.bool hz | exact congrArg Value.bool hz2 | exact congrArg (Value.int .i64) hwr) | ((first | fail); (refine hK.out _ _ ?_ ?_ <;> first | (solve | (repeat (first | assumption | exact Nw.refl _ | refine Nw.alloc ?_ _ | refine Nw.drew ?_ | refine Nw.drewN2 ?_ _ | (refine Nw.trans ?_ (by assumption))))) | ((conv => lhs; whnf) <;> exact rfl) | exact rfl | exact congrArg Value.bool htd | exact congrArg Value.bool hz | exact congrArg Value.bool hz2 | exact congrArg (Value.int .i64) hwr)))
                try simp only [Act.put, List.setIfInBounds_toArray, List.set_cons_zero, List.set_cons_succ, Nat.reduceAdd, List.length_nil, List.length_cons, List.nil_append, List.cons_append]
              iterate 7
                refine Stairs.is ?_ ?_ ?_
                rotate_left 1
                · intro x wR hR hd K hK
                  simp only [Act.put, List.setIfInBounds_toArray, List.set_cons_zero, List.set_cons_succ, Nat.reduceAdd, List.length_nil, List.length_cons, List.nil_append, List.cons_append, Say.ok] at hK ⊢
                  clear hd
                  change Hid _ at hK
                  obtain ⟨hcR, hfR, hzR⟩ := nwc hR
                  first | (refine wanted_yes ?_ ?_; rfl) | (refine wanted_no ?_ ?_; rfl)
                  first | (refine hK.out _ _ ?_ ?_ <;> first | (solve | (repeat (first | assumption | exact Nw.refl _ | refine Nw.alloc ?_ _ | refine Nw.drew ?_ | refine Nw.drewN2 ?_ _ | (refine Nw.trans ?_ (by assumption))))) | ((conv => lhs; whnf) <;> exact rfl) | exact rfl | exact congrArg Value.bool htd | exact congrArg Value.bool hz | exact congrArg Value.bool hz2 | exact congrArg (Value.int .i64) hwr) | (go_step; first | (refine hK.out _ _ ?_ ?_ <;> first | (solve | (repeat (first | assumption | exact Nw.refl _ | refine Nw.alloc ?_ _ | refine Nw.drew ?_ | refine Nw.drewN2 ?_ _ | (refine Nw.trans ?_ (by assumption))))) | ((conv => lhs; whnf) <;> exact rfl) | exact rfl | exact congrArg Value.bool htd | exact congrArg Value.bool hz | exact congrArg Value.bool hz2 | exact congrArg (Value.int .i64) hwr) | ((first | fail); (refine hK.out _ _ ?_ ?_ <;> first | (solve | (repeat (first | assumption | exact Nw.refl _ | refine Nw.alloc ?_ _ | refine Nw.drew ?_ | refine Nw.drewN2 ?_ _ | (refine Nw.trans ?_ (by assumption))))) | ((conv => lhs; whnf) <;> exact rfl) | exact rfl | exact congrArg Value.bool htd | exact congrArg Value.bool hz | exact congrArg Value.bool hz2 | exact congrArg (Value.int .i64) hwr)))
                try simp only [Act.put, List.setIfInBounds_toArray, List.set_cons_zero, List.set_cons_succ, Nat.reduceAdd, List.length_nil, List.length_cons, List.nil_append, List.cons_append]
              iterate 1
                refine Stairs.is (.int .i64 ((es.length : Int) - 1)) ?_ ?_
                · intro x wR hR hd K hK
                  simp only [Act.put, List.setIfInBounds_toArray, List.set_cons_zero, List.set_cons_succ, Nat.reduceAdd, List.length_nil, List.length_cons, List.nil_append, List.cons_append, Say.ok] at hK ⊢
                  clear hd
                  change Hid _ at hK
                  obtain ⟨hcR, hfR, hzR⟩ := nwc hR
                  first | (refine wanted_yes ?_ ?_; rfl) | (refine wanted_no ?_ ?_; rfl)
                  first | (refine hK.out _ _ ?_ ?_ <;> first | (solve | (repeat (first | assumption | exact Nw.refl _ | refine Nw.alloc ?_ _ | refine Nw.drew ?_ | refine Nw.drewN2 ?_ _ | (refine Nw.trans ?_ (by assumption))))) | ((conv => lhs; whnf) <;> exact rfl) | exact rfl | exact congrArg Value.bool htd | exact congrArg Value.bool hz | exact congrArg Value.bool hz2 | exact congrArg (Value.int .i64) hwr) | (go_step; first | (refine hK.out _ _ ?_ ?_ <;> first | (solve | (repeat (first | assumption | exact Nw.refl _ | refine Nw.alloc ?_ _ | refine Nw.drew ?_ | refine Nw.drewN2 ?_ _ | (refine Nw.trans ?_ (by assumption))))) | ((conv => lhs; whnf) <;> exact rfl) | exact rfl | exact congrArg Value.bool htd | exact congrArg Value.bool hz | exact congrArg Value.bool hz2 | exact congrArg (Value.int .i64) hwr) | ((first | fail); (refine hK.out _ _ ?_ ?_ <;> first | (solve | (repeat (first | assumption | exact Nw.refl _ | refine Nw.alloc ?_ _ | refine Nw.drew ?_ | refine Nw.drewN2 ?_ _ | (refine Nw.trans ?_ (by assumption))))) | ((conv => lhs; whnf) <;> exact rfl) | exact rfl | exact congrArg Value.bool htd | exact congrArg Value.bool hz | exact congrArg Value.bool hz2 | exact congrArg (Value.int .i64) hwr)))
                try simp only [Act.put, List.setIfInBounds_toArray, List.set_cons_zero, List.set_cons_succ, Nat.reduceAdd, List.length_nil, List.length_cons, List.nil_append, List.cons_append]
              iterate 3
                refine Stairs.is ?_ ?_ ?_
                rotate_left 1
                · intro x wR hR hd K hK
                  simp only [Act.put, List.setIfInBounds_toArray, List.set_cons_zero, List.set_cons_succ, Nat.reduceAdd, List.length_nil, List.length_cons, List.nil_append, List.cons_append, Say.ok] at hK ⊢
                  clear hd
                  change Hid _ at hK
                  obtain ⟨hcR, hfR, hzR⟩ := nwc hR
                  first | (refine wanted_yes ?_ ?_; rfl) | (refine wanted_no ?_ ?_; rfl)
                  first | (refine hK.out _ _ ?_ ?_ <;> first | (solve | (repeat (first | assumption | exact Nw.refl _ | refine Nw.alloc ?_ _ | refine Nw.drew ?_ | refine Nw.drewN2 ?_ _ | (refine Nw.trans ?_ (by assumption))))) | ((conv => lhs; whnf) <;> exact rfl) | exact rfl | exact congrArg Value.bool htd | exact congrArg Value.bool hz | exact congrArg Value.bool hz2 | exact congrArg (Value.int .i64) hwr) | (go_step; first | (refine hK.out _ _ ?_ ?_ <;> first | (solve | (repeat (first | assumption | exact Nw.refl _ | refine Nw.alloc ?_ _ | refine Nw.drew ?_ | refine Nw.drewN2 ?_ _ | (refine Nw.trans ?_ (by assumption))))) | ((conv => lhs; whnf) <;> exact rfl) | exact rfl | exact congrArg Value.bool htd | exact congrArg Value.bool hz | exact congrArg Value.bool hz2 | exact congrArg (Value.int .i64) hwr) | ((first | fail); (refine hK.out _ _ ?_ ?_ <;> first | (solve | (repeat (first | assumption | exact Nw.refl _ | refine Nw.alloc ?_ _ | refine Nw.drew ?_ | refine Nw.drewN2 ?_ _ | (refine Nw.trans ?_ (by assumption))))) | ((conv => lhs; whnf) <;> exact rfl) | exact rfl | exact congrArg Value.bool htd | exact congrArg Value.bool hz | exact congrArg Value.bool hz2 | exact congrArg (Value.int .i64) hwr)))
                try simp only [Act.put, List.setIfInBounds_toArray, List.set_cons_zero, List.set_cons_succ, Nat.reduceAdd, List.length_nil, List.length_cons, List.nil_append, List.cons_append]
              iterate 1
                refine Stairs.is (.bool false) ?_ ?_
                · intro x wR hR hd K hK
                  simp only [Act.put, List.setIfInBounds_toArray, List.set_cons_zero, List.set_cons_succ, Nat.reduceAdd, List.length_nil, List.length_cons, List.nil_append, List.cons_append, Say.ok] at hK ⊢
                  clear hd
                  change Hid _ at hK
                  obtain ⟨hcR, hfR, hzR⟩ := nwc hR
                  first | (refine wanted_yes ?_ ?_; rfl) | (refine wanted_no ?_ ?_; rfl)
                  first | (refine hK.out _ _ ?_ ?_ <;> first | (solve | (repeat (first | assumption | exact Nw.refl _ | refine Nw.alloc ?_ _ | refine Nw.drew ?_ | refine Nw.drewN2 ?_ _ | (refine Nw.trans ?_ (by assumption))))) | ((conv => lhs; whnf) <;> exact rfl) | exact rfl | exact congrArg Value.bool htd | exact congrArg Value.bool hz | exact congrArg Value.bool hz2 | exact congrArg (Value.int .i64) hwr) | (go_step; first | (refine hK.out _ _ ?_ ?_ <;> first | (solve | (repeat (first | assumption | exact Nw.refl _ | refine Nw.alloc ?_ _ | refine Nw.drew ?_ | refine Nw.drewN2 ?_ _ | (refine Nw.trans ?_ (by assumption))))) | ((conv => lhs; whnf) <;> exact rfl) | exact rfl | exact congrArg Value.bool htd | exact congrArg Value.bool hz | exact congrArg Value.bool hz2 | exact congrArg (Value.int .i64) hwr) | ((first | fail); (refine hK.out _ _ ?_ ?_ <;> first | (solve | (repeat (first | assumption | exact Nw.refl _ | refine Nw.alloc ?_ _ | refine Nw.drew ?_ | refine Nw.drewN2 ?_ _ | (refine Nw.trans ?_ (by assumption))))) | ((conv => lhs; whnf) <;> exact rfl) | exact rfl | exact congrArg Value.bool htd | exact congrArg Value.bool hz | exact congrArg Value.bool hz2 | exact congrArg (Value.int .i64) hwr)))
                try simp only [Act.put, List.setIfInBounds_toArray, List.set_cons_zero, List.set_cons_succ, Nat.reduceAdd, List.length_nil, List.length_cons, List.nil_append, List.cons_append]
              iterate 16
                refine Stairs.is ?_ ?_ ?_
                rotate_left 1
                · intro x wR hR hd K hK
                  simp only [Act.put, List.setIfInBounds_toArray, List.set_cons_zero, List.set_cons_succ, Nat.reduceAdd, List.length_nil, List.length_cons, List.nil_append, List.cons_append, Say.ok] at hK ⊢
                  clear hd
                  change Hid _ at hK
                  obtain ⟨hcR, hfR, hzR⟩ := nwc hR
                  first | (refine wanted_yes ?_ ?_; rfl) | (refine wanted_no ?_ ?_; rfl)
                  first | (refine hK.out _ _ ?_ ?_ <;> first | (solve | (repeat (first | assumption | exact Nw.refl _ | refine Nw.alloc ?_ _ | refine Nw.drew ?_ | refine Nw.drewN2 ?_ _ | (refine Nw.trans ?_ (by assumption))))) | ((conv => lhs; whnf) <;> exact rfl) | exact rfl | exact congrArg Value.bool htd | exact congrArg Value.bool hz | exact congrArg Value.bool hz2 | exact congrArg (Value.int .i64) hwr) | (go_step; first | (refine hK.out _ _ ?_ ?_ <;> first | (solve | (repeat (first | assumption | exact Nw.refl _ | refine Nw.alloc ?_ _ | refine Nw.drew ?_ | refine Nw.drewN2 ?_ _ | (refine Nw.trans ?_ (by assumption))))) | ((conv => lhs; whnf) <;> exact rfl) | exact rfl | exact congrArg Value.bool htd | exact congrArg Value.bool hz | exact congrArg Value.bool hz2 | exact congrArg (Value.int .i64) hwr) | ((first | fail); (refine hK.out _ _ ?_ ?_ <;> first | (solve | (repeat (first | assumption | exact Nw.refl _ | refine Nw.alloc ?_ _ | refine Nw.drew ?_ | refine Nw.drewN2 ?_ _ | (refine Nw.trans ?_ (by assumption))))) | ((conv => lhs; whnf) <;> exact rfl) | exact rfl | exact congrArg Value.bool htd | exact congrArg Value.bool hz | exact congrArg Value.bool hz2 | exact congrArg (Value.int .i64) hwr)))
                try simp only [Act.put, List.setIfInBounds_toArray, List.set_cons_zero, List.set_cons_succ, Nat.reduceAdd, List.length_nil, List.length_cons, List.nil_append, List.cons_append]
              refine Stairs.nil ?_
              intro x wR hR hx
              clear hx
              obtain ⟨hcR, hfR, hzR⟩ := nwc hR
              have hfin2 := hfin.trans hR
              clear hcR hfR hzR hR
              go_wp2
              go_roundw
              case rel => exact ⟨j0 + 1, by omega, by go_num, hfin2⟩
              case measure => (simp [intOf] <;> omega)
    · obtain rfl : j0 = 3 := by omega
      have hdj0 : decide (((3 : Nat) : Int) < 3) = false := rfl
      clear HAR HNW0
      rw [show ((3 : Nat) : Int) = 3 from rfl] at *
      go_wp2_with (first
        | (go_at_call 15; refine (awake_c _).mono ?_; rintro e w9 ⟨rfl, hn9⟩)
        | fail)
      go_ret
      exact ⟨rfl, HN4.out.trans (hn4r.trans hn9)⟩
end Sc
end Go.Proofs.Ytdihoedehmfgfaa
