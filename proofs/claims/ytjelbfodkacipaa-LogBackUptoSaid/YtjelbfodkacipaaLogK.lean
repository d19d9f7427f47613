/- LogBack walked: it returns true. No condition but lengths. -/
import Derived.Test.YtjelbfodkacipaaLogJ
set_option linter.unusedSimpArgs false
set_option linter.unusedVariables false
namespace Go.Proofs.Ytjelbfodkacipaa
open Go.ChangeShapes Go.WideShapes Go.ChangeAt Go.RowKit
namespace Lg
open Go.Proofs.Ytjelbfodkacipaa.Lx (isIn nameB strs_open strs_cell)
open Go.Proofs.Ytjelbfodkacipaa.Sum (byte put right Hands8 HandsR)
open Go.Proofs.Ytjelbfodkacipaa.Tr (T Es tm ids mayP namesP nmB nOk Evs EC Small In EvIn box2 lt_alloc TrR evs_shape samet_same makeP make_may make_len make_small make_c3 u16s u16s_length pqr rmay_c)
/-- What a round of LogBack calls, of a trace that may be. -/
structure BackC (w : World) (u : Value) (n m : Nat) (a : T) : Prop where
  may : ∀ w', Nw w w' → Calls Try.prog 40 #[u] w' (Gives (.bool (mayP a)) w')
  enc : ∀ w', Nw w w' → Calls Try.prog 33 #[u] w' (Hands8 w' (encP a))
  same : ∀ w' v, Nw w w' → TrR w' v a → Calls Try.prog 31 #[u, v] w' (Gives (.bool true) w')
  dec : ∀ w' v, Bytes w' v (encP a) → mayP a = true → Calls Try.prog 38 #[v] w' (HandsD w' (a, ((m : Int), (0 : Int))))
  head : ∀ w' v, Bytes w' v (encP a) → mayP a = true → ∃ k : Nat, k ≤ (encP a).length ∧ Calls Try.prog 41 #[v] w' (HandsHd w' (a.names, (k : Int), 0))
  len : a.names.length = n ∧ a.evs.length = m
  small : (encP a).length ≤ 1000000000
  no : mayP a = false → encP a = []
theorem enc_le (t : T) (hlen : t.evs.length ≤ 10000000) : (encP t).length ≤ 1000000000 := by
  unfold encP
  split
  · rename_i h
    have := enc_small t h t.evs.length
    rw [List.take_length] at this
    omega
  · exact Nat.zero_le _
theorem backC {w : World} {vn ve : Value} {a : T} {n m : Nat} (hvn : Sl w vn (Lx.strs a.names)) (hve : Evs w ve a.evs) (ha : Small a) (hlen : a.evs.length ≤ 10000000) (htb : Tb a.evs) (hn : a.names.length = n) (hm : a.evs.length = m) : BackC w (.agg #[vn, ve]) n m a where
  may w' h := rmay_c vn ve a w' (hvn.nw h) (hve.nw h) ha.s
  enc w' h := encode_c vn ve a w' (hvn.nw h) (hve.nw h) ha hlen htb
  same w' v h hv := samet_same _ v a w' ⟨_, _, rfl, hvn.nw h, hve.nw h⟩ hv
  dec w' v hb hM := by
    have := decode_c v (encP a) w' hb (enc_le a hlen)
    rw [(back hM htb).1] at this
    rw [← hm]
    exact this
  head w' v hb hM := by
    have := head_c v (encP a) w' hb (enc_le a hlen)
    rw [(back hM htb).2.1] at this
    exact ⟨_, (back hM htb).2.2, this⟩
  len := ⟨hn, hm⟩
  small := enc_le a hlen
  no h := by unfold encP; rw [if_neg (by rw [h]; decide)]
set_option maxRecDepth 20000 in
set_option maxHeartbeats 1600000 in
theorem back_walk (vn ve : Value) (t : T) (start : Int) (h0 : 0 ≤ start) (h64 : start < 18446744073709551616) (v1 : Value) (ns : List Nat) (w : World) (hvn : Sl w vn (Lx.strs t.names)) (hve : Evs w ve t.evs) (ha : Small t) (hlen : t.evs.length ≤ 10000000) (htb : Tb t.evs) (hv1 : Sl w v1 (u16s ns)) (hns : ∀ n ∈ ns, n ≤ 65535) :
    Calls Try.prog 13 #[.agg #[vn, ve], .int .u64 start, v1] w fun e w' => e = .returned (.bool true) ∧ Nw w w' := by
  have HM1 := hid (fun w' (h : Nw w w') => make_c3 start h0 h64 v1 ns w' (hv1.nw h) hns)
  have HC := hid (fun w' (h : Nw w w') => backC (hvn.nw h) (hve.nw h) ha hlen htb rfl rfl)
  have HCM := hid (fun (x y : Value) w' (h1 : Sl w' x (Lx.strs pqr)) (h2 : Evs w' y (makeP start ns).evs) => backC (n := 3) (a := makeP start ns) h1 h2 (make_small start h0 ns) (Nat.le_trans (make_len start h0 ns) (by decide)) (make_tb start h0 ns) rfl rfl)
  obtain ⟨p1, k1, rfl, _, _, _, _⟩ := strs_open hvn
  obtain ⟨p3, k3, rfl, _, _, _, _⟩ := hve
  obtain ⟨p5, k5, rfl, _, _, _, _⟩ := hv1.open (u16s_length ns)
  clear ha hvn hv1 hns hlen htb
  generalize makeP start ns = a at *
  generalize t.names.length = na at *
  generalize t.evs.length = ea at *
  generalize ns.length = nl at *
  go_enter Try.func13, Try.ntmps13
  go_upto_region 1 with fail
  obtain ⟨x0, x1⟩ := box2 w (.slice p1 na k1) (.slice p3 ea k3) 26
  have hn0 := (Nw.refl w).alloc (.cells #[.slice p1 na k1, .slice p3 ea k3] 26)
  have hz0 := lt_alloc w (.cells #[.slice p1 na k1, .slice p3 ea k3] 26)
  generalize w.alloc (.cells #[.slice p1 na k1, .slice p3 ea k3] 26) = w0 at *
  go_upto_region 2 with (first
    | (go_at_call 23; refine (HM1.out _ (by repeat (first | assumption | exact Nw.refl _ | refine Nw.alloc ?_ _ | refine Nw.drew ?_ | refine Nw.drewN2 ?_ _ | (refine Nw.trans ?_ (by assumption))))).mono ?_; rintro e w2 ⟨q1, c1, q2, c2, rfl, hs1, he1, hn2⟩)
    | fail)
  replace x0 := hn2.cell x0
  replace x1 := hn2.cell x1
  generalize a.evs.length = n at *
  obtain ⟨u0, u1⟩ := box2 w2 (.slice q1 3 c1) (.slice q2 n c2) 26
  have hn3 := (Nw.refl w2).alloc (.cells #[.slice q1 3 c1, .slice q2 n c2] 26)
  have lu := lt_alloc w2 (.cells #[.slice q1 3 c1, .slice q2 n c2] 26)
  replace x0 := hn3.cell x0
  replace x1 := hn3.cell x1
  replace hz0 := Nat.lt_of_lt_of_le hz0 (Nat.le_trans hn2.size hn3.size)
  replace hs1 := hs1.nw hn3
  replace he1 := he1.nw hn3
  have hw3 : Nw w (w2.alloc (.cells #[.slice q1 3 c1, .slice q2 n c2] 26)) := hn0.trans (hn2.trans hn3)
  clear hn0 hn2 hn3 HM1
  generalize w2.alloc (.cells #[.slice q1 3 c1, .slice q2 n c2] 26) = w3 at *
  generalize w2.heap.size = g9' at *
  have HC0 := hid (HC.out w3 hw3)
  have HC1 := hid (HCM.out _ _ w3 hs1 he1)
  clear hs1 he1 HC HCM
  have i0 : ∀ w', (Instr.index 44 (.agg #[.slice p1 na k1, .slice p3 ea k3, .slice q1 3 c1, .slice q2 n c2]) (.int .i64 0)).run Try.prog w' = .ok (.agg #[.slice p1 na k1, .slice p3 ea k3]) w' := fun _ => by kernel_rfl
  have i1 : ∀ w', (Instr.index 44 (.agg #[.slice p1 na k1, .slice p3 ea k3, .slice q1 3 c1, .slice q2 n c2]) (.int .i64 1)).run Try.prog w' = .ok (.agg #[.slice q1 3 c1, .slice q2 n c2]) w' := fun _ => by kernel_rfl
  go_wp2
  clear x0 x1 u0 u1 hz0 lu
  go_loopw [9, 10, 11, 12, 13, 14, 15, 16, 23] (fun _ _ _ _ _ _ _ _ i wr => ∃ k : Nat, k ≤ 2 ∧ i = .int .i64 k ∧ Nw w3 wr) (fun _ _ _ _ _ _ _ _ i _ => 2 - (intOf i).toNat)
  case atStart => exact ⟨0, by omega, rfl, Nw.refl _⟩
  case round =>
    obtain ⟨k, hk, rfl, hn⟩ := hrel
    match k, hk with
    | 0, _ =>
      rw [show ((0 : Nat) : Int) = 0 from rfl]
      -- HC0: the package; (.slice p1 na k1), (.slice p3 ea k3): the slices; na: names' length; ea: events' length; 1: the next number; t: the trace
      go_upto_region 5 with fail
      obtain ⟨z0, z1⟩ := box2 wr (.slice p1 na k1) (.slice p3 ea k3) 26
      have hnz := (Nw.refl wr).alloc (.cells #[(.slice p1 na k1), (.slice p3 ea k3)] 26)
      have lz := lt_alloc wr (.cells #[(.slice p1 na k1), (.slice p3 ea k3)] 26)
      have hnz2 := hn.trans hnz
      clear i0 i1
      generalize wr.alloc (.cells #[(.slice p1 na k1), (.slice p3 ea k3)] 26) = wz at *
      generalize wr.heap.size = g9 at *
      cases hM : mayP t with
      | false =>
        have HNO := hid (HC0.out.no hM)
        have HMY := hid (show ∀ w', Nw wz w' → Calls Try.prog 40 #[.agg #[(.slice p1 na k1), (.slice p3 ea k3)]] w' (Gives (.bool false) w') from fun w' h => by rw [← hM]; exact HC0.out.may w' (hnz2.trans h))
        have HEN := hid (show ∀ w', Nw wz w' → Calls Try.prog 33 #[.agg #[(.slice p1 na k1), (.slice p3 ea k3)]] w' (Hands8 w' []) from fun w' h => by rw [← HNO.out]; exact HC0.out.enc w' (hnz2.trans h))
        go_wp2_with (first
          | (go_at_call 40; refine (HMY.out _ (by repeat (first | assumption | exact Nw.refl _ | refine Nw.alloc ?_ _ | refine Nw.drew ?_ | refine Nw.drewN2 ?_ _ | (refine Nw.trans ?_ (by assumption))))).mono ?_; rintro e w1 ⟨rfl, hn1⟩; replace z0 := hn1.cell z0; replace z1 := hn1.cell z1)
          | (go_at_call 33; refine (HEN.out _ (by repeat (first | assumption | exact Nw.refl _ | refine Nw.alloc ?_ _ | refine Nw.drew ?_ | refine Nw.drewN2 ?_ _ | (refine Nw.trans ?_ (by assumption))))).mono ?_; rintro e w2 ⟨v2, rfl, hown2, hn2⟩; obtain ⟨q2, c2, rfl, _⟩ := hown2.sl.open (n := 0) rfl)
          | fail)
        go_roundw
        case rel => exact ⟨1, by omega, rfl, (by repeat (first | assumption | exact Nw.refl _ | refine Nw.alloc ?_ _ | refine Nw.drew ?_ | refine Nw.drewN2 ?_ _ | (refine Nw.trans ?_ (by assumption))))⟩
        case measure => simp [intOf]
      | true =>
        have HMY := hid (show ∀ w', Nw wz w' → Calls Try.prog 40 #[.agg #[(.slice p1 na k1), (.slice p3 ea k3)]] w' (Gives (.bool true) w') from fun w' h => by rw [← hM]; exact HC0.out.may w' (hnz2.trans h))
        have HEN := hid (show ∀ w', Nw wz w' → Calls Try.prog 33 #[.agg #[(.slice p1 na k1), (.slice p3 ea k3)]] w' (Hands8 w' (encP t)) from fun w' h => HC0.out.enc w' (hnz2.trans h))
        have HSA := hid (fun w' v (h : Nw wz w') => HC0.out.same w' v (hnz2.trans h))
        have HDE := hid (fun w' v (h : Bytes w' v (encP t)) => HC0.out.dec w' v h hM)
        have HHE := hid (fun w' v (h : Bytes w' v (encP t)) => HC0.out.head w' v h hM)
        have hln := HC0.out.len.1
        have hlm := HC0.out.len.2
        have hsm := HC0.out.small
        clear hM
        generalize encP t = em at *
        go_upto_region 9 with (first
          | (go_at_call 40; refine (HMY.out _ (by repeat (first | assumption | exact Nw.refl _ | refine Nw.alloc ?_ _ | refine Nw.drew ?_ | refine Nw.drewN2 ?_ _ | (refine Nw.trans ?_ (by assumption))))).mono ?_; rintro e w1 ⟨rfl, hn1⟩; replace z0 := hn1.cell z0; replace z1 := hn1.cell z1)
          | (go_at_call 33; refine (HEN.out _ (by repeat (first | assumption | exact Nw.refl _ | refine Nw.alloc ?_ _ | refine Nw.drew ?_ | refine Nw.drewN2 ?_ _ | (refine Nw.trans ?_ (by assumption))))).mono ?_; rintro e w2 ⟨v2, rfl, hown2, hn2⟩; replace z0 := hn2.cell z0; replace z1 := hn2.cell z1; have lz2 := Nat.lt_of_lt_of_le lz (Nat.le_trans hn1.size hn2.size); obtain ⟨q2, c2, rfl, _⟩ := hown2.sl.open (u8s_length _))
          | fail)
        have hbe : Bytes w2 (.slice q2 em.length c2) em := hown2.sl
        have hw2 := hn1.trans hn2
        obtain ⟨k, hkl, hh⟩ := HHE.out w2 _ hbe
        clear hh hown2 hn1 hn2 lz
        have HHF := hid (fun w' v h => (HHE.out w' v h))
        clear HHE
        go_upto_region 10 with (first
          | (go_at_call 38; refine (HDE.out _ _ hbe).mono ?_; rintro e w3 h3; obtain ⟨a1, a2, a3, a4, a5, a6, rfl, hr3, hn3, hm3, hk3⟩ := h3.open; dsimp only at hm3 hk3 hr3 ⊢; rw [hlm] at hm3; rw [hln] at hk3; replace hm3 := hm3.symm; replace hk3 := hk3.symm; subst hm3; subst hk3; clear h3)
          | fail)
        obtain ⟨y0, y1⟩ := box2 w3 (.slice a1 na a3) (.slice a4 ea a6) 26
        have hn4 := hn3.alloc (.cells #[.slice a1 na a3, .slice a4 ea a6] 26)
        have hr4 := hr3.nw ((Nw.refl w3).alloc (.cells #[.slice a1 na a3, .slice a4 ea a6] 26))
        have hbe4 := hbe.nw hn4
        have ly := lt_alloc w3 (.cells #[.slice a1 na a3, .slice a4 ea a6] 26)
        have z04 := hn4.cell z0
        have z14 := hn4.cell z1
        have hw4 := hw2.trans hn4
        clear hn3 hn4 hr3 hbe z0 z1 hw2
        generalize w3.alloc (.cells #[.slice a1 na a3, .slice a4 ea a6] 26) = w4 at *
        generalize w3.heap.size = g11 at *
        obtain ⟨k2, hk2, HH2⟩ := HHF.out w4 _ hbe4
        have HH3 := hid HH2
        have hdk : decide ((em.length : Int) < (k2 : Int)) = false := decide_eq_false (by omega)
        clear HH2 HHF k hkl
        have HS4 := hid (fun w' (h : Nw w4 w') => HSA.out w' _ (hw4.trans h) (hr4.nw h))
        clear HSA hr4
        go_wp2_with (first
          | (go_at_call 41; refine HH3.out.mono ?_; rintro e w5 ⟨v5, rfl, hs5, hn5⟩; obtain ⟨q5, c5, rfl, _⟩ := hs5.open (n := na) (by rw [Lx.strs_length]; exact hln); replace z04 := hn5.cell z04; replace z14 := hn5.cell z14; replace y0 := hn5.cell y0; replace y1 := hn5.cell y1; dsimp only)
          | (go_at_call 31; refine (HS4.out _ (by repeat (first | assumption | exact Nw.refl _ | refine Nw.alloc ?_ _ | refine Nw.drew ?_ | refine Nw.drewN2 ?_ _ | (refine Nw.trans ?_ (by assumption))))).mono ?_; rintro e w6 ⟨rfl, hn6⟩; replace z04 := hn6.cell z04; replace z14 := hn6.cell z14)
          | fail)
        go_roundw
        case rel => exact ⟨1, by omega, rfl, (by repeat (first | assumption | exact Nw.refl _ | refine Nw.alloc ?_ _ | refine Nw.drew ?_ | refine Nw.drewN2 ?_ _ | (refine Nw.trans ?_ (by assumption))))⟩
        case measure => simp [intOf]
    | 1, _ =>
      rw [show ((1 : Nat) : Int) = 1 from rfl]
      -- HC1: the package; (.slice q1 3 c1), (.slice q2 n c2): the slices; 3: names' length; n: events' length; 2: the next number; a: the trace
      go_upto_region 5 with fail
      obtain ⟨z0, z1⟩ := box2 wr (.slice q1 3 c1) (.slice q2 n c2) 26
      have hnz := (Nw.refl wr).alloc (.cells #[(.slice q1 3 c1), (.slice q2 n c2)] 26)
      have lz := lt_alloc wr (.cells #[(.slice q1 3 c1), (.slice q2 n c2)] 26)
      have hnz2 := hn.trans hnz
      clear i0 i1
      generalize wr.alloc (.cells #[(.slice q1 3 c1), (.slice q2 n c2)] 26) = wz at *
      generalize wr.heap.size = g9 at *
      cases hM : mayP a with
      | false =>
        have HNO := hid (HC1.out.no hM)
        have HMY := hid (show ∀ w', Nw wz w' → Calls Try.prog 40 #[.agg #[(.slice q1 3 c1), (.slice q2 n c2)]] w' (Gives (.bool false) w') from fun w' h => by rw [← hM]; exact HC1.out.may w' (hnz2.trans h))
        have HEN := hid (show ∀ w', Nw wz w' → Calls Try.prog 33 #[.agg #[(.slice q1 3 c1), (.slice q2 n c2)]] w' (Hands8 w' []) from fun w' h => by rw [← HNO.out]; exact HC1.out.enc w' (hnz2.trans h))
        go_wp2_with (first
          | (go_at_call 40; refine (HMY.out _ (by repeat (first | assumption | exact Nw.refl _ | refine Nw.alloc ?_ _ | refine Nw.drew ?_ | refine Nw.drewN2 ?_ _ | (refine Nw.trans ?_ (by assumption))))).mono ?_; rintro e w1 ⟨rfl, hn1⟩; replace z0 := hn1.cell z0; replace z1 := hn1.cell z1)
          | (go_at_call 33; refine (HEN.out _ (by repeat (first | assumption | exact Nw.refl _ | refine Nw.alloc ?_ _ | refine Nw.drew ?_ | refine Nw.drewN2 ?_ _ | (refine Nw.trans ?_ (by assumption))))).mono ?_; rintro e w2 ⟨v2, rfl, hown2, hn2⟩; obtain ⟨q2, c2, rfl, _⟩ := hown2.sl.open (n := 0) rfl)
          | fail)
        go_roundw
        case rel => exact ⟨2, by omega, rfl, (by repeat (first | assumption | exact Nw.refl _ | refine Nw.alloc ?_ _ | refine Nw.drew ?_ | refine Nw.drewN2 ?_ _ | (refine Nw.trans ?_ (by assumption))))⟩
        case measure => simp [intOf]
      | true =>
        have HMY := hid (show ∀ w', Nw wz w' → Calls Try.prog 40 #[.agg #[(.slice q1 3 c1), (.slice q2 n c2)]] w' (Gives (.bool true) w') from fun w' h => by rw [← hM]; exact HC1.out.may w' (hnz2.trans h))
        have HEN := hid (show ∀ w', Nw wz w' → Calls Try.prog 33 #[.agg #[(.slice q1 3 c1), (.slice q2 n c2)]] w' (Hands8 w' (encP a)) from fun w' h => HC1.out.enc w' (hnz2.trans h))
        have HSA := hid (fun w' v (h : Nw wz w') => HC1.out.same w' v (hnz2.trans h))
        have HDE := hid (fun w' v (h : Bytes w' v (encP a)) => HC1.out.dec w' v h hM)
        have HHE := hid (fun w' v (h : Bytes w' v (encP a)) => HC1.out.head w' v h hM)
        have hln := HC1.out.len.1
        have hlm := HC1.out.len.2
        have hsm := HC1.out.small
        clear hM
        generalize encP a = em at *
        go_upto_region 9 with (first
          | (go_at_call 40; refine (HMY.out _ (by repeat (first | assumption | exact Nw.refl _ | refine Nw.alloc ?_ _ | refine Nw.drew ?_ | refine Nw.drewN2 ?_ _ | (refine Nw.trans ?_ (by assumption))))).mono ?_; rintro e w1 ⟨rfl, hn1⟩; replace z0 := hn1.cell z0; replace z1 := hn1.cell z1)
          | (go_at_call 33; refine (HEN.out _ (by repeat (first | assumption | exact Nw.refl _ | refine Nw.alloc ?_ _ | refine Nw.drew ?_ | refine Nw.drewN2 ?_ _ | (refine Nw.trans ?_ (by assumption))))).mono ?_; rintro e w2 ⟨v2, rfl, hown2, hn2⟩; replace z0 := hn2.cell z0; replace z1 := hn2.cell z1; have lz2 := Nat.lt_of_lt_of_le lz (Nat.le_trans hn1.size hn2.size); obtain ⟨q2, c2, rfl, _⟩ := hown2.sl.open (u8s_length _))
          | fail)
        have hbe : Bytes w2 (.slice q2 em.length c2) em := hown2.sl
        have hw2 := hn1.trans hn2
        obtain ⟨k, hkl, hh⟩ := HHE.out w2 _ hbe
        clear hh hown2 hn1 hn2 lz
        have HHF := hid (fun w' v h => (HHE.out w' v h))
        clear HHE
        go_upto_region 10 with (first
          | (go_at_call 38; refine (HDE.out _ _ hbe).mono ?_; rintro e w3 h3; obtain ⟨a1, a2, a3, a4, a5, a6, rfl, hr3, hn3, hm3, hk3⟩ := h3.open; dsimp only at hm3 hk3 hr3 ⊢; rw [hlm] at hm3; rw [hln] at hk3; replace hm3 := hm3.symm; replace hk3 := hk3.symm; subst hm3; subst hk3; clear h3)
          | fail)
        obtain ⟨y0, y1⟩ := box2 w3 (.slice a1 3 a3) (.slice a4 n a6) 26
        have hn4 := hn3.alloc (.cells #[.slice a1 3 a3, .slice a4 n a6] 26)
        have hr4 := hr3.nw ((Nw.refl w3).alloc (.cells #[.slice a1 3 a3, .slice a4 n a6] 26))
        have hbe4 := hbe.nw hn4
        have ly := lt_alloc w3 (.cells #[.slice a1 3 a3, .slice a4 n a6] 26)
        have z04 := hn4.cell z0
        have z14 := hn4.cell z1
        have hw4 := hw2.trans hn4
        clear hn3 hn4 hr3 hbe z0 z1 hw2
        generalize w3.alloc (.cells #[.slice a1 3 a3, .slice a4 n a6] 26) = w4 at *
        generalize w3.heap.size = g11 at *
        obtain ⟨k2, hk2, HH2⟩ := HHF.out w4 _ hbe4
        have HH3 := hid HH2
        have hdk : decide ((em.length : Int) < (k2 : Int)) = false := decide_eq_false (by omega)
        clear HH2 HHF k hkl
        have HS4 := hid (fun w' (h : Nw w4 w') => HSA.out w' _ (hw4.trans h) (hr4.nw h))
        clear HSA hr4
        go_wp2_with (first
          | (go_at_call 41; refine HH3.out.mono ?_; rintro e w5 ⟨v5, rfl, hs5, hn5⟩; obtain ⟨q5, c5, rfl, _⟩ := hs5.open (n := 3) (by rw [Lx.strs_length]; exact hln); replace z04 := hn5.cell z04; replace z14 := hn5.cell z14; replace y0 := hn5.cell y0; replace y1 := hn5.cell y1; dsimp only)
          | (go_at_call 31; refine (HS4.out _ (by repeat (first | assumption | exact Nw.refl _ | refine Nw.alloc ?_ _ | refine Nw.drew ?_ | refine Nw.drewN2 ?_ _ | (refine Nw.trans ?_ (by assumption))))).mono ?_; rintro e w6 ⟨rfl, hn6⟩; replace z04 := hn6.cell z04; replace z14 := hn6.cell z14)
          | fail)
        go_roundw
        case rel => exact ⟨2, by omega, rfl, (by repeat (first | assumption | exact Nw.refl _ | refine Nw.alloc ?_ _ | refine Nw.drew ?_ | refine Nw.drewN2 ?_ _ | (refine Nw.trans ?_ (by assumption))))⟩
        case measure => simp [intOf]
    | 2, _ =>
      rw [show ((2 : Nat) : Int) = 2 from rfl]
      clear i0 i1
      go_wp2_with (first
        | (go_at_call 35; refine (awake_c _).mono ?_; rintro e w5 ⟨rfl, hn5⟩)
        | fail)
      go_ret
      exact ⟨rfl, hw3.trans (hn.trans hn5)⟩
end Lg
end Go.Proofs.Ytjelbfodkacipaa
