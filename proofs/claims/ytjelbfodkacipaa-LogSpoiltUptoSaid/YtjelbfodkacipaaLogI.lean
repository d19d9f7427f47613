/- The contracts of the laws' awake, Spoil and read of layer 10. No condition but lengths. -/
import Derived.Test.YtjelbfodkacipaaLogC
import Derived.Test.YtjelbfodkacipaaLogG
import Derived.Test.YtjelbfodkacipaaLogH
import Derived.Test.YtjelbfodkacipaaTrK
set_option linter.unusedSimpArgs false
set_option linter.unusedVariables false
namespace Go.Proofs.Ytjelbfodkacipaa
open Go.ChangeShapes Go.WideShapes Go.ChangeAt Go.RowKit
theorem Own.cut {w : World} {B g n cap : Nat} {e : TypeId} {xs : List Value} (h : Own w B e (.slice (some ⟨g, 0, none⟩) n cap) xs) (hn : n = xs.length) (m : Nat) (hm : m ≤ n) : Own w B e (.slice (some ⟨g, 0, none⟩) m cap) (xs.take m) := by
  subst hn
  obtain ⟨h1, h2⟩ := h
  have hl : (xs.take m).length = m := by rw [List.length_take]; omega
  unfold Own
  rw [hl]
  refine ⟨by rw [hl, Nat.mul_one], Or.inr ?_⟩
  rcases h2 with ⟨h3, _⟩ | ⟨g', cap', cur, h3, h4, h5, h6, h7, h8, h9⟩
  · cases h3
  · cases h3
    refine ⟨_, _, cur, rfl, h4, h5, by omega, h7, h8, ?_⟩
    rw [Nat.mul_one] at h9 ⊢
    rw [← h9, List.take_take, Nat.min_eq_left hm]
theorem own_at' {w : World} {B : Nat} {e : TypeId} {v : Value} {xs : List Value} {n : Nat} (h : Own w B e v xs) (hn : xs.length = n) (h0 : 0 < n) : ∃ g cap, v = .slice (some ⟨g, 0, none⟩) n cap ∧ B ≤ g ∧ n ≤ cap ∧ cap ≤ maxLen ∧ Own w B e (.slice (some ⟨g, 0, none⟩) n cap) xs ∧ Cells w (some ⟨g, 0, none⟩) xs := by
  subst hn
  obtain ⟨g, cap, h1, h2, h3, h4⟩ := h.opened h0
  subst h1
  obtain ⟨_, _, e, _, _, _, hc⟩ := h.sl
  cases e
  exact ⟨g, cap, rfl, h2, h3, h4, h, hc⟩
theorem u16_of (n : Int) (h : 0 ≤ n ∧ n ≤ 65535) : ∃ m : Nat, n = (m : Int) ∧ m ≤ 65535 := ⟨n.toNat, by omega, by omega⟩
namespace Lg
open Go.Proofs.Ytjelbfodkacipaa.Lx (isIn nameB strs_open strs_cell)
open Go.Proofs.Ytjelbfodkacipaa.Sum (byte put right Hands8 HandsR)
open Go.Proofs.Ytjelbfodkacipaa.Rec (rises rec_ get putE rec_len put_len i64s_open i64_cell HandsGO)
open Go.Proofs.Ytjelbfodkacipaa.Tr (T Es tm ids mayP namesP nmB nOk namesTo Evs EC Small box2 lt_alloc TrR EvOwn HandsTE evs_shape samet_same)
theorem HandsD.open {w w' : World} {r : T × Int × Int} {e : Ending} (h : HandsD w r e w') : ∃ q n c p m d, e = .returned (.tuple #[.agg #[.slice q n c, .slice p m d], .int .i64 r.2.1, .int .i64 r.2.2]) ∧ TrR w' (.agg #[.slice q n c, .slice p m d]) r.1 ∧ Nw w w' ∧ m = r.1.evs.length ∧ n = r.1.names.length := by
  obtain ⟨v, rfl, ⟨v1, v2, rfl, h1, h2⟩, h3⟩ := h
  obtain ⟨q, c, rfl, _⟩ := strs_open h1
  obtain ⟨p, d, rfl⟩ := evs_shape h2
  exact ⟨q, _, c, p, _, d, rfl, ⟨_, _, rfl, h1, h2⟩, h3, rfl, rfl⟩
/-! ### awake -/
def B9 : List UInt8 := encP ⟨[], []⟩
theorem b9_dec : decP B9 = ((⟨[], []⟩ : T), ((0 : Int), (0 : Int))) := (back (t := ⟨[], []⟩) (by decide +kernel) (fun i hi => by cases hi)).1
theorem b9_head : headL B9 = ([], 9, 0) := by decide +kernel
theorem b9_len : B9.length = 9 := by decide +kernel
theorem b9_0 : B9[0]? = some 87 := by decide +kernel
theorem b9_3 : B9[3]? = some 1 := by decide +kernel
theorem none_small : Small ⟨[], []⟩ := ⟨Nat.zero_le _, Nat.zero_le _, fun i hi => (by cases hi), fun s hs => (by cases hs)⟩
set_option maxRecDepth 20000 in
set_option maxHeartbeats 1600000 in
theorem awake_c (w : World) : Calls Try.prog 35 #[] w (Gives (.bool true) w) := by
  have HE := hid (fun w' => show Calls Try.prog 33 #[.agg #[.slice none 0 0, .slice none 0 0]] w' (Hands8 w' B9) from encode_c _ _ ⟨[], []⟩ w' (Sl.nil _) (Evs.nil _) none_small (Nat.zero_le _) (fun i hi => by cases hi))
  have HD := hid (fun w' v (h : Bytes w' v B9) => show Calls Try.prog 38 #[v] w' (HandsD w' ((⟨[], []⟩ : T), ((0 : Int), (0 : Int)))) by rw [← b9_dec]; exact decode_c v B9 w' h (by rw [b9_len]; decide))
  have HH := hid (fun w' v (h : Bytes w' v B9) => show Calls Try.prog 41 #[v] w' (HandsHd w' ([], 9, 0)) by rw [← b9_head]; exact head_c v B9 w' h (by rw [b9_len]; decide))
  have HL := hid b9_len
  have H0 := hid b9_0
  have H3 := hid b9_3
  generalize B9 = B at *
  go_enter Try.func35, Try.ntmps35
  go_upto_region 2 with (first
    | (go_at_call 33; refine (HE.out _).mono ?_; rintro e w1 ⟨v1, rfl, hown1, hn1⟩; obtain ⟨p1, c1, rfl, hc1, hm1, _, hcs1⟩ := hown1.sl.open (n := 9) (by rw [u8s_length]; exact HL.out); have hby : Bytes w1 (.slice p1 9 c1) B := hown1.sl)
    | fail)
  obtain ⟨g, o, rfl⟩ := hcs1.place (by rw [u8s_length, HL.out]; decide)
  have q0 := bcell hcs1 0 (by rw [HL.out]; decide)
  have q3 := bcell hcs1 3 (by rw [HL.out]; decide)
  rw [show sz B 0 = 87 by unfold sz; rw [List.getD_eq_getElem?_getD, H0.out]; rfl, Nat.add_zero, show ((87 : Nat) : Int) = 87 from rfl] at q0
  rw [show sz B 3 = 1 by unfold sz; rw [List.getD_eq_getElem?_getD, H3.out]; rfl, show ((1 : Nat) : Int) = 1 from rfl] at q3
  clear hcs1 hown1
  go_upto_region 3 with (first
    | (go_at_call 38; refine (HD.out _ _ (hby.nw (by repeat (first | assumption | exact Nw.refl _ | refine Nw.alloc ?_ _ | refine Nw.drew ?_ | refine Nw.drewN2 ?_ _ | (refine Nw.trans ?_ (by assumption)))))).mono ?_; rintro e w2 h2; obtain ⟨a1, a2, a3, a4, a5, a6, rfl, hr2, hn2, hm2, hk2⟩ := h2.open; dsimp only at hm2 hk2; subst hm2; subst hk2; clear h2; dsimp only at hr2 ⊢)
    | fail)
  obtain ⟨p0, p1'⟩ := box2 w2 (.slice a1 0 a3) (.slice a4 0 a6) 26
  have hn3 := hn2.alloc (.cells #[.slice a1 0 a3, .slice a4 0 a6] 26)
  have hb3 := hby.nw hn3
  have q0 := hn3.cell q0
  have q3 := hn3.cell q3
  have hwz := hn1.trans hn3
  clear hn2 hn3 hr2 hby
  generalize w2.alloc (.cells #[.slice a1 0 a3, .slice a4 0 a6] 26) = w3 at *
  generalize w2.heap.size = g3 at *
  go_wp2_with (first
    | (go_at_call 41; refine (HH.out _ _ (hb3.nw (by repeat (first | assumption | exact Nw.refl _ | refine Nw.alloc ?_ _ | refine Nw.drew ?_ | refine Nw.drewN2 ?_ _ | (refine Nw.trans ?_ (by assumption)))))).mono ?_; rintro e w4 ⟨v4, rfl, hs4, hn4⟩; obtain ⟨p4, c4, rfl, _⟩ := strs_open hs4; replace q0 := hn4.cell q0; replace q3 := hn4.cell q3; replace p0 := hn4.cell p0; replace p1' := hn4.cell p1'; dsimp only)
    | fail)
  go_ret
  exact Gives.b rfl (by repeat (first | assumption | exact Nw.refl _ | refine Nw.alloc ?_ _ | refine Nw.drew ?_ | refine Nw.drewN2 ?_ _ | (refine Nw.trans ?_ (by assumption))))
/-! ### Spoil -/
theorem xor_val (a b : UInt8) : bits .xor .u8 (a.toNat : Int) (b.toNat : Int) = ((a ^^^ b).toNat : Int) := by
  have h1 := a.toNat_lt
  have h2 := b.toNat_lt
  rw [u8_xor_nat _ _ h1 h2, UInt8.toNat_xor]
def spoilP (b : List UInt8) (at_ cut : Nat) (x : UInt8) (more : List UInt8) : List UInt8 :=
  if b.length = 0 then more else (b.set (at_ % b.length) (b.getD (at_ % b.length) 0 ^^^ x)).take (b.length - cut % b.length) ++ more
set_option maxRecDepth 20000 in
set_option maxHeartbeats 1600000 in
theorem spoil_c (v vm : Value) (b more : List UInt8) (at_ cut : Nat) (x : UInt8) (w : World) (hb : Bytes w v b) (hm : Bytes w vm more) (hl : b.length ≤ 500000000) (hlm : more.length ≤ 100000000) (hat : at_ ≤ 65535) (hcu : cut ≤ 65535) :
    Calls Try.prog 36 #[v, .int .u16 (at_ : Int), .int .u16 (cut : Int), .int .u8 (x.toNat : Int), vm] w (Hands8 w (spoilP b at_ cut x more)) := by
  obtain ⟨q, cap, rfl, hcap, hmx, _, hci⟩ := hb.open
  obtain ⟨q2, cap2, rfl, hcap2, hmx2, _, _⟩ := hm.open
  clear hci
  by_cases hz : b.length = 0
  · have hd : decide ((0 : Int) < b.length) = false := decide_eq_false (by omega)
    have HF := hid (show spoilP b at_ cut x more = more by unfold spoilP; rw [if_pos hz])
    have hb0 : b = [] := List.eq_nil_of_length_eq_zero hz
    subst hb0
    clear hz hd
    go_enter Try.func36, Try.ntmps36
    go_upto_region 2 with (first
      | (at_builtin; refine app1 rfl _ _ _ rfl _ _ _ Try.underlying51 info_u8 rfl (by decide) ((Nw.refl w).alloc _) (Own.new w _ _ [] (Nat.le_refl _) (Nat.zero_le _)) rfl (hb.nw ((Nw.refl w).alloc _)) rfl (u8s_one _) ?_ ?_; rotate_left; (simp only [u8s_length, List.length_append, List.length_nil, List.length_cons, List.length_map]; omega); intro v1 w1 hown1 hg1 hn1; obtain ⟨p1, c1, rfl, hc1, hm1, _, hcs1⟩ := hown1.sl.open (n := 0) rfl)
      | fail)
    go_wp2_with (first
      | (at_builtin; refine app1 rfl _ _ _ rfl _ _ _ Try.underlying51 info_u8 rfl (by decide) (hn1) (hown1) rfl (hm.nw hn1) rfl (u8s_one _) ?_ ?_; rotate_left; (simp only [u8s_length, List.length_append, List.length_nil, List.length_cons, List.length_map]; omega); intro v2 w2 hown2 hg2 hn2)
      | fail)
    go_ret
    exact hands_own hown2 (by rw [HF.out]; rfl) hn2
  · obtain ⟨N, hN⟩ : ∃ N, N = b.length := ⟨_, rfl⟩
    have hNp : 0 < N := by omega
    have hN0 : (N : Int) ≠ 0 := by omega
    obtain ⟨j, hj⟩ : ∃ j, j = at_ % N := ⟨_, rfl⟩
    obtain ⟨k, hk⟩ : ∃ k, k = cut % N := ⟨_, rfl⟩
    have hjN : j < N := by rw [hj]; exact Nat.mod_lt _ hNp
    have hkN : k < N := by rw [hk]; exact Nat.mod_lt _ hNp
    have ht1 : (at_ : Int).tmod (N : Int) = (j : Int) := by rw [Int.tmod_eq_emod_of_nonneg (by omega), hj, ← Int.natCast_emod]
    have ht2 : (cut : Int).tmod (N : Int) = (k : Int) := by rw [Int.tmod_eq_emod_of_nonneg (by omega), hk, ← Int.natCast_emod]
    obtain ⟨M, hM⟩ : ∃ M, N = M + k := ⟨N - k, by omega⟩
    have hMp : 0 < M := by omega
    have HF := hid (show spoilP b at_ cut x more = (b.set j (b.getD j 0 ^^^ x)).take M ++ more by
      unfold spoilP
      rw [if_neg hz, ← hN, ← hj, ← hk, show N - k = M by omega])
    have hd : decide ((0 : Int) < N) = true := decide_eq_true (by omega)
    have hde : ((N : Int) == 0) = false := beq_eq_false_iff_ne.2 hN0
    obtain ⟨y, hy⟩ : ∃ y, b[j]? = some y := ⟨b[j]'(by omega), by rw [List.getElem?_eq_getElem]⟩
    have hyd : b.getD j 0 = y := by rw [List.getD_eq_getElem?_getD, hy]; rfl
    rw [hyd] at HF
    have hxv := xor_val y x
    have HXL := hid (show (u8s b).length = N by rw [u8s_length]; exact hN.symm)
    have HN := hid hN
    rw [← hN] at hl hcap
    have hb' : Bytes w (.slice q N cap) b := by rw [hN]; exact hb
    rw [← hN]
    have hsub : (N : Int) - (k : Int) = (M : Int) := by omega
    have hMN : M ≤ N := by omega
    have hm1' : (at_ : Int) % (N : Int) = (j : Int) := by rw [hj, ← Int.natCast_emod]
    have hm2' : (cut : Int) % (N : Int) = (k : Int) := by rw [hk, ← Int.natCast_emod]
    clear hb hyd hz hN hj hk hM
    go_enter Try.func36, Try.ntmps36
    go_upto_region 2 with (first
      | (at_builtin; refine app1 rfl _ _ _ rfl _ _ _ Try.underlying51 info_u8 rfl (by decide) ((Nw.refl w).alloc _) (Own.new w _ _ [] (Nat.le_refl _) (Nat.zero_le _)) rfl (hb'.nw ((Nw.refl w).alloc _)) rfl (u8s_one _) ?_ ?_; rotate_left; (simp only [u8s_length, List.length_nil, HXL.out]; omega); intro v1 w1 hown1 hg1 hn1; rw [List.nil_append] at hown1; obtain ⟨g, c1, rfl, hB1, hc1, hm1, hownb, hcs1⟩ := own_at' hown1 HXL.out (by omega))
      | fail)
    have q1 := hownb.cell HXL.out.symm j (by rw [HXL.out]; omega)
    rw [u8s_get b j y hy] at q1
    have q2' := hownb.frozen HXL.out.symm j
    have q3 := hownb.set HXL.out.symm j (.int .u8 ((y.toNat ^^^ x.toNat : Nat) : Int))
    rw [show (u8s b).set j (.int .u8 ((y.toNat ^^^ x.toNat : Nat) : Int)) = u8s (b.set j (y ^^^ x)) by rw [u8s_set, UInt8.toNat_xor]] at q3
    have q4 := q3.cut (by rw [u8s_length, List.length_set]; exact HN.out) M hMN
    rw [← u8s_take] at q4
    have q5 : Nw w (w1.setCell ⟨g, j, none⟩ (.int .u8 ((y.toNat ^^^ x.toNat : Nat) : Int))) := hn1.setCell hB1 _
    clear hcs1 hown1 hownb q3 hn1 hg1
    obtain ⟨Y, hY⟩ : ∃ Y, Y = (b.set j (y ^^^ x)).take M := ⟨_, rfl⟩
    have HYL := hid (show Y.length = M by rw [hY, List.length_take, List.length_set, ← HN.out]; omega)
    rw [← hY] at q4 HF
    clear hY
    go_upto_region 4 with fail
    generalize w1.setCell ⟨g, j, none⟩ (.int .u8 ((y.toNat ^^^ x.toNat : Nat) : Int)) = w2 at *
    clear q1 q2'
    have hMc : M ≤ c1 := by omega
    go_wp2_with (first
      | (at_builtin; refine app1 rfl _ _ _ rfl _ _ _ Try.underlying51 info_u8 rfl (by decide) (q5) (q4) rfl (hm.nw q5) rfl (u8s_one _) ?_ ?_; rotate_left; (simp only [u8s_length, HYL.out]; omega); intro v3 w3 hown3 hg3 hn3)
      | fail)
    go_ret
    exact hands_own hown3 (by rw [HF.out, u8s_append]) hn3
/-! ### read -/
set_option maxRecDepth 20000 in
set_option maxHeartbeats 1600000 in
theorem read_c (v : Value) (b : List UInt8) (w : World) (hb : Bytes w v b) (hl : b.length ≤ 1000000000) : Calls Try.prog 39 #[v] w (Gives (.bool true) w) := by
  have HD := hid (fun w' (h : Nw w w') => decode_c v b w' (hb.nw h) hl)
  have HR := hid (fun w' (h : Nw w w') => rdecode_c v b w' (hb.nw h) hl)
  have HH := hid (fun w' (h : Nw w w') => head_c v b w' (hb.nw h) hl)
  have HK := hid (fun w' (h : Nw w w') => show Calls Try.prog 65 #[v, .bool false] w' (HandsHd w' (headL b)) by rw [← head_same]; exact rhead_c v b w' (hb.nw h) hl)
  obtain ⟨q, cap, rfl, hcap, hmx, _, hci⟩ := hb.open
  clear hci hb
  generalize decP b = d at *
  generalize headL b = x at *
  obtain ⟨t, dn, de⟩ := d
  obtain ⟨l, i0, e0⟩ := x
  go_enter Try.func39, Try.ntmps39
  go_upto_region 2 with (first
    | (go_at_call 38; refine (HD.out _ (by repeat (first | assumption | exact Nw.refl _ | refine Nw.alloc ?_ _ | refine Nw.drew ?_ | refine Nw.drewN2 ?_ _ | (refine Nw.trans ?_ (by assumption))))).mono ?_; rintro e w2 h2; obtain ⟨a1, a2, a3, a4, a5, a6, rfl, hr2, hn2, hm2, hk2⟩ := h2.open; clear h2 hm2 hk2; dsimp only at hr2 ⊢)
    | fail)
  obtain ⟨p0, p1⟩ := box2 w2 (.slice a1 a2 a3) (.slice a4 a5 a6) 26
  have hnB := (Nw.refl w2).alloc (.cells #[.slice a1 a2 a3, .slice a4 a5 a6] 26)
  have hr3 := hr2.nw hnB
  have hn3 := hn2.trans hnB
  have lp := lt_alloc w2 (.cells #[.slice a1 a2 a3, .slice a4 a5 a6] 26)
  clear hnB hr2 hn2
  generalize w2.alloc (.cells #[.slice a1 a2 a3, .slice a4 a5 a6] 26) = w3 at *
  generalize w2.heap.size = g3 at *
  go_upto_region 3 with (first
    | (go_at_call 64; refine (HR.out _ (by repeat (first | assumption | exact Nw.refl _ | refine Nw.alloc ?_ _ | refine Nw.drew ?_ | refine Nw.drewN2 ?_ _ | (refine Nw.trans ?_ (by assumption))))).mono ?_; rintro e w4 h4; obtain ⟨b1, b2, b3, b4, b5, b6, rfl, hr4, hn4, hm4, hk4⟩ := h4.open; clear h4 hm4 hk4; dsimp only at hr4 ⊢)
    | fail)
  obtain ⟨s0, s1⟩ := box2 w4 (.slice b1 b2 b3) (.slice b4 b5 b6) 26
  have hnC := (Nw.refl w4).alloc (.cells #[.slice b1 b2 b3, .slice b4 b5 b6] 26)
  have hr5 := hr4.nw hnC
  have hnD := hn4.trans hnC
  have hr3' := hr3.nw hnD
  have p0' := hnD.cell p0
  have p1' := hnD.cell p1
  have hn5 := hn3.trans hnD
  clear hnC hnD hr4 hn4 hr3 hn3 p0 p1 lp
  generalize w4.alloc (.cells #[.slice b1 b2 b3, .slice b4 b5 b6] 26) = w5 at *
  generalize w4.heap.size = g5 at *
  go_upto_region 5 with (first
    | (go_at_call 41; refine (HH.out _ (by repeat (first | assumption | exact Nw.refl _ | refine Nw.alloc ?_ _ | refine Nw.drew ?_ | refine Nw.drewN2 ?_ _ | (refine Nw.trans ?_ (by assumption))))).mono ?_; rintro e w6 ⟨v6, rfl, hs6, hn6⟩; obtain ⟨p6, c6, rfl, _⟩ := strs_open hs6; dsimp only at hs6 ⊢)
    | (go_at_call 65; refine (HK.out _ (by repeat (first | assumption | exact Nw.refl _ | refine Nw.alloc ?_ _ | refine Nw.drew ?_ | refine Nw.drewN2 ?_ _ | (refine Nw.trans ?_ (by assumption))))).mono ?_; rintro e w7 ⟨v7, rfl, hs7, hn7⟩; obtain ⟨p7, c7, rfl, _⟩ := strs_open hs7; dsimp only at hs7 ⊢)
    | fail)
  have hn57 := hn6.trans hn7
  have hs6' := hs6.nw hn7
  have hr3'' := hr3'.nw hn57
  have hr5' := hr5.nw hn57
  have p0 := hn57.cell p0'
  have p1 := hn57.cell p1'
  have s0' := hn57.cell s0
  have s1' := hn57.cell s1
  have hn8 := hn5.trans hn57
  clear hn6 hn7 hn57 hs6 hr3' hr5 p0' p1' s0 s1 hn5 HD HR HH HK
  have HST := hid (fun w' (h : Nw w7 w') => samet_same _ _ _ w' (hr3''.nw h) (hr5'.nw h))
  clear hr3'' hr5'
  obtain ⟨_, _, e6, hc6, hm6, _, hcs6⟩ := strs_open hs6'
  cases e6
  obtain ⟨_, _, e7, hc7, hm7, _, hcs7⟩ := strs_open hs7
  cases e7
  have HC6 := hid hcs6
  have HC7 := hid hcs7
  clear hs6' hs7 hcs6 hcs7
  unfold maxLen at hm6 hm7
  go_wp2
  go_loopw [15, 47] (fun _ i wr => ∃ k : Nat, k ≤ l.length ∧ i = .int .i64 k ∧ Nw w7 wr) (fun _ i _ => l.length - (intOf i).toNat)
  case atStart => exact ⟨0, Nat.zero_le _, rfl, Nw.refl _⟩
  case round =>
    obtain ⟨k, hk, rfl, hn⟩ := hrel
    by_cases hlt : k < l.length
    · have hdk : decide (k < l.length) = true := decide_eq_true hlt
      obtain ⟨x1, o1, rfl, hcell1⟩ := strs_cell (HC6.out.nw hn) k hlt
      obtain ⟨x2, o2, rfl, hcell2⟩ := strs_cell (HC7.out.nw hn) k hlt
      generalize l[k] = s at *
      have gb1 := World.block_lt_of_cell? wr _ hcell1
      have gb2 := World.block_lt_of_cell? wr _ hcell2
      simp only at gb1 gb2
      go_upto_region 10 with fail
      refine wp_region_stairs (by kernel_rfl) (by kernel_rfl) (by kernel_rfl) ?_
      iterate 9
        refine Stairs.is ?_ ?_ ?_
        rotate_left 1
        · intro x wR hR hd K hK
          simp only [Act.put, List.setIfInBounds_toArray, List.set_cons_zero, List.set_cons_succ, Nat.reduceAdd, List.length_nil, List.length_cons, List.nil_append, List.cons_append, Say.ok] at hK ⊢
          clear hd
          change Hid _ at hK
          obtain ⟨hcR, hfR, hzR⟩ := nwc hR
          first | (refine wanted_yes ?_ ?_; rfl) | (refine wanted_no ?_ ?_; rfl)
          go_wp2_with (first | fail)
          all_goals (refine hK.out _ _ ?_ ?_ <;> first | (solve | (repeat (first | assumption | exact Nw.refl _ | refine Nw.alloc ?_ _ | refine Nw.drew ?_ | refine Nw.drewN2 ?_ _ | (refine Nw.trans ?_ (by assumption))))) | exact rfl)
        try simp only [Act.put, List.setIfInBounds_toArray, List.set_cons_zero, List.set_cons_succ, Nat.reduceAdd, List.length_nil, List.length_cons, List.nil_append, List.cons_append]
      refine Stairs.nil ?_
      intro x wR hR hx
      clear hx
      obtain ⟨hcR, hfR, hzR⟩ := nwc hR
      go_wp2
      go_roundw
      case rel => exact ⟨k + 1, by omega, by go_num, hn.trans hR⟩
      case measure => (simp [intOf] <;> omega)
    · obtain rfl : k = l.length := by omega
      have hdk : decide (l.length < l.length) = false := decide_eq_false (by omega)
      replace p0 := hn.cell p0
      replace p1 := hn.cell p1
      replace s0' := hn.cell s0'
      replace s1' := hn.cell s1'
      go_wp2_with (first
        | (go_at_call 31; refine (HST.out _ (by repeat (first | assumption | exact Nw.refl _ | refine Nw.alloc ?_ _ | refine Nw.drew ?_ | refine Nw.drewN2 ?_ _ | (refine Nw.trans ?_ (by assumption))))).mono ?_; rintro e w9 ⟨rfl, hn9⟩)
        | fail)
      go_ret
      exact Gives.b (by simp) (by repeat (first | assumption | exact Nw.refl _ | refine Nw.alloc ?_ _ | refine Nw.drew ?_ | refine Nw.drewN2 ?_ _ | (refine Nw.trans ?_ (by assumption))))
end Lg
end Go.Proofs.Ytjelbfodkacipaa
