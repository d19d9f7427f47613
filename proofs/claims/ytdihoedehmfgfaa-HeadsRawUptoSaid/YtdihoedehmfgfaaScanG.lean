/- The laws' record, Ahead, scanned and awake of layer 12; ScanAny walked. No condition but lengths. -/
import Derived.Test.YtdihoedehmfgfaaScanF
import Derived.Test.YtdihoedehmfgfaaScanD
import Derived.Test.YtdihoedehmfgfaaJTa
set_option linter.unusedSimpArgs false
set_option linter.unusedVariables false
namespace Go.Proofs.Ytdihoedehmfgfaa
open Go.ChangeShapes Go.WideShapes Go.ChangeAt Go.RowKit
namespace Sc
open Go.Proofs.Ytdihoedehmfgfaa.Rec (none_ i64s_open HandsG)
open Go.Proofs.Ytdihoedehmfgfaa.Tr (box2 lt_alloc same_c eqs_c)
open Go.Proofs.Ytdihoedehmfgfaa.Lx (strs_open)
open Go.Proofs.Ytdihoedehmfgfaa.Src (rt)
open Go.Proofs.Ytdihoedehmfgfaa.Lg (Hd headR HandsHd rhead_c rheadf_c)
set_option maxRecDepth 20000 in
set_option maxHeartbeats 1600000 in
theorem law_record_c (B a : Nat) (b : List UInt8) (sc : List Int) (n : Nat) (vb : Value) (fault at_ p : Int) (w : World) (h : SI w B a b sc (rt b.length fault) n) (ok : Ok b sc (rt b.length fault)) (hn : n ≤ 1000000000000) (hb : ∀ w', Mods (· = a) w w' → Bytes w' vb b) (hf1 : -9223372036854775808 ≤ fault) (hf2 : fault ≤ 9223372036854775807) (hat1 : -9223372036854775808 ≤ at_) (hat2 : at_ ≤ 9223372036854775807) (hp1 : -9223372036854775808 ≤ p) (hp2 : p ≤ 9223372036854775807) :
    Calls Try.prog 42 #[.pointer (some ⟨a, 0, none⟩), vb, .int .i64 fault, .int .i64 at_, .int .i64 p] w fun e w' => e = .returned (.bool true) ∧ (∃ n', n' ≤ n + 100 ∧ SI w' B a b sc (rt b.length fault) n') ∧ Mods (· = a) w w' := by
  have hal := h.lt
  have HR := hid (record_c B a b sc (rt b.length fault) n at_ p w h ok (by omega) hat1 hat2 hp1 hp2)
  have HQ := hid (fun w' (hm : Mods (· = a) w w') => rrecord_c vb b fault at_ p w' (hb w' hm) ok.len hf1 hf2 hat1 hat2 hp1 hp2)
  obtain ⟨pb, kb, rfl, _, _, _, _⟩ := (hb w (Mods.refl _ _)).open
  generalize rt b.length fault = r at *
  generalize recP b r at_ p = x at *
  obtain ⟨⟨t, l⟩, k, e0⟩ := x
  clear h ok hb hf1 hf2 hat1 hat2 hp1 hp2
  go_enter Try.func42, Try.ntmps42
  go_upto_region 2 with (first
    | (go_at_call 23; refine HR.out.mono ?_; rintro e' w1 ⟨v1, n1, rfl, hown1, hsi1, hn1, hm1⟩; dsimp only at hown1 ⊢; obtain ⟨p1, c1, rfl, _⟩ := i64s_open hown1.sl)
    | fail)
  obtain ⟨x0, x1⟩ := box2 w1 (.int .u64 t) (.slice p1 l.length c1) 38
  have hnA := (Nw.refl w1).alloc (.cells #[.int .u64 t, .slice p1 l.length c1] 38)
  have lA := lt_alloc w1 (.cells #[.int .u64 t, .slice p1 l.length c1] 38)
  have hs1 := hown1.sl.nw hnA
  have hmA := hm1.nw hnA
  have hsiA := hsi1.nw hnA
  clear hnA hown1 hsi1 hm1 HR
  generalize w1.alloc (.cells #[.int .u64 t, .slice p1 l.length c1] 38) = w2 at *
  generalize w1.heap.size = g11 at *
  have HQ2 := hid (HQ.out w2 hmA)
  clear HQ
  go_upto_region 3 with (first
    | (go_at_call 75; refine HQ2.out.mono ?_; rintro e' w3 ⟨v3, rfl, hs3, hn3⟩; dsimp only at hs3 ⊢; obtain ⟨p3, c3, rfl, _⟩ := i64s_open hs3)
    | fail)
  obtain ⟨y0, y1⟩ := box2 w3 (.int .u64 t) (.slice p3 l.length c3) 38
  have hnB := hn3.alloc (.cells #[.int .u64 t, .slice p3 l.length c3] 38)
  have lB := lt_alloc w3 (.cells #[.int .u64 t, .slice p3 l.length c3] 38)
  have hs1B := hs1.nw hnB
  have hs3B := hs3.nw ((Nw.refl w3).alloc (.cells #[.int .u64 t, .slice p3 l.length c3] 38))
  have x0B := hnB.cell x0
  have x1B := hnB.cell x1
  have lAB := Nat.lt_of_lt_of_le lA hnB.size
  have hmB := hmA.nw hnB
  have hsiB := hsiA.nw hnB
  clear hnB hs1 hs3 hn3 hmA hsiA x0 x1 lA HQ2
  generalize w3.alloc (.cells #[.int .u64 t, .slice p3 l.length c3] 38) = w4 at *
  generalize w3.heap.size = g14 at *
  have HSM := hid (show Calls Try.prog 24 #[.agg #[.int .u64 t, .slice p1 l.length c1], .agg #[.int .u64 t, .slice p3 l.length c3]] w4 (Gives (.bool true) w4) by
    have := same_c _ _ t t l l w4 hs1B hs3B
    rwa [decide_eq_true ⟨rfl, rfl⟩] at this)
  go_wp2_with (first
    | (go_at_call 24; refine HSM.out.mono ?_; rintro e' w5 ⟨rfl, hn5⟩)
    | fail)
  go_ret
  exact ⟨by simp, ⟨n1, hn1, hsiB.nw hn5⟩, hmB.nw hn5⟩
set_option maxRecDepth 20000 in
theorem ahead_c (v : Value) (b : List UInt8) (fault : Int) (w : World) (hb : Bytes w v b) :
    Calls Try.prog 40 #[v, .int .i64 fault] w fun e w' => ∃ v', e = .returned (.tuple #[v', .int .i64 (if rt b.length fault < b.length then 1 else 0)]) ∧ w = w' ∧ Bytes w v' (b.take (rt b.length fault)) := by
  obtain ⟨p, cap, rfl, hcap, hmx, hp0, hc⟩ := hb.open
  by_cases h1 : 0 ≤ fault
  · have hd1 : decide (0 ≤ fault) = true := decide_eq_true h1
    obtain ⟨f, rfl⟩ := Int.eq_ofNat_of_zero_le h1
    by_cases h2 : f < b.length
    · have hr : rt b.length (f : Int) = f := by unfold Src.rt; rw [if_pos (by omega), Int.toNat_natCast]
      rw [hr, if_pos h2]
      have hd2 : decide (f < b.length) = true := decide_eq_true h2
      have hfc : f ≤ cap := by omega
      have HB := hid (bytes_front hc hcap hmx hp0 f (by omega))
      clear hb hc hr
      unfold maxLen at hmx
      go_enter Try.func40, Try.ntmps40
      go_wp2
      go_ret2
      exact ⟨_, rfl, rfl, HB.out⟩
    · have hr : rt b.length (f : Int) = b.length := by unfold Src.rt; rw [if_neg (by omega)]
      rw [hr, if_neg (by omega), List.take_length]
      have hd2 : decide (f < b.length) = false := decide_eq_false h2
      clear hc hr
      go_enter Try.func40, Try.ntmps40
      go_wp2
      go_ret2
      exact ⟨_, rfl, rfl, hb⟩
  · have hd1 : decide (0 ≤ fault) = false := decide_eq_false h1
    have hr : rt b.length fault = b.length := by unfold Src.rt; rw [if_neg (by omega)]
    rw [hr, if_neg (by omega), List.take_length]
    clear hc hr
    go_enter Try.func40, Try.ntmps40
    go_wp2
    go_ret2
    exact ⟨_, rfl, rfl, hb⟩
theorem rgo_len (b : List UInt8) (m : Int) : ∀ (k i : Nat) (acc : List ByteArray), (Lg.rgo b m k i acc).1.1.length ≤ acc.length + k
  | 0, i, acc => by simp [Lg.rgo]
  | k + 1, i, acc => by
    unfold Lg.rgo
    split
    · simp
    split
    · simp
    split
    · simp
    split
    · simp
    · have := rgo_len b m k (i + 1 + Lg.sz b i) (acc ++ [Lg.cutS b (i + 1) (Lg.sz b i)])
      rw [List.length_append, List.length_singleton] at this
      omega
theorem headR_bd (b : List UInt8) (m : Int) : (headR b m).1.length ≤ 64 ∧ ∃ k : Nat, (headR b m).2.1 = (k : Int) ∧ k ≤ b.length := by
  unfold Lg.headR
  split
  · exact ⟨Nat.zero_le _, 0, rfl, Nat.zero_le _⟩
  split
  · exact ⟨Nat.zero_le _, 0, rfl, Nat.zero_le _⟩
  rename_i h5 hm
  have hl := rgo_len b m (Lg.sz b 4) 5 []
  generalize Lg.rgo b m (Lg.sz b 4) 5 [] = x at *
  obtain ⟨⟨l, i⟩, e⟩ := x
  dsimp only at hl ⊢
  rw [List.length_nil] at hl
  split
  · exact ⟨Nat.zero_le _, 0, rfl, Nat.zero_le _⟩
  split
  · exact ⟨Nat.zero_le _, 0, rfl, Nat.zero_le _⟩
  unfold Lg.headE
  split
  · exact ⟨by dsimp only; omega, i + 4, by dsimp only; omega, by omega⟩
  · exact ⟨Nat.zero_le _, 0, rfl, Nat.zero_le _⟩
theorem rt_bd (b : List UInt8) (fault : Int) : rt b.length fault ≤ b.length := by unfold Src.rt; split <;> omega
set_option maxRecDepth 20000 in
set_option maxHeartbeats 1600000 in
theorem scanned_c (vb vs : Value) (b : List UInt8) (sc : List Int) (fault at_ p : Int) (w : World) (hb : Bytes w vb b) (hs : Sl w vs (i64s sc)) (hlb : b.length ≤ 500000000) (hls : sc.length ≤ 1000000000) (hx : ∀ x ∈ sc, -9223372036854775808 ≤ x ∧ x ≤ 9223372036854775807)
    (hf1 : -9223372036854775808 ≤ fault) (hf2 : fault ≤ 9223372036854775807) (hat1 : -9223372036854775808 ≤ at_) (hat2 : at_ ≤ 9223372036854775807) (hp1 : -9223372036854775808 ≤ p) (hp2 : p ≤ 9223372036854775807) :
    Calls Try.prog 14 #[vb, vs, .int .i64 fault, .int .i64 at_, .int .i64 p] w (Gives (.bool true) w) := by
  have HNE := hid (Src.new_c vb vs b sc fault w hb hs (by omega) hls)
  have hrt := rt_bd b fault
  have ok : Ok b sc (rt b.length fault) := ⟨hrt, by omega, hx⟩
  have HHD := hid (fun a B n w' h hn => head_c B a b sc (rt b.length fault) n w' h ok hn)
  have HAH := hid (fun w' (h : Nw w w') => ahead_c vb b fault w' (hb.nw h))
  have HLR := hid (fun a B n at2 p2 w' h hn hbb q1 q2 q3 q4 => law_record_c B a b sc n vb fault at2 p2 w' h ok hn hbb hf1 hf2 q1 q2 q3 q4)
  have HRT := hid (fun v w' (hv : Bytes w' v (b.take (rt b.length fault))) => show Calls Try.prog 41 #[v, .bool (decide (rt b.length fault < b.length))] w' (HandsHd w' (headR (b.take (rt b.length fault)) (miss b (rt b.length fault)))) by
    unfold miss
    by_cases z : rt b.length fault < b.length
    · rw [decide_eq_true z, if_pos z]; exact rheadf_c v _ w' hv (by rw [List.length_take]; omega)
    · rw [decide_eq_false z, if_neg z]; exact rhead_c v _ w' hv (by rw [List.length_take]; omega))
  have hbd := headR_bd (b.take (rt b.length fault)) (miss b (rt b.length fault))
  have hbl : (b.take (rt b.length fault)).length ≤ 500000000 := by rw [List.length_take]; omega
  have HB := hid (fun w' (h : Nw w w') => hb.nw h)
  obtain ⟨pb, kb, rfl, _, _, _, _⟩ := hb.open
  obtain ⟨ps, ks, rfl, _, _, _, _⟩ := hs.open (i64s_length sc)
  clear hb hs ok
  generalize headR (b.take (rt b.length fault)) (miss b (rt b.length fault)) = X at *
  obtain ⟨l, i0, e0⟩ := X
  dsimp only at hbd
  obtain ⟨hl64, i1, rfl, hi1⟩ := hbd
  have hi2 : i1 ≤ 500000000 := by omega
  clear hi1 hbl hx hls
  have hdc : ((if rt b.length fault < b.length then (1 : Int) else 0) == 1) = decide (rt b.length fault < b.length) := by split <;> simp_all
  generalize b.take (rt b.length fault) = c at *
  generalize hq : decide (rt b.length fault < b.length) = cut at *
  generalize (if rt b.length fault < b.length then (1 : Int) else 0) = ci at *
  generalize rt b.length fault = r at *
  clear hq hrt
  go_enter Try.func14, Try.ntmps14
  go_upto_region 2 with (first
    | (go_at_call 21; refine HNE.out.mono ?_; rintro e' w1 ⟨a, rfl, his1, ha, hlt, hn1⟩)
    | fail)
  have hsi1 : SI w1 w.heap.size a b sc r 0 := his1
  have HNW := hid (fun w' (h : Mods (· = a) w1 w') => show Nw w w' from hn1.ofMods h (fun k hk => by omega))
  have HHE := hid (HHD.out a w.heap.size 0 w1 hsi1 (by omega))
  go_upto_region 3 with (first
    | (go_at_call 22; refine HHE.out.mono ?_; rintro e' w2 ⟨v2, n2, rfl, hs2, hsi2, hn2, hm2⟩; dsimp only at hs2 ⊢; obtain ⟨p2, c2, rfl, _⟩ := strs_open hs2)
    | fail)
  have hnw2 := HNW.out w2 hm2
  have HA2 := hid (HAH.out w2 hnw2)
  go_upto_region 4 with (first
    | (go_at_call 40; refine HA2.out.mono ?_; rintro e' w3 ⟨v3, rfl, rfl, hb3⟩; obtain ⟨p3, c3, rfl, _⟩ := hb3.open)
    | fail)
  have HR3 := hid (HRT.out _ _ hb3)
  go_upto_region 5 with (first
    | (go_at_call 41; refine HR3.out.mono ?_; rintro e' w4 ⟨v4, rfl, hs4, hn4⟩; dsimp only at hs4 ⊢; obtain ⟨p4, c4, rfl, _⟩ := strs_open hs4)
    | fail)
  have hm4 := hm2.nw hn4
  have hsi4 := hsi2.nw hn4
  have HEQ := hid (show Calls Try.prog 35 #[.slice p2 l.length c2, .slice p4 l.length c4] w4 (Gives (.bool true) w4) by
    have := eqs_c (.slice p2 l.length c2) (.slice p4 l.length c4) l l w4 (hs2.nw hn4) hs4
    rwa [decide_eq_true rfl] at this)
  clear hs2 hs4 hb3 HR3 HA2 HHE HHD HAH HRT his1 hsi1 hsi2 hm2 hn4 hnw2
  go_upto_region 7 with (first
    | (go_at_call 35; refine HEQ.out.mono ?_; rintro e' w5 ⟨rfl, hn5⟩)
    | fail)
  have hm5 := hm4.nw hn5
  have hsi5 := hsi4.nw hn5
  clear hm4 hsi4 hn5 HEQ
  by_cases he : e0 = 0
  · subst he
    have HL1 := hid (HLR.out a w.heap.size n2 (i1 : Int) (l.length : Int) w5 hsi5 (by omega) (fun w' hm => HB.out w' (HNW.out w' (hm5.trans hm))) (by omega) (by omega) (by omega) (by omega))
    go_upto_region 9 with (first
      | (go_at_call 42; refine HL1.out.mono ?_; rintro e' w6 ⟨rfl, ⟨n6, hn6, hsi6⟩, hm6⟩)
      | fail)
    have hm7 := hm5.trans hm6
    have HL2 := hid (HLR.out a w.heap.size n6 at_ p w6 hsi6 (by omega) (fun w' hm => HB.out w' (HNW.out w' (hm7.trans hm))) hat1 hat2 hp1 hp2)
    clear HL1 HLR hm6 hm5 hsi5
    go_wp2_with (first
      | (go_at_call 42; refine HL2.out.mono ?_; rintro e' w8 ⟨rfl, ⟨n8, hn8, hsi8⟩, hm8⟩)
      | fail)
    go_ret
    exact Gives.b rfl (HNW.out _ (hm7.trans hm8))
  · have hde : (e0 == 0) = false := beq_eq_false_iff_ne.2 he
    have HL2 := hid (HLR.out a w.heap.size n2 at_ p w5 hsi5 (by omega) (fun w' hm => HB.out w' (HNW.out w' (hm5.trans hm))) hat1 hat2 hp1 hp2)
    clear HLR he
    go_wp2_with (first
      | (go_at_call 42; refine HL2.out.mono ?_; rintro e' w8 ⟨rfl, ⟨n8, hn8, hsi8⟩, hm8⟩)
      | fail)
    go_ret
    exact Gives.b rfl (HNW.out _ (hm5.trans hm8))
end Sc
end Go.Proofs.Ytdihoedehmfgfaa
