/- The contracts of slices.Equal for ints, watchglassref8.SameEvent, the laws' awake and got; an event that comes in. No condition but lengths. -/
import Derived.Test.YtfbokhodcgpppaaRecG
namespace Go.Proofs.Ytfbokhodcgpppaa
open Go.ChangeShapes Go.WideShapes Go.ChangeAt Go.RowKit
namespace Rec
open Go.Proofs.Ytfbokhodcgpppaa.Sum (Hands8)
theorem eq_of_take (a b : List Int) (n : Nat) (h : a.take n = b.take n) (h1 : n < a.length) (h2 : n < b.length) : a.getD n 0 = b.getD n 0 ↔ a.take (n + 1) = b.take (n + 1) := by
  rw [List.take_add_one, List.take_add_one, h, List.append_cancel_left_eq]
  simp [List.getD_eq_getElem?_getD, h1, h2]
theorem eq_c (u v : Value) (a b : List Int) (w : World) (hu : Sl w u (i64s a)) (hv : Sl w v (i64s b)) : Calls Try.prog 44 #[u, v] w (Gives (.bool (decide (a = b))) w) := by
  obtain ⟨p, cap, rfl, hcap, hmx, _, hc⟩ := i64s_open hu
  obtain ⟨p2, cap2, rfl, hcap2, hmx2, _, hc2⟩ := i64s_open hv
  unfold maxLen at hmx hmx2
  by_cases hl : a.length = b.length
  · have hd : ((a.length : Int) != b.length) = false := by simp [hl]
    go_enter Try.func44, Try.ntmps44
    go_wp2
    go_loopw [5, 13] (fun _ i wr => ∃ k : Nat, k ≤ a.length ∧ i = .int .i64 k ∧ a.take k = b.take k ∧ Nw w wr) (fun _ i _ => a.length - (intOf i).toNat)
    case atStart => exact ⟨0, Nat.zero_le _, rfl, rfl, Nw.refl _⟩
    case round =>
      obtain ⟨k, hk, rfl, ht, hn⟩ := hrel
      obtain ⟨hcR, hfR, hzR⟩ := nwc hn
      by_cases hlt : k < a.length
      · obtain ⟨b1, o1, rfl, hcell⟩ := i64_cell (hc.nw hn) k hlt
        obtain ⟨b2, o2, rfl, hcell2⟩ := i64_cell (hc2.nw hn) k (by omega)
        have hdk : decide (k < a.length) = true := decide_eq_true hlt
        have hk2 : k < b.length := by omega
        have HT := hid (eq_of_take a b k ht hlt hk2)
        by_cases he : a.getD k 0 = b.getD k 0
        · have hde : (a.getD k 0 != b.getD k 0) = false := by rw [he]; simp
          have HN := hid (HT.out.1 he)
          clear hc hc2 ht HT he
          generalize a.getD k 0 = x at *
          generalize b.getD k 0 = y at *
          go_upto_region 6 with fail
          go_quiet (fail)
          go_wp2
          go_roundw
          case rel => exact ⟨k + 1, by omega, by go_num, HN.out, (by repeat (first | assumption | exact Nw.refl _ | refine Nw.alloc ?_ _ | refine Nw.drew ?_ | refine Nw.drewN2 ?_ _ | (refine Nw.trans ?_ (by assumption))))⟩
          case measure => simp [intOf]; omega
        · have hde : (a.getD k 0 != b.getD k 0) = true := by simp only [bne_iff_ne]; exact he
          have HF := hid (show decide (a = b) = false from decide_eq_false (fun h => he (by rw [h])))
          clear hc hc2 ht he HT
          generalize a.getD k 0 = x at *
          generalize b.getD k 0 = y at *
          go_upto_region 6 with fail
          go_quiet (fail)
          go_wp2
          go_ret
          exact Gives.b HF.out.symm (by repeat (first | assumption | exact Nw.refl _ | refine Nw.alloc ?_ _ | refine Nw.drew ?_ | refine Nw.drewN2 ?_ _ | (refine Nw.trans ?_ (by assumption))))
      · have hdk : decide (k < a.length) = false := decide_eq_false hlt
        have HF := hid (show decide (a = b) = true from decide_eq_true (by rwa [List.take_of_length_le (by omega), List.take_of_length_le (by omega)] at ht))
        clear hc hc2 ht
        go_wp2
        go_ret
        exact Gives.b HF.out.symm (by repeat (first | assumption | exact Nw.refl _ | refine Nw.alloc ?_ _ | refine Nw.drew ?_ | refine Nw.drewN2 ?_ _ | (refine Nw.trans ?_ (by assumption))))
  · have hd : ((a.length : Int) != b.length) = true := by simp; omega
    have HF := hid (show decide (a = b) = false from decide_eq_false (fun h => hl (by rw [h])))
    clear hc hc2
    go_enter Try.func44, Try.ntmps44
    go_wp2
    go_ret
    exact Gives.b HF.out.symm (by repeat (first | assumption | exact Nw.refl _ | refine Nw.alloc ?_ _ | refine Nw.drew ?_ | refine Nw.drewN2 ?_ _ | (refine Nw.trans ?_ (by assumption))))
theorem same_c (u v : Value) (t s : Int) (a b : List Int) (w : World) (hu : Sl w u (i64s a)) (hv : Sl w v (i64s b)) :
    Calls Try.prog 27 #[.agg #[.int .u64 t, u], .agg #[.int .u64 s, v]] w (Gives (.bool (decide (t = s ∧ a = b))) w) := by
  obtain ⟨p, cap, rfl, hcap, hmx, _, hc⟩ := i64s_open hu
  obtain ⟨p2, cap2, rfl, hcap2, hmx2, _, hc2⟩ := i64s_open hv
  by_cases h : t = s
  · subst h
    have HF := hid (show decide (t = t ∧ a = b) = decide (a = b) by simp)
    go_enter Try.func27, Try.ntmps27
    go_wp2_with (first
      | (go_at_call 44; refine (eq_c _ _ a b _ (hu.nw (by repeat (first | assumption | exact Nw.refl _ | refine Nw.alloc ?_ _ | refine Nw.drew ?_ | refine Nw.drewN2 ?_ _ | (refine Nw.trans ?_ (by assumption))))) (hv.nw (by repeat (first | assumption | exact Nw.refl _ | refine Nw.alloc ?_ _ | refine Nw.drew ?_ | refine Nw.drewN2 ?_ _ | (refine Nw.trans ?_ (by assumption)))))).mono ?_; rintro e w1 ⟨rfl, hn1⟩))
    go_ret
    exact Gives.b HF.out.symm (by repeat (first | assumption | exact Nw.refl _ | refine Nw.alloc ?_ _ | refine Nw.drew ?_ | refine Nw.drewN2 ?_ _ | (refine Nw.trans ?_ (by assumption))))
  · have hd : (t == s) = false := beq_eq_false_iff_ne.2 h
    have HF := hid (show decide (t = s ∧ a = b) = false from decide_eq_false (fun e => h e.1))
    go_enter Try.func27, Try.ntmps27
    go_wp2
    go_ret
    exact Gives.b HF.out.symm (by repeat (first | assumption | exact Nw.refl _ | refine Nw.alloc ?_ _ | refine Nw.drew ?_ | refine Nw.drewN2 ?_ _ | (refine Nw.trans ?_ (by assumption))))
/-! ### awake -/
theorem aw_len : (putE [] 1 []).length = 14 := by decide +kernel
theorem aw_1 : (putE [] 1 [])[1]? = some 8 := by decide +kernel
theorem aw_9 : (putE [] 1 [])[9]? = some 1 := by decide +kernel
theorem aw_get : get (putE [] 1 []) 0 = ((1, []), 14, 0) := by decide +kernel
set_option maxRecDepth 20000 in
set_option maxHeartbeats 1600000 in
theorem awake_c (w : World) : Calls Try.prog 21 #[] w (Gives (.bool true) w) := by
  have HL := hid aw_len
  have H1 := hid aw_1
  have H9 := hid aw_9
  have HG := hid aw_get
  go_enter Try.func21, Try.ntmps21
  go_wp2_with (first
    | (go_at_call 19; refine (put_c _ _ [] 1 [] _ (Bytes.nil _) (Sl.nil _) (by omega) (by omega) (by simp)).mono ?_; rintro e w1 ⟨v1, rfl, hown1, hn1⟩; obtain ⟨p1, c1, rfl, hc1, hm1, _, hcs1⟩ := hown1.sl.open (n := 14) (by rw [u8s_length]; exact HL.out); have hby : Bytes w1 (.slice p1 14 c1) (putE [] 1 []) := hown1.sl; obtain ⟨b1, o1, x1, e1, hcell1, hx1, _⟩ := u8s_cell hcs1 1 (by rw [HL.out]; decide); obtain ⟨_, _, x9, e9, hcell9, hx9, _⟩ := u8s_cell hcs1 9 (by rw [HL.out]; decide); subst e1; cases e9; have e1 := hx1.out; have e9 := hx9.out; rw [H1.out] at e1; rw [H9.out] at e9; cases e1; cases e9; clear hown1 hcs1; obtain ⟨hk1, hk2, hk3⟩ := nwc hn1; have hbb := World.block_lt_of_cell? w1 _ hcell1)
    | (go_at_call 22; refine (get_c _ (putE [] 1 []) 0 _ (hby.nw (by repeat (first | assumption | exact Nw.refl _ | refine Nw.alloc ?_ _ | refine Nw.drew ?_ | refine Nw.drewN2 ?_ _ | (refine Nw.trans ?_ (by assumption))))) (by rw [HL.out]; decide) (by decide) (by decide)).mono ?_; rw [HG.out]; rintro e w2 ⟨v2, rfl, hs2, hn2⟩; obtain ⟨p2, c2, rfl, _⟩ := i64s_open hs2; obtain ⟨hj1, hj2, hj3⟩ := nwc hn2; dsimp only))
  go_ret
  exact Gives.b rfl (by repeat (first | assumption | exact Nw.refl _ | refine Nw.alloc ?_ _ | refine Nw.drew ?_ | refine Nw.drewN2 ?_ _ | (refine Nw.trans ?_ (by assumption))))
/-! ### got -/
set_option maxRecDepth 20000 in
set_option maxHeartbeats 1600000 in
theorem got_c (v : Value) (b : List UInt8) (p : Int) (w : World) (hb : Bytes w v b) (hlen : b.length ≤ 1000000000) (hp1 : -9223372036854775808 ≤ p) (hp2 : p ≤ 9223372036854775807) :
    Calls Try.prog 25 #[v, .int .i64 p] w (Gives (.bool true) w) := by
  obtain ⟨q, cap, rfl, hcap, hmx, _, hc⟩ := hb.open
  have h1 := fun w hb => get_c (.slice q b.length cap) b p w hb hlen hp1 hp2
  have h2 := fun w hb => rget_c (.slice q b.length cap) b p w hb hlen hp1 hp2
  generalize get b p = x at *
  obtain ⟨⟨t, l⟩, n, er⟩ := x
  have H1 := hid h1
  have H2 := hid h2
  clear h1 h2
  go_enter Try.func25, Try.ntmps25
  go_wp2_with (first
    | (go_at_call 22; refine (H1.out _ (hb.nw (by repeat (first | assumption | exact Nw.refl _ | refine Nw.alloc ?_ _ | refine Nw.drew ?_ | refine Nw.drewN2 ?_ _ | (refine Nw.trans ?_ (by assumption)))))).mono ?_; rintro e w1 ⟨v1, rfl, hs1, hn1⟩; obtain ⟨p1, c1, rfl, _⟩ := i64s_open hs1; obtain ⟨hj1, hj2, hj3⟩ := nwc hn1; dsimp only at hs1 ⊢)
    | (go_at_call 42; refine (H2.out _ (hb.nw (by repeat (first | assumption | exact Nw.refl _ | refine Nw.alloc ?_ _ | refine Nw.drew ?_ | refine Nw.drewN2 ?_ _ | (refine Nw.trans ?_ (by assumption)))))).mono ?_; rintro e w2 ⟨v2, rfl, hs2, hn2⟩; obtain ⟨p2, c2, rfl, _⟩ := i64s_open hs2; obtain ⟨hi1, hi2, hi3⟩ := nwc hn2; dsimp only at hs2 ⊢)
    | (go_at_call 27; refine (same_c _ _ t t l l _ (hs1.nw (by repeat (first | assumption | exact Nw.refl _ | refine Nw.alloc ?_ _ | refine Nw.drew ?_ | refine Nw.drewN2 ?_ _ | (refine Nw.trans ?_ (by assumption))))) (hs2.nw (by repeat (first | assumption | exact Nw.refl _ | refine Nw.alloc ?_ _ | refine Nw.drew ?_ | refine Nw.drewN2 ?_ _ | (refine Nw.trans ?_ (by assumption)))))).mono ?_; rintro e w3 ⟨rfl, hn3⟩))
  go_ret
  exact Gives.b (by simp) (by repeat (first | assumption | exact Nw.refl _ | refine Nw.alloc ?_ _ | refine Nw.drew ?_ | refine Nw.drewN2 ?_ _ | (refine Nw.trans ?_ (by assumption))))
end Rec
end Go.Proofs.Ytfbokhodcgpppaa
