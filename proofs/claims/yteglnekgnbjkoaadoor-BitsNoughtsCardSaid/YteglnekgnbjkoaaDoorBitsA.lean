/- The contracts of bits.at, Has, Within, Same and of the reference's word, Has, SameWords: what each call computes, for any sets. No condition but the lengths that any slice has. -/
import Derived.Test.YteglnekgnbjkoaaDoorWords
import Derived.Test.YteglnekgnbjkoaaDoorSeq
namespace Go.Proofs.YteglnekgnbjkoaaDoor
open Go.ChangeShapes Go.WideShapes Go.ChangeAt Go.RowKit
namespace Words
theorem at_c (v : Value) (s : List Wd) (i : Int) (w : World) (hv : Set w v s) (h0 : 0 ≤ i) : Calls Tryd.prog 49 #[v, .int .i64 i] w (Gives (.int .u64 ((wd s i.toNat).toNat : Int)) w) := by
  obtain ⟨p, cap, rfl, hcap, hmx, _, hc⟩ := hv.open
  unfold maxLen at hmx
  by_cases hi : i < s.length
  · obtain ⟨b, off, rfl, hcell⟩ := ws_cell hc i.toNat (by omega)
    have hd : decide (i < s.length) = true := decide_eq_true hi
    clear hc
    go_enter Tryd.func49, Tryd.ntmps49
    go_wp2
    go_ret
    exact Gives.is (by repeat (first | assumption | exact Nw.refl _ | refine Nw.alloc ?_ _ | refine Nw.drew ?_ | refine Nw.drewN2 ?_ _ | (refine Nw.trans ?_ (by assumption))))
  · have hd : decide (i < s.length) = false := decide_eq_false hi
    rw [wd_ge s i.toNat (by omega)]
    clear hc
    go_enter Tryd.func49, Tryd.ntmps49
    go_wp2
    go_ret
    exact Gives.i rfl (by repeat (first | assumption | exact Nw.refl _ | refine Nw.alloc ?_ _ | refine Nw.drew ?_ | refine Nw.drewN2 ?_ _ | (refine Nw.trans ?_ (by assumption))))

theorem word_c (v : Value) (s : List Wd) (i : Int) (w : World) (hv : Set w v s) (h0 : 0 ≤ i) : Calls Tryd.prog 52 #[v, .int .i64 i] w (Gives (.int .u64 ((wd s i.toNat).toNat : Int)) w) := by
  obtain ⟨p, cap, rfl, hcap, hmx, _, hc⟩ := hv.open
  unfold maxLen at hmx
  by_cases hi : i < s.length
  · obtain ⟨b, off, rfl, hcell⟩ := ws_cell hc i.toNat (by omega)
    have hd : decide (i < s.length) = true := decide_eq_true hi
    clear hc
    go_enter Tryd.func52, Tryd.ntmps52
    go_wp2
    go_ret
    exact Gives.is (by repeat (first | assumption | exact Nw.refl _ | refine Nw.alloc ?_ _ | refine Nw.drew ?_ | refine Nw.drewN2 ?_ _ | (refine Nw.trans ?_ (by assumption))))
  · have hd : decide (i < s.length) = false := decide_eq_false hi
    rw [wd_ge s i.toNat (by omega)]
    clear hc
    go_enter Tryd.func52, Tryd.ntmps52
    go_wp2
    go_ret
    exact Gives.i rfl (by repeat (first | assumption | exact Nw.refl _ | refine Nw.alloc ?_ _ | refine Nw.drew ?_ | refine Nw.drewN2 ?_ _ | (refine Nw.trans ?_ (by assumption))))

theorem has_neg (s : List Wd) (n : Int) (h : n < 0) : has s n = false := by unfold has; rw [decide_eq_false (by omega)]; rfl
theorem has_nat (s : List Wd) (n : Int) (h : 0 ≤ n) : has s n = (wd s (n / 64).toNat).getLsbD (n % 64).toNat := by
  unfold has mem
  rw [decide_eq_true h, Bool.true_and, show (n / 64).toNat = n.toNat / 64 by omega, show (n % 64).toNat = n.toNat % 64 by omega]
theorem bit_is (x : Wd) (k : Nat) : (bits .and .u64 ((x.toNat : Int) / 2 ^ k) 1 == 1) = x.getLsbD k := by
  rw [getbit]
  cases x.getLsbD k <;> rfl
theorem has_c (v : Value) (s : List Wd) (n : Int) (w : World) (hv : Set w v s) (hn : n ≤ 9223372036854775807) : Calls Tryd.prog 16 #[v, .int .i64 n] w (Gives (.bool (has s n)) w) := by
  by_cases h : 0 ≤ n
  · have hd : decide (0 ≤ n) = true := decide_eq_true h
    have HR := hid (has_nat s n h)
    go_enter Tryd.func16, Tryd.ntmps16
    go_wp2_with (go_at_call 49; refine (at_c _ _ _ _ hv (by omega)).mono ?_; rintro e w1 ⟨rfl, hn1⟩; obtain ⟨hc1, hf1, hz1⟩ := nwc hn1)
    go_ret
    exact Gives.b (by rw [HR.out]; exact bit_is _ _) (by repeat (first | assumption | exact Nw.refl _ | refine Nw.alloc ?_ _ | refine Nw.drew ?_ | refine Nw.drewN2 ?_ _ | (refine Nw.trans ?_ (by assumption))))
  · have hd : decide (0 ≤ n) = false := decide_eq_false h
    have HR := hid (has_neg s n (by omega))
    go_enter Tryd.func16, Tryd.ntmps16
    go_wp2
    go_ret
    exact Gives.b HR.out.symm (by repeat (first | assumption | exact Nw.refl _ | refine Nw.alloc ?_ _ | refine Nw.drew ?_ | refine Nw.drewN2 ?_ _ | (refine Nw.trans ?_ (by assumption))))
theorem rhas_c (v : Value) (s : List Wd) (n : Int) (w : World) (hv : Set w v s) (hn : n ≤ 9223372036854775807) : Calls Tryd.prog 17 #[v, .int .i64 n] w (Gives (.bool (has s n)) w) := by
  obtain ⟨p, cap, rfl, hcap, hmx, _, hc⟩ := hv.open
  unfold maxLen at hmx
  by_cases h : 0 ≤ n
  · have hd : decide (0 ≤ n) = true := decide_eq_true h
    have HR := hid (has_nat s n h)
    by_cases hi : n / 64 < s.length
    · have hd2 : decide (n / 64 < s.length) = true := decide_eq_true hi
      obtain ⟨b, off, rfl, hcell⟩ := ws_cell hc (n / 64).toNat (by omega)
      clear hc
      go_enter Tryd.func17, Tryd.ntmps17
      go_wp2
      go_ret
      exact Gives.b (by rw [HR.out]; exact bit_is _ _) (by repeat (first | assumption | exact Nw.refl _ | refine Nw.alloc ?_ _ | refine Nw.drew ?_ | refine Nw.drewN2 ?_ _ | (refine Nw.trans ?_ (by assumption))))
    · have hd2 : decide (n / 64 < s.length) = false := decide_eq_false hi
      have HR2 := hid (show has s n = false by rw [HR.out, wd_ge s _ (by omega)]; simp)
      clear hc
      go_enter Tryd.func17, Tryd.ntmps17
      go_wp2
      go_ret
      exact Gives.b HR2.out.symm (by repeat (first | assumption | exact Nw.refl _ | refine Nw.alloc ?_ _ | refine Nw.drew ?_ | refine Nw.drewN2 ?_ _ | (refine Nw.trans ?_ (by assumption))))
  · have hd : decide (0 ≤ n) = false := decide_eq_false h
    have HR := hid (has_neg s n (by omega))
    clear hc
    go_enter Tryd.func17, Tryd.ntmps17
    go_wp2
    go_ret
    exact Gives.b HR.out.symm (by repeat (first | assumption | exact Nw.refl _ | refine Nw.alloc ?_ _ | refine Nw.drew ?_ | refine Nw.drewN2 ?_ _ | (refine Nw.trans ?_ (by assumption))))
/-! ### Are they one, word by word? -/
theorem eq_of_take (a b : List Wd) (n : Nat) (h : a.take n = b.take n) (h1 : n < a.length) (h2 : n < b.length) : wd a n = wd b n ↔ a.take (n + 1) = b.take (n + 1) := by
  rw [List.take_add_one, List.take_add_one, h, List.append_cancel_left_eq]
  simp [wd, h1, h2]
theorem samewords_c (u v : Value) (a b : List Wd) (w : World) (hu : Set w u a) (hv : Set w v b) : Calls Tryd.prog 14 #[u, v] w (Gives (.bool (decide (a = b))) w) := by
  obtain ⟨p, cap, rfl, hcap, hmx, _, hc⟩ := hu.open
  obtain ⟨p2, cap2, rfl, hcap2, hmx2, _, hc2⟩ := hv.open
  unfold maxLen at hmx hmx2
  by_cases hl : a.length = b.length
  · have hd : ((a.length : Int) != b.length) = false := by simp [hl]
    go_enter Tryd.func14, Tryd.ntmps14
    go_wp2
    go_loopw [5, 13] (fun _ i wr => ∃ k : Nat, k ≤ a.length ∧ i = .int .i64 k ∧ a.take k = b.take k ∧ Nw w wr) (fun _ i _ => a.length - (intOf i).toNat)
    case atStart => exact ⟨0, Nat.zero_le _, rfl, rfl, Nw.refl _⟩
    case round =>
      obtain ⟨k, hk, rfl, ht, hn⟩ := hrel
      obtain ⟨hcR, hfR, hzR⟩ := nwc hn
      by_cases hlt : k < a.length
      · obtain ⟨b1, o1, rfl, hcell⟩ := ws_cell (hc.nw hn) k hlt
        obtain ⟨b2, o2, rfl, hcell2⟩ := ws_cell (hc2.nw hn) k (by omega)
        have hdk : decide (k < a.length) = true := decide_eq_true hlt
        have hk2 : k < b.length := by omega
        have HT := hid (eq_of_take a b k ht hlt hk2)
        by_cases he : wd a k = wd b k
        · have hde : (((wd a k).toNat : Int) != ((wd b k).toNat : Int)) = false := by simp [he]
          clear hc hc2 ht
          go_upto_region 6 with fail
          go_quiet (fail)
          go_wp2
          go_roundw
          case rel => exact ⟨k + 1, by omega, by go_num, HT.out.1 he, (by repeat (first | assumption | exact Nw.refl _ | refine Nw.alloc ?_ _ | refine Nw.drew ?_ | refine Nw.drewN2 ?_ _ | (refine Nw.trans ?_ (by assumption))))⟩
          case measure => simp [intOf]; omega
        · have hde : (((wd a k).toNat : Int) != ((wd b k).toNat : Int)) = true := by simp [wd_eq, he]
          have HF := hid (show decide (a = b) = false from decide_eq_false (fun h => he (by rw [h])))
          clear hc hc2 ht he
          go_upto_region 6 with fail
          go_quiet (fail)
          go_wp2
          go_ret
          exact Gives.b HF.out.symm (by repeat (first | assumption | exact Nw.refl _ | refine Nw.alloc ?_ _ | refine Nw.drew ?_ | refine Nw.drewN2 ?_ _ | (refine Nw.trans ?_ (by assumption))))
      · have hdk : decide (k < a.length) = false := decide_eq_false hlt
        have HF := hid (show decide (a = b) = true from decide_eq_true (by rwa [List.take_of_length_le (by omega), List.take_of_length_le (by omega)] at ht))
        clear hc hc2 ht
        go_wp2
        go_ret
        exact Gives.b HF.out.symm (by repeat (first | assumption | exact Nw.refl _ | refine Nw.alloc ?_ _ | refine Nw.drew ?_ | refine Nw.drewN2 ?_ _ | (refine Nw.trans ?_ (by assumption))))
  · have hd : ((a.length : Int) != b.length) = true := by simp; omega
    have HF := hid (show decide (a = b) = false from decide_eq_false (fun h => hl (by rw [h])))
    clear hc hc2
    go_enter Tryd.func14, Tryd.ntmps14
    go_wp2
    go_ret
    exact Gives.b HF.out.symm (by repeat (first | assumption | exact Nw.refl _ | refine Nw.alloc ?_ _ | refine Nw.drew ?_ | refine Nw.drewN2 ?_ _ | (refine Nw.trans ?_ (by assumption))))
end Words
end Go.Proofs.YteglnekgnbjkoaaDoor
