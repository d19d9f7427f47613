/- The contracts of bits.at, Has, Within, Same and of the reference's word, Has, SameWords: what each call computes, for any sets. No condition but the lengths that any slice has. -/
import Derived.Test.YthellicimicieaaWords
import Derived.Test.YthellicimicieaaSeq
set_option linter.unusedSimpArgs false
set_option linter.unusedVariables false
namespace Go.Proofs.Ythellicimicieaa
open Go.ChangeShapes Go.WideShapes Go.ChangeAt Go.RowKit
namespace Words
theorem at_c (v : Value) (s : List Wd) (i : Int) (w : World) (hv : Set w v s) (h0 : 0 ≤ i) : Calls Try.prog 57 #[v, .int .i64 i] w (Gives (.int .u64 ((wd s i.toNat).toNat : Int)) w) := by
  obtain ⟨p, cap, rfl, hcap, hmx, _, hc⟩ := hv.open
  unfold maxLen at hmx
  by_cases hi : i < s.length
  · obtain ⟨b, off, rfl, hcell⟩ := ws_cell hc i.toNat (by omega)
    have hd : decide (i < s.length) = true := decide_eq_true hi
    clear hc
    go_enter Try.func57, Try.ntmps57
    go_wp2
    go_ret
    exact Gives.is (by repeat (first | assumption | exact Nw.refl _ | refine Nw.alloc ?_ _ | refine Nw.drew ?_ | refine Nw.drewN2 ?_ _ | (refine Nw.trans ?_ (by assumption))))
  · have hd : decide (i < s.length) = false := decide_eq_false hi
    rw [wd_ge s i.toNat (by omega)]
    clear hc
    go_enter Try.func57, Try.ntmps57
    go_wp2
    go_ret
    exact Gives.i rfl (by repeat (first | assumption | exact Nw.refl _ | refine Nw.alloc ?_ _ | refine Nw.drew ?_ | refine Nw.drewN2 ?_ _ | (refine Nw.trans ?_ (by assumption))))

theorem word_c (v : Value) (s : List Wd) (i : Int) (w : World) (hv : Set w v s) (h0 : 0 ≤ i) : Calls Try.prog 75 #[v, .int .i64 i] w (Gives (.int .u64 ((wd s i.toNat).toNat : Int)) w) := by
  obtain ⟨p, cap, rfl, hcap, hmx, _, hc⟩ := hv.open
  unfold maxLen at hmx
  by_cases hi : i < s.length
  · obtain ⟨b, off, rfl, hcell⟩ := ws_cell hc i.toNat (by omega)
    have hd : decide (i < s.length) = true := decide_eq_true hi
    clear hc
    go_enter Try.func75, Try.ntmps75
    go_wp2
    go_ret
    exact Gives.is (by repeat (first | assumption | exact Nw.refl _ | refine Nw.alloc ?_ _ | refine Nw.drew ?_ | refine Nw.drewN2 ?_ _ | (refine Nw.trans ?_ (by assumption))))
  · have hd : decide (i < s.length) = false := decide_eq_false hi
    rw [wd_ge s i.toNat (by omega)]
    clear hc
    go_enter Try.func75, Try.ntmps75
    go_wp2
    go_ret
    exact Gives.i rfl (by repeat (first | assumption | exact Nw.refl _ | refine Nw.alloc ?_ _ | refine Nw.drew ?_ | refine Nw.drewN2 ?_ _ | (refine Nw.trans ?_ (by assumption))))

theorem has_neg (s : List Wd) (n : Int) (h : n < 0) : has s n = false := by unfold has; rw [decide_eq_false (by omega)]; rfl
theorem has_nat (s : List Wd) (n : Int) (h : 0 ≤ n) : has s n = (wd s (n / 64).toNat).getLsbD (n % 64).toNat := by
  unfold has mem
  rw [decide_eq_true h, Bool.true_and, show (n / 64).toNat = n.toNat / 64 by omega, show (n % 64).toNat = n.toNat % 64 by omega]
theorem bit_is (x : Wd) (k : Nat) : (bits .and .u64 ((x.toNat : Int) / 2 ^ k) 1 == 1) = x.getLsbD k := by
  rw [getbit]
  cases x.getLsbD k <;> rfl
/-! ### Are they one, word by word? -/
theorem eq_of_take (a b : List Wd) (n : Nat) (h : a.take n = b.take n) (h1 : n < a.length) (h2 : n < b.length) : wd a n = wd b n ↔ a.take (n + 1) = b.take (n + 1) := by
  rw [List.take_add_one, List.take_add_one, h, List.append_cancel_left_eq]
  simp [wd, h1, h2]
theorem samewords_c (u v : Value) (a b : List Wd) (w : World) (hu : Set w u a) (hv : Set w v b) : Calls Try.prog 26 #[u, v] w (Gives (.bool (decide (a = b))) w) := by
  obtain ⟨p, cap, rfl, hcap, hmx, _, hc⟩ := hu.open
  obtain ⟨p2, cap2, rfl, hcap2, hmx2, _, hc2⟩ := hv.open
  unfold maxLen at hmx hmx2
  by_cases hl : a.length = b.length
  · have hd : ((a.length : Int) != b.length) = false := by simp [hl]
    go_enter Try.func26, Try.ntmps26
    go_wp2
    go_loopw [5, 13] (fun _ i wr => ∃ k : Nat, k ≤ a.length ∧ i = .int .i64 k ∧ a.take k = b.take k ∧ Nw w wr) (fun _ i _ => a.length - (intOf i).toNat)
    case atStart => exact ⟨0, Nat.zero_le _, rfl, rfl, Nw.refl _⟩
    case round =>
      obtain ⟨k, hk, rfl, ht, hn⟩ := hrel
      obtain ⟨hcR, hfR, hzR⟩ := nwc hn
      by_cases hlt : k < a.length
      · obtain ⟨b1, o1, rfl, hcell⟩ := ws_cell (hc.nw hn) k hlt
        obtain ⟨b2, o2, rfl, hcell2⟩ := ws_cell (hc2.nw hn) k (by omega)
        have hdk : decide (k < a.length) = true := decide_eq_true hlt
        have hk2 : k < b.length := by omega
        have HT := hid (eq_of_take a b k ht hlt hk2)
        by_cases he : wd a k = wd b k
        · have hde : (((wd a k).toNat : Int) != ((wd b k).toNat : Int)) = false := by simp [he]
          clear hc hc2 ht
          go_upto_region 6 with fail
          go_quiet (fail)
          go_wp2
          go_roundw
          case rel => exact ⟨k + 1, by omega, by go_num, HT.out.1 he, (by repeat (first | assumption | exact Nw.refl _ | refine Nw.alloc ?_ _ | refine Nw.drew ?_ | refine Nw.drewN2 ?_ _ | (refine Nw.trans ?_ (by assumption))))⟩
          case measure => simp [intOf]; omega
        · have hde : (((wd a k).toNat : Int) != ((wd b k).toNat : Int)) = true := by simp [wd_eq, he]
          have HF := hid (show decide (a = b) = false from decide_eq_false (fun h => he (by rw [h])))
          clear hc hc2 ht he
          go_upto_region 6 with fail
          go_quiet (fail)
          go_wp2
          go_ret
          exact Gives.b HF.out.symm (by repeat (first | assumption | exact Nw.refl _ | refine Nw.alloc ?_ _ | refine Nw.drew ?_ | refine Nw.drewN2 ?_ _ | (refine Nw.trans ?_ (by assumption))))
      · have hdk : decide (k < a.length) = false := decide_eq_false hlt
        have HF := hid (show decide (a = b) = true from decide_eq_true (by rwa [List.take_of_length_le (by omega), List.take_of_length_le (by omega)] at ht))
        clear hc hc2 ht
        go_wp2
        go_ret
        exact Gives.b HF.out.symm (by repeat (first | assumption | exact Nw.refl _ | refine Nw.alloc ?_ _ | refine Nw.drew ?_ | refine Nw.drewN2 ?_ _ | (refine Nw.trans ?_ (by assumption))))
  · have hd : ((a.length : Int) != b.length) = true := by simp; omega
    have HF := hid (show decide (a = b) = false from decide_eq_false (fun h => hl (by rw [h])))
    clear hc hc2
    go_enter Try.func26, Try.ntmps26
    go_wp2
    go_ret
    exact Gives.b HF.out.symm (by repeat (first | assumption | exact Nw.refl _ | refine Nw.alloc ?_ _ | refine Nw.drew ?_ | refine Nw.drewN2 ?_ _ | (refine Nw.trans ?_ (by assumption))))
end Words
end Go.Proofs.Ythellicimicieaa
