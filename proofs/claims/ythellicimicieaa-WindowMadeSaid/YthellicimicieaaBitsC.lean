/- The contracts of bits.Or, And, Less and of the reference's: for any sets not longer than 2^30 the sets that they make. -/
import Derived.Test.YthellicimicieaaBitsB
set_option linter.unusedSimpArgs false
set_option linter.unusedVariables false
namespace Go.Proofs.Ythellicimicieaa
open Go.ChangeShapes Go.WideShapes Go.ChangeAt Go.RowKit
namespace Words
theorem part_put {w w0 : World} {B g n : Nat} {e : TypeId} {f : Nat → Wd} {k : Nat} (h : Own w B e (.slice (some ⟨g, 0, none⟩) n n) (ws (part n f k))) (hn : Nw w0 w) (hg : w0.heap.size ≤ g) (z : Int) (hz : z = ((f k).toNat : Int)) :
    Own (w.setCell ⟨g, k, none⟩ (.int .u64 z)) B e (.slice (some ⟨g, 0, none⟩) n n) (ws (part n f (k + 1))) ∧ Nw w0 (w.setCell ⟨g, k, none⟩ (.int .u64 z)) := by
  subst hz
  exact ⟨part_own h _ rfl, hn.setCell hg _⟩
theorem HandsT.w {w w' w0 : World} {v : Value} {s t : List Wd} {e : Ending} (h : HandsT w v s e w') (hs : s = t) (hn : Nw w0 w) (hv : ∀ k, v.ownBlock = some k → w0.heap.size ≤ k) : HandsW w0 t e w' := by
  obtain ⟨v', h1, h2, h3, h4⟩ := h
  subst hs
  exact ⟨v', h1, h2, fun k hk => hv k (h3 k hk), hn.trans h4⟩
theorem HandsW.w {w w' w0 : World} {s t : List Wd} {e : Ending} (h : HandsW w s e w') (hs : s = t) (hn : Nw w0 w) : HandsW w0 t e w' := by
  obtain ⟨v', h1, h2, h3, h4⟩ := h
  subst hs
  exact ⟨v', h1, h2, fun k hk => Nat.le_trans hn.size (h3 k hk), hn.trans h4⟩
theorem own_set {w : World} {B g n : Nat} {e : TypeId} {f : Nat → Wd} (h : Own w B e (.slice (some ⟨g, 0, none⟩) n n) (ws (part n f n))) : Set w (.slice (some ⟨g, 0, none⟩) n n) (part n f n) := h.sl
def orf (a b : List Wd) (i : Nat) : Wd := wd a i ||| wd b i
def andf (a b : List Wd) (i : Nat) : Wd := wd a i &&& wd b i
def lessf (a b : List Wd) (i : Nat) : Wd := wd a i &&& ~~~ wd b i
theorem orf_bv (a b : List Wd) (k : Nat) : bits .or .u64 ((wd a k).toNat : Int) ((wd b k).toNat : Int) = ((orf a b k).toNat : Int) := or_bv _ _
theorem andf_bv (a b : List Wd) (k : Nat) : bits .and .u64 ((wd a k).toNat : Int) ((wd b k).toNat : Int) = ((andf a b k).toNat : Int) := and_bv _ _
theorem lessf_bv (a b : List Wd) (k : Nat) : bits .andNot .u64 ((wd a k).toNat : Int) ((wd b k).toNat : Int) = ((lessf a b k).toNat : Int) := less_bv _ _
set_option maxHeartbeats 800000 in
theorem or_c (u v : Value) (a b : List Wd) (w : World) (hu : Set w u a) (hv : Set w v b) (ha : a.length ≤ 1073741824) (hb : b.length ≤ 1073741824) : Calls Try.prog 36 #[u, v] w (HandsW w (or a b)) := by
  obtain ⟨p, cap, rfl, hcap, hmx, _, hc⟩ := hu.open
  obtain ⟨p2, cap2, rfl, hcap2, hmx2, _, hc2⟩ := hv.open
  unfold maxLen at hmx hmx2
  clear hc hc2
  obtain ⟨N, hN⟩ : ∃ N, N = max a.length b.length := ⟨_, rfl⟩
  have HF := hid (show or a b = trim (part N (orf a b) N) by rw [part_all, hN]; rfl)
  rw [HF.out]
  have hN2 : N ≤ 1073741824 := by omega
  have hmaxN : max (a.length : Int) b.length = N := by omega
  clear HF hN
  go_enter Try.func36, Try.ntmps36
  go_wp2_with (at_make; refine mk1f rfl _ _ _ rfl _ _ _ Try.underlying42 info_u64 (by decide) rfl (Nw.refl w) N rfl rfl ?_ ?_ ?_ ?_; rotate_left; omega; omega; omega; intro w1 hown1 hn1 hg1)
  all_goals
    have hown : Own w1 w.heap.size 24 (.slice (some ⟨w.heap.size, 0, none⟩) N N) (ws (part N (orf a b) 0)) := by rw [part_zero]; simpa [ws, wv] using hown1
    clear hown1
    go_loopw [6, 15] (fun _ i wr => ∃ k : Nat, k ≤ N ∧ i = .int .i64 k ∧ Own wr w.heap.size 24 (.slice (some ⟨w.heap.size, 0, none⟩) N N) (ws (part N (orf a b) k)) ∧ Nw w wr) (fun _ i _ => N - (intOf i).toNat)
    case atStart => exact ⟨0, Nat.zero_le _, rfl, hown, hn1⟩
    case round =>
      obtain ⟨k, hk, rfl, hownk, hn⟩ := hrel
      obtain ⟨hcR, hfR, hzR⟩ := nwc hn
      clear hown
      by_cases hlt : k < N
      · obtain ⟨q1, q2, q3, q4⟩ := part_cell hownk hlt
        have hdk : decide (k < N) = true := decide_eq_true hlt
        have HO := hid hownk
        clear hownk
        go_wp2_with (first
          | (go_at_call_of 57 (Value.slice p a.length cap); refine (at_c _ _ _ _ (hu.nw (by repeat (first | assumption | exact Nw.refl _ | refine Nw.alloc ?_ _ | refine Nw.drew ?_ | refine Nw.drewN2 ?_ _ | (refine Nw.trans ?_ (by assumption))))) (by omega)).mono ?_; rintro e w2 ⟨rfl, hn2⟩; obtain ⟨hc2, hf2, hz2⟩ := nwc hn2)
          | (go_at_call 57; refine (at_c _ _ _ _ (hv.nw (by repeat (first | assumption | exact Nw.refl _ | refine Nw.alloc ?_ _ | refine Nw.drew ?_ | refine Nw.drewN2 ?_ _ | (refine Nw.trans ?_ (by assumption))))) (by omega)).mono ?_; rintro e w3 ⟨rfl, hn3⟩; obtain ⟨hc3, hf3, hz3⟩ := nwc hn3))
        go_roundw
        case rel =>
          have := part_put ((HO.out.nw hn2).nw hn3) ((hn.trans hn2).trans hn3) (Nat.le_refl _) _ (orf_bv a b k)
          exact ⟨k + 1, by omega, by go_num, this.1, this.2⟩
        case measure => simp [intOf]; omega
      · obtain rfl : k = N := by omega
        have hdk : decide (k < k) = false := decide_eq_false (by omega)
        have hs := own_set hownk
        clear hownk
        go_wp2_with (go_at_call 58; refine (trim_c _ _ _ hs).mono ?_; rintro e w2 ⟨v2, rfl, h2, h3, h4⟩)
        go_ret
        exact ⟨v2, rfl, h2, fun q hq => (by have := h3 q hq; first | exact Nat.le_trans hn.size this | (simp only [Value.ownBlock, Option.some.injEq] at this; omega)), hn.trans h4⟩

set_option maxHeartbeats 800000 in
theorem ror_c (u v : Value) (a b : List Wd) (w : World) (hu : Set w u a) (hv : Set w v b) (ha : a.length ≤ 1073741824) (hb : b.length ≤ 1073741824) : Calls Try.prog 68 #[u, v] w (HandsW w (or a b)) := by
  obtain ⟨p, cap, rfl, hcap, hmx, _, hc⟩ := hu.open
  obtain ⟨p2, cap2, rfl, hcap2, hmx2, _, hc2⟩ := hv.open
  unfold maxLen at hmx hmx2
  clear hc hc2
  obtain ⟨N, hN⟩ : ∃ N, N = max a.length b.length := ⟨_, rfl⟩
  have HF := hid (show or a b = trim (part N (orf a b) N) by rw [part_all, hN]; rfl)
  rw [HF.out]
  have hN2 : N ≤ 1073741824 := by omega
  have hmaxN : max (a.length : Int) b.length = N := by omega
  clear HF hN
  go_enter Try.func68, Try.ntmps68
  go_wp2_with (at_make; refine mk1f rfl _ _ _ rfl _ _ _ Try.underlying42 info_u64 (by decide) rfl (Nw.refl w) N rfl rfl ?_ ?_ ?_ ?_; rotate_left; omega; omega; omega; intro w1 hown1 hn1 hg1)
  all_goals
    have hown : Own w1 w.heap.size 24 (.slice (some ⟨w.heap.size, 0, none⟩) N N) (ws (part N (orf a b) 0)) := by rw [part_zero]; simpa [ws, wv] using hown1
    clear hown1
    go_loopw [6, 15] (fun _ i wr => ∃ k : Nat, k ≤ N ∧ i = .int .i64 k ∧ Own wr w.heap.size 24 (.slice (some ⟨w.heap.size, 0, none⟩) N N) (ws (part N (orf a b) k)) ∧ Nw w wr) (fun _ i _ => N - (intOf i).toNat)
    case atStart => exact ⟨0, Nat.zero_le _, rfl, hown, hn1⟩
    case round =>
      obtain ⟨k, hk, rfl, hownk, hn⟩ := hrel
      obtain ⟨hcR, hfR, hzR⟩ := nwc hn
      clear hown
      by_cases hlt : k < N
      · obtain ⟨q1, q2, q3, q4⟩ := part_cell hownk hlt
        have hdk : decide (k < N) = true := decide_eq_true hlt
        have HO := hid hownk
        clear hownk
        go_wp2_with (first
          | (go_at_call_of 75 (Value.slice p a.length cap); refine (word_c _ _ _ _ (hu.nw (by repeat (first | assumption | exact Nw.refl _ | refine Nw.alloc ?_ _ | refine Nw.drew ?_ | refine Nw.drewN2 ?_ _ | (refine Nw.trans ?_ (by assumption))))) (by omega)).mono ?_; rintro e w2 ⟨rfl, hn2⟩; obtain ⟨hc2, hf2, hz2⟩ := nwc hn2)
          | (go_at_call 75; refine (word_c _ _ _ _ (hv.nw (by repeat (first | assumption | exact Nw.refl _ | refine Nw.alloc ?_ _ | refine Nw.drew ?_ | refine Nw.drewN2 ?_ _ | (refine Nw.trans ?_ (by assumption))))) (by omega)).mono ?_; rintro e w3 ⟨rfl, hn3⟩; obtain ⟨hc3, hf3, hz3⟩ := nwc hn3))
        go_roundw
        case rel =>
          have := part_put ((HO.out.nw hn2).nw hn3) ((hn.trans hn2).trans hn3) (Nat.le_refl _) _ (orf_bv a b k)
          exact ⟨k + 1, by omega, by go_num, this.1, this.2⟩
        case measure => simp [intOf]; omega
      · obtain rfl : k = N := by omega
        have hdk : decide (k < k) = false := decide_eq_false (by omega)
        have hs := own_set hownk
        clear hownk
        go_wp2_with (go_at_call 27; refine (rtrim_c _ _ _ hs (by rw [part_len]; omega)).mono ?_; rintro e w2 ⟨v2, rfl, h2, h3, h4⟩)
        go_ret
        exact ⟨v2, rfl, h2, fun q hq => (by have := h3 q hq; first | exact Nat.le_trans hn.size this | (simp only [Value.ownBlock, Option.some.injEq] at this; omega)), hn.trans h4⟩

end Words
end Go.Proofs.Ythellicimicieaa
