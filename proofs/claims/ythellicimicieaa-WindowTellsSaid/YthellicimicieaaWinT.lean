/- Buckets that come in; WindowTells walked. No condition. -/
import Derived.Test.YthellicimicieaaWinS
import Derived.Deep.SlicePairs
import Derived.Lib.SmallJoins
set_option linter.unusedSimpArgs false
set_option linter.unusedVariables false
namespace Go.Proofs.Ythellicimicieaa
open Go.ChangeShapes Go.WideShapes Go.ChangeAt Go.RowKit
namespace Wn
open Ival Words
section
variable {H : Type} {enc : TypeId × Value → H} {P : Program}
theorem choose_list {α β : Type} (d : β) (Q : α → β → Prop) : ∀ l : List α, (∀ x ∈ l, ∃ y, Q x y) → ∃ ys : List β, ys.length = l.length ∧ ∀ i (h : i < l.length), Q l[i] (ys.getD i d)
  | [], _ => ⟨[], rfl, fun i h => by cases h⟩
  | x :: r, h => by
    obtain ⟨y, hy⟩ := h x (by simp)
    obtain ⟨ys, h1, h2⟩ := choose_list d Q r (fun z hz => h z (by simp [hz]))
    refine ⟨y :: ys, by simp [h1], fun i hi => ?_⟩
    cases i with
    | zero => exact hy
    | succ i => exact h2 i (by simpa using hi)
theorem open_set_at {t e : TypeId} {W : World} {n : Nat} {v : Value} {y : DataW H × List MemPlace} (ht : P.underlying t = some (.slice e)) (he : P.underlying e = some (.int .u64)) (hc : P.cellsOf e = 1)
    (hf : DataW.trod enc P W 0 (fun _ => true) true n t [v] = some y) : ∃ s : List Wd, Words.Set W v s := by
  obtain ⟨d, p⟩ := y
  rcases open_ints ht he hc hf with ⟨hcs, hx⟩ | ⟨a, len', cap', zs, hcs, _, hl, hm, hz, hx, hcell, hwz⟩
  · simp at hcs
    subst hcs
    exact ⟨[], Words.Set.nil W⟩
  · simp at hcs
    subst hcs
    simp only [if_true] at hz
    have hlen : (zs.take len').length = len' := by simp; omega
    have e : (zs.take len').map (Value.int .u64) = ws ((zs.take len').map fun z => BitVec.ofNat 64 z.toNat) := by
      simp only [ws, List.map_map]
      refine List.map_congr_left fun z hz => ?_
      have := bounds_u64 (hwz z (List.mem_of_mem_take hz))
      simp only [Function.comp_apply, wv, BitVec.toNat_ofNat]
      congr 1; omega
    refine ⟨(zs.take len').map fun z => BitVec.ofNat 64 z.toNat, ?_⟩
    unfold Words.Set
    rw [← e]
    refine ⟨some a, cap', by simp; omega, by simp; omega, hm, (fun h => by cases h), Cells.of_add fun i hi => ?_⟩
    simp at hi
    rw [hcell i (by omega)]
    simp [List.getElem?_eq_getElem (show i < zs.length by omega)]
theorem open_bks {t e e2 : TypeId} {f0 f1 : Field} {W : World} {base : Nat} {v : Value} {d : DataW H} {p : List MemPlace} (ht : P.underlying t = some (.slice e)) (he : P.underlying e = some (.struct #[f0, f1]))
    (ce : P.cellsOf e = 2) (o0 : f0.offset = 0) (o1 : f1.offset = 1) (c0 : P.cellsOf f0.type = 1) (c1 : P.cellsOf f1.type = 1) (h0 : P.underlying f0.type = some (.int .i64)) (h1 : P.underlying f1.type = some (.slice e2)) (he2 : P.underlying e2 = some (.int .u64)) (hc2 : P.cellsOf e2 = 1)
    (hval : Value.okWide P W .any base t v) (hj : DataW.Trod enc P W 0 (fun _ => true) true t v d p) :
    ∃ bs : Bs, Bks W v bs := by
  obtain ⟨a0, len, cap, rfl⟩ := okWide_slice ht hval
  obtain ⟨fuel, hf0⟩ := hj
  have hf : DataW.trod enc P W 0 (fun _ => true) true fuel t [.slice a0 len cap] = some (d, p) := by simpa [Value.cells] using hf0
  rcases Deep.open_slice_pairs ht he ce o0 o1 c0 c1 hf with ⟨hcs, hx⟩ | ⟨a, len', cap', m, n, V0, V1, D0, D1, P0, P1, hcs, _, hl, hm, hmm, hx, hc⟩
  · simp at hcs
    obtain ⟨rfl, rfl, rfl⟩ := hcs
    exact ⟨[], Bks.nil W⟩
  · simp at hcs
    obtain ⟨rfl, rfl, rfl⟩ := hcs
    simp only [if_true] at hmm
    subst hmm
    obtain ⟨bs, hl1, hes⟩ := choose_list (0, []) (fun (i : Nat) (x : Int × List Wd) => V0 i = .int .i64 x.1 ∧ Words.Set W (V1 i) x.2) (List.range len) (fun i hi => by
      have hi' := List.mem_range.1 hi
      have := hc i (by omega)
      obtain ⟨k, hk, _, hw⟩ := DataW.trod_int h0 this.2.2.1
      obtain ⟨s, k1⟩ := open_set_at h1 he2 hc2 this.2.2.2
      exact ⟨(k, s), by simpa using hk, k1⟩)
    rw [List.length_range] at hl1
    refine ⟨bs, ⟨some a, _, by rw [hl1], by omega, hm, (fun h => by cases h), fun i hi => ?_⟩⟩
    rw [hl1] at hi
    have e0 := addr_add_of_cell (by have := (hc 0 (by omega)).1; simpa using this : W.cell? (a.add 0) = some (V0 0))
    obtain ⟨q1, q2⟩ := hes i (by simpa using hi)
    simp only [List.getElem_range] at q1 q2
    have := hc i (by omega)
    rw [e0, addr_add, addr_add] at this
    refine ⟨a.block, a.off, V1 i, by rw [← e0], ?_, ?_, q2⟩
    · have h6 := this.1
      rw [q1] at h6
      simpa [off] using h6
    · rw [← Nat.add_assoc] at this
      simpa using this.2.1
end
set_option maxRecDepth 20000 in
set_option maxHeartbeats 3200000 in
theorem tells_walk (lo hi d c : Int) (vl vs : Value) (bs : Bs) (s : List Wd) (w : World) (hv : Bks w vl bs) (hs : Words.Set w vs s) (hlo : -9223372036854775808 ≤ lo ∧ lo ≤ 9223372036854775807) (hd : 0 ≤ d ∧ d ≤ 18446744073709551615) :
    Calls Try.prog 11 #[.agg #[.int .i64 lo, .int .i64 hi], vl, .int .u64 d, .int .i64 c, vs] w fun e w' => e = .returned (.bool true) ∧ Nw w w' := by
  have HG := hid (fun w' (h : Nw w w') => great_w vl vs bs s w' (hv.nw h) (hs.nw h))
  have HT := hid (fun w' (h : Nw w w') (h1 : Sm 100 100 bs) (h2 : s.length ≤ 100) => tells_w lo hi d c vl vs bs s w' (hv.nw h) (h1.mono (by decide) (by decide)) (hs.nw h) (by omega) hlo hd)
  have HAW := hid (fun w' => awake_w w')
  obtain ⟨q1, c1, rfl⟩ := hv.shape rfl
  obtain ⟨q2, c2, rfl⟩ := set_shape hs
  clear hv hs
  unfold span at *
  go_enter Try.func11, Try.ntmps11
  have hn := (Nw.refl w).alloc (.cells #[.int .i64 lo, .int .i64 hi] 26)
  obtain ⟨x0, x1⟩ := box2 w (.int .i64 lo) (.int .i64 hi) 26
  go_upto_region 1 with fail
  generalize w.alloc (.cells #[.int .i64 lo, .int .i64 hi] 26) = w0 at *
  go_upto_if 14 with (first
    | (go_at_call 40; refine (HG.out _ hn).mono ?_; rintro e w1 ⟨hn1, g, rfl, hg⟩; have x0 := hn1.cell x0; have x1 := hn1.cell x1)
    | fail)
  rcases hg with rfl | ⟨rfl, hsm, hsl⟩
  all_goals
    go_wp2_with (first
      | (go_at_call 18; refine (HAW.out _).mono ?_; rintro e w2 ⟨rfl, hn2⟩)
      | (go_at_call 41; refine (HT.out _ (hn.trans hn1) hsm hsl).mono ?_; rintro e w3 ⟨rfl, hn3⟩)
      | fail)
    go_ret
    exact ⟨rfl, hn.trans (hn1.trans (by repeat (first | assumption | exact Nw.refl _ | refine Nw.alloc ?_ _ | refine Nw.drew ?_ | refine Nw.drewN2 ?_ _ | (refine Nw.trans ?_ (by assumption)))))⟩
end Wn
end Go.Proofs.Ythellicimicieaa
