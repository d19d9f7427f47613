/- The contract of the law's Make: a trace of the names p, q, r by numbers. No condition but lengths. -/
import Derived.Test.YtdihoedehmfgfaaTrL
set_option linter.unusedSimpArgs false
set_option linter.unusedVariables false
namespace Go.Proofs.Ytdihoedehmfgfaa
open Go.ChangeShapes Go.WideShapes Go.ChangeAt Go.RowKit
namespace Tr
open Go.Proofs.Ytdihoedehmfgfaa.Lx (isIn nameB strs_open strs_cell contains_c)
open Go.Proofs.Ytdihoedehmfgfaa.Rec (rises i64s_open i64_cell)
def id3To (n k : Nat) : List Int := ((List.range k).filter fun i => decide (n / 2 ^ i % 2 = 1)).map fun i : Nat => (i : Int)
def id3 (n : Nat) : List Int := id3To n 3
theorem id3_succ (n k : Nat) : id3To n (k + 1) = id3To n k ++ (if decide (n / 2 ^ k % 2 = 1) = true then [(k : Int)] else []) := by
  unfold id3To
  rw [List.range_succ, List.filter_append, List.map_append]
  congr 1
  by_cases h : n / 2 ^ k % 2 = 1
  · simp [h]
  · simp [h]
theorem id3_len (n k : Nat) : (id3To n k).length ≤ k := by
  unfold id3To
  rw [List.length_map]
  have := List.length_filter_le (fun i => decide (n / 2 ^ i % 2 = 1)) (List.range k)
  simpa using this
theorem bit3 : ∀ n : Nat, n < 8 → ∀ j : Nat, j < 3 → (bits .and .u16 ((n : Int) / 2 ^ j) 1 == 1) = decide (n / 2 ^ j % 2 = 1) := by decide +kernel
set_option maxRecDepth 20000 in
theorem ids_c (m : Int) (n : Nat) (hm : m = (n : Int)) (hn8 : n < 8) (w : World) : Calls Try.prog 46 #[.int .u16 m] w (Hands 3 w (i64s (id3 n))) := by
  subst hm
  go_enter Try.func46, Try.ntmps46
  go_wp2
  go_loopw [3, 4, 5] (fun v _ i wr => ∃ j : Nat, j ≤ 3 ∧ i = .int .i64 j ∧ Own wr w.heap.size 3 v (i64s (id3To n j)) ∧ Nw w wr) (fun _ _ i _ => 3 - (intOf i).toNat)
  case atStart => exact ⟨0, by omega, rfl, Own.nil _ _ _, Nw.refl _⟩
  case round =>
    obtain ⟨j, hj, rfl, hown, hn⟩ := hrel
    obtain ⟨pv, cv, rfl, hcv, hmv, _⟩ := i64s_open hown.sl
    have HO := hid hown
    have hll := id3_len n j
    clear hown
    by_cases hlt : j < 3
    · have hdj : decide ((j : Int) < 3) = true := decide_eq_true (by omega)
      have HB := hid (bit3 n hn8 j hlt)
      have HS := hid (id3_succ n j)
      cases hb : decide (n / 2 ^ j % 2 = 1) with
      | true =>
        rw [hb] at HB HS
        have hbb : (bits .and .u16 ((n : Int) / 2 ^ j) 1 == 1) = true := HB.out
        clear hb
        generalize id3To n j = ij at *
        go_wp2_with (first
          | ((at_builtin; refine app1 rfl _ _ _ rfl _ _ _ Try.underlying23 info_i64 rfl (by decide) (hn.alloc _) (HO.out.nw ((Nw.refl _).alloc _)) rfl (Sl.new wr [_] _ _ (by simp [maxLen])) rfl (by simp [Value.oneCell']) ?_ ?_; rotate_left; (simp only [i64s_length, List.length_cons, List.length_nil]; omega); intro v1 w1 hown1 hg1 hn1))
          | fail)
        go_roundw
        case rel => exact ⟨j + 1, by omega, by go_num, by rw [HS.out, if_pos rfl]; simpa [i64s] using hown1, hn1⟩
        case measure => simp [intOf]; omega
      | false =>
        rw [hb] at HB HS
        have hbb : (bits .and .u16 ((n : Int) / 2 ^ j) 1 == 1) = false := HB.out
        clear hb
        generalize id3To n j = ij at *
        go_wp2
        go_roundw
        case rel => exact ⟨j + 1, by omega, by go_num, by rw [HS.out]; simpa using HO.out, hn⟩
        case measure => simp [intOf]; omega
    · obtain rfl : j = 3 := by omega
      have hdj : decide ((3 : Int) < 3) = false := rfl
      go_wp2
      go_ret
      exact ⟨_, rfl, HO.out, hn⟩
/-! ### What Make makes -/
def u16s (ns : List Nat) : List Value := ns.map fun n : Nat => Value.int .u16 (n : Int)
theorem u16s_length (ns : List Nat) : (u16s ns).length = ns.length := by simp [u16s]
theorem u16_cell {w : World} {p : Option Addr} {l : List Nat} (h : Cells w p (u16s l)) (i : Nat) (hi : i < l.length) :
    ∃ b off, p = some ⟨b, off, none⟩ ∧ w.cell? ⟨b, off + i, none⟩ = some (.int .u16 ((l.getD i 0 : Nat) : Int)) := by
  obtain ⟨b, off, e, h⟩ := h i (by rw [u16s_length]; exact hi)
  refine ⟨b, off, e, ?_⟩
  rw [h]; simp [u16s, List.getD_eq_getElem?_getD, hi]
theorem u16s_of (zs : List Int) (h : ∀ z ∈ zs, 0 ≤ z ∧ z ≤ 65535) : ∃ ns : List Nat, zs.map (Value.int .u16) = u16s ns ∧ (∀ n ∈ ns, n ≤ 65535) ∧ ns.length = zs.length := by
  refine ⟨zs.map Int.toNat, ?_, fun n hn => ?_, by simp⟩
  · unfold u16s
    rw [List.map_map]
    refine List.map_congr_left fun z hz => ?_
    have := h z hz
    simp only [Function.comp_apply]
    congr 1; omega
  · obtain ⟨z, hz, rfl⟩ := List.mem_map.1 hn
    have := h z hz
    omega
def pqr : List ByteArray := [⟨#[112]⟩, ⟨#[113]⟩, ⟨#[114]⟩]
def dOf (n : Nat) : Nat := if 65000 ≤ n then 1125899906842624 else if n / 32 % 32 = 31 then 3000 else n / 8 % 4
def stp (s : Int × Es) (n : Nat) : Int × Es := (s.1 + dOf n, s.2 ++ [(s.1 + dOf n, id3 (n % 8))])
def runM (start : Int) (ns : List Nat) : Int × Es := ns.foldl stp (min start 9223372036854775808, [])
def makeP (start : Int) (ns : List Nat) : T := ⟨pqr, (runM start (ns.take 60)).2⟩
theorem runM_snoc (start : Int) (ns : List Nat) (n : Nat) : runM start (ns ++ [n]) = stp (runM start ns) n := by simp [runM]
theorem dOf_le (n : Nat) : dOf n ≤ 1125899906842624 := by
  unfold dOf
  split
  · omega
  · split <;> omega
theorem fold_facts (ns : List Nat) : ∀ s : Int × Es, 0 ≤ s.1 → 0 ≤ (ns.foldl stp s).1 ∧ (ns.foldl stp s).1 ≤ s.1 + ns.length * 1125899906842624 ∧ (ns.foldl stp s).2.length = s.2.length + ns.length := by
  induction ns with
  | nil => intro s h; simp; omega
  | cons n r ih =>
    intro s h
    have h1 := dOf_le n
    have h2 := ih (stp s n) (by simp only [stp]; omega)
    simp only [List.foldl_cons, List.length_cons]
    simp only [stp, List.length_append, List.length_singleton] at h2 ⊢
    omega
theorem runM_facts (start : Int) (h0 : 0 ≤ start) (ns : List Nat) : 0 ≤ (runM start ns).1 ∧ (runM start ns).1 ≤ 9223372036854775808 + ns.length * 1125899906842624 ∧ (runM start ns).2.length = ns.length := by
  have := fold_facts ns (min start 9223372036854775808, []) (by simp only; omega)
  unfold runM
  simp only [List.length_nil] at this
  omega
theorem runM_at (start : Int) (ns : List Nat) (k : Nat) (hk : k < ns.length) : runM start (ns.take (k + 1)) = stp (runM start (ns.take k)) (ns.getD k 0) := by
  rw [List.take_add_one, List.getElem?_eq_getElem hk, Option.toList_some, runM_snoc]
  simp [List.getD_eq_getElem?_getD, hk]
/-! ### The walk -/
theorem pqr_new (w : World) (g : Nat) (hg : g = w.heap.size) : Sl (w.alloc (.cells #[.string ⟨#[112]⟩, .string ⟨#[113]⟩, .string ⟨#[114]⟩] 9)) (.slice (some ⟨g, 0, none⟩) 3 3) (Lx.strs pqr) :=
  Sl.newAt w (Lx.strs pqr) 9 (0, 0) g 3 hg rfl (by decide)
/-- Blocks ahead of the loop: what is handed back, the names, the trace that is filled. -/
theorem make_start (w : World) : (((w.alloc (.cells #[.slice none 0 0, .slice none 0 0] 34)).alloc (.cells #[.string ⟨#[112]⟩, .string ⟨#[113]⟩, .string ⟨#[114]⟩] 9)).alloc (.cells #[.slice (some ⟨w.heap.size + 1, 0, none⟩) 3 3, .slice none 0 0] 34)).heap[w.heap.size]? = some (.cells #[.slice none 0 0, .slice none 0 0] 34 (0, 0)) ∧
    (((w.alloc (.cells #[.slice none 0 0, .slice none 0 0] 34)).alloc (.cells #[.string ⟨#[112]⟩, .string ⟨#[113]⟩, .string ⟨#[114]⟩] 9)).alloc (.cells #[.slice (some ⟨w.heap.size + 1, 0, none⟩) 3 3, .slice none 0 0] 34)).heap[w.heap.size + 1 + 1]? = some (.cells #[.slice (some ⟨w.heap.size + 1, 0, none⟩) 3 3, .slice none 0 0] 34 (0, 0)) ∧
    Sl (((w.alloc (.cells #[.slice none 0 0, .slice none 0 0] 34)).alloc (.cells #[.string ⟨#[112]⟩, .string ⟨#[113]⟩, .string ⟨#[114]⟩] 9)).alloc (.cells #[.slice (some ⟨w.heap.size + 1, 0, none⟩) 3 3, .slice none 0 0] 34)) (.slice (some ⟨w.heap.size + 1, 0, none⟩) 3 3) (Lx.strs pqr) ∧
    Nw w (((w.alloc (.cells #[.slice none 0 0, .slice none 0 0] 34)).alloc (.cells #[.string ⟨#[112]⟩, .string ⟨#[113]⟩, .string ⟨#[114]⟩] 9)).alloc (.cells #[.slice (some ⟨w.heap.size + 1, 0, none⟩) 3 3, .slice none 0 0] 34)) ∧
    (((w.alloc (.cells #[.slice none 0 0, .slice none 0 0] 34)).alloc (.cells #[.string ⟨#[112]⟩, .string ⟨#[113]⟩, .string ⟨#[114]⟩] 9)).alloc (.cells #[.slice (some ⟨w.heap.size + 1, 0, none⟩) 3 3, .slice none 0 0] 34)).heap.size = w.heap.size + 1 + 1 + 1 := by
  have y1 := heap_new w (.cells #[.slice none 0 0, .slice none 0 0] 34)
  have z1 := size_alloc w (.cells #[.slice none 0 0, .slice none 0 0] 34)
  have n1 := (Nw.refl w).alloc (.cells #[.slice none 0 0, .slice none 0 0] 34)
  generalize w.alloc (.cells #[.slice none 0 0, .slice none 0 0] 34) = w1 at *
  have s2 := pqr_new w1 (w.heap.size + 1) z1.symm
  have z2 := size_alloc w1 (.cells #[.string ⟨#[112]⟩, .string ⟨#[113]⟩, .string ⟨#[114]⟩] 9)
  have n2 := (Nw.refl w1).alloc (.cells #[.string ⟨#[112]⟩, .string ⟨#[113]⟩, .string ⟨#[114]⟩] 9)
  generalize w1.alloc (.cells #[.string ⟨#[112]⟩, .string ⟨#[113]⟩, .string ⟨#[114]⟩] 9) = w2 at *
  rw [z1] at z2
  have y3 := heap_new w2 (.cells #[.slice (some ⟨w.heap.size + 1, 0, none⟩) 3 3, .slice none 0 0] 34)
  have z3 := size_alloc w2 (.cells #[.slice (some ⟨w.heap.size + 1, 0, none⟩) 3 3, .slice none 0 0] 34)
  have n3 := (Nw.refl w2).alloc (.cells #[.slice (some ⟨w.heap.size + 1, 0, none⟩) 3 3, .slice none 0 0] 34)
  rw [z2] at y3 z3
  exact ⟨(n2.trans n3).heap y1, y3, s2.nw n3, n1.trans (n2.trans n3), z3⟩
set_option maxRecDepth 20000 in
set_option maxHeartbeats 3200000 in
theorem make_c (start : Int) (h0 : 0 ≤ start) (h64 : start < 18446744073709551616) (vn : Value) (ns : List Nat) (w : World) (hvn : Sl w vn (u16s ns)) (hns : ∀ n ∈ ns, n ≤ 65535) :
    Calls Try.prog 18 #[.int .u64 start, vn] w (HandsT w (makeP start ns)) := by
  obtain ⟨p, cap, rfl, hcap, hmx, hp0, hc⟩ := hvn.open (u16s_length ns)
  have HC := hid hc
  have HNS := hid hns
  unfold maxLen at hmx
  have HST := hid (make_start w)
  clear hc hvn hns
  go_enter Try.func18, Try.ntmps18
  go_upto_region 3 with fail
  generalize hm : (if (9223372036854775808 : Int) < start then (9223372036854775808 : Int) else start) = m0
  have HM := hid (show (runM start (ns.take 0)).1 = m0 by rw [← hm]; show min start 9223372036854775808 = _; split <;> omega)
  clear hm
  obtain ⟨y4, y5, s1, hnL, hsz⟩ := HST.out
  generalize (((w.alloc (.cells #[.slice none 0 0, .slice none 0 0] 34)).alloc (.cells #[.string ⟨#[112]⟩, .string ⟨#[113]⟩, .string ⟨#[114]⟩] 9)).alloc (.cells #[.slice (some ⟨w.heap.size + 1, 0, none⟩) 3 3, .slice none 0 0] 34)) = wL at *
  have hg5 : w.heap.size + 1 + 1 < wL.heap.size := by omega
  clear hsz
  go_wp2
  go_loopw [6, 7, 8, 9, 16] (fun o _ _ _ i wr => ∃ (k : Nat) (v : Value), k ≤ ns.length ∧ k ≤ 60 ∧ i = .int .i64 k ∧ o = .int .u64 (runM start (ns.take k)).1 ∧ CpSt wL (w.heap.size + 1 + 1) (.slice (some ⟨w.heap.size + 1, 0, none⟩) 3 3) v (runM start (ns.take k)).2 wr) (fun _ _ _ _ i _ => ns.length - (intOf i).toNat)
  case atStart => exact ⟨0, _, by omega, by omega, rfl, by rw [HM.out], y5, EvOwn.nil _ _, Mods.refl _ _⟩
  case round =>
    obtain ⟨k, v, hk, hk60, rfl, rfl, hst⟩ := hrel
    have hnr : Nw w wr := hnL.ofMods hst.2.2 (fun j e => by omega)
    have HL := hid (show (runM start (ns.take k)).2.length = k by rw [(runM_facts start h0 (ns.take k)).2.2, List.length_take]; omega)
    have HS0 := hid (fun hlt => runM_at start ns k hlt)
    have HE0 := hid (show (k = 60 ∨ k = ns.length) → makeP start ns = ⟨pqr, (runM start (ns.take k)).2⟩ from fun h => by
      unfold makeP
      rcases h with rfl | rfl
      · rfl
      · rw [List.take_of_length_le hk60, List.take_of_length_le (Nat.le_refl _)])
    have hf1 := (runM_facts start h0 (ns.take k)).1
    have hf2 : (runM start (ns.take k)).1 ≤ 9290926031265333248 := by
      have h1 := (runM_facts start h0 (ns.take k)).2.1
      rw [List.length_take] at h1
      have : min k ns.length ≤ 60 := by omega
      omega
    generalize runM start (ns.take k) = r at *
    obtain ⟨now, et⟩ := r
    dsimp only at *
    obtain ⟨qv, cv, rfl⟩ := hst.2.1.shape HL.out
    by_cases hlt : k < ns.length ∧ ¬ k = 60
    · have hdk : decide (k < ns.length) = true := decide_eq_true hlt.1
      have hd60 : ((k : Int) == 60) = false := beq_eq_false_iff_ne.2 (by have := hlt.2; omega)
      obtain ⟨b1, o1, rfl, hcell⟩ := u16_cell (HC.out.nw hnr) k hlt.1
      have hx : ns.getD k 0 ≤ 65535 := HNS.out _ (by rw [List.getD_eq_getElem?_getD, List.getElem?_eq_getElem hlt.1]; exact List.getElem_mem hlt.1)
      have HS1 := hid (HS0.out hlt.1)
      have hkk := hlt.1
      have hk61 : k + 1 ≤ 60 := by have := hlt.2; omega
      clear HS0 HE0 hlt HNS
      generalize ns.getD k 0 = nx at *
      by_cases c1 : 65000 ≤ nx
      · have d1 : decide ((65000 : Int) ≤ nx) = true := decide_eq_true (by omega)
        have HS := hid (show runM start (ns.take (k + 1)) = (now + 1125899906842624, et ++ [(now + 1125899906842624, id3 (nx % 8))]) by rw [HS1.out]; unfold stp dOf; rw [if_pos c1]; rfl)
        clear HS1 c1
        go_upto_region 13 with fail
        have e1 := heap_cell hst.1 1
        simp only [List.getElem?_toArray, List.getElem?_cons_succ, List.getElem?_cons_zero] at e1
        have g2 := lt_of_heap hst.1
        have st5 := CloneS.stab wr.heap.size (id3 (nx % 8))
        have st6 := EvS.stab wr.heap.size (now + 1125899906842624) (id3 (nx % 8))
        have st7 := OneS.stab wr.heap.size (now + 1125899906842624) (id3 (nx % 8))
        refine wp_region_tail 8 (by kernel_rfl) (by kernel_rfl) (by kernel_rfl) (by kernel_rfl) (by kernel_rfl) ?_
        dsimp only [List.take, List.drop]
        iterate 5
          refine Stairs.is ?_ ?_ ?_
          rotate_left 1
          · intro x wR hR hd K hK
            simp only [Act.put, List.setIfInBounds_toArray, List.set_cons_zero, List.set_cons_succ, Say.ok] at hK ⊢
            clear hd
            change Hid _ at hK
            obtain ⟨hcR, hfR, hzR⟩ := nwc hR
            first | (refine wanted_yes ?_ ?_; rfl) | (refine wanted_no ?_ ?_; rfl)
            go_wp2_with (first | (go_at_call 46; refine (ids_c ((nx : Int) % 8) (nx % 8) (by omega) (by omega) _).mono ?_; rintro e w5 ⟨u5, rfl, hown5, hn5⟩))
            all_goals (refine hK.out _ _ ?_ ?_ <;> first | (solve | (repeat (first | assumption | exact Nw.refl _ | refine Nw.alloc ?_ _ | refine Nw.drew ?_ | refine Nw.drewN2 ?_ _ | (refine Nw.trans ?_ (by assumption))))) | exact rfl)
          try simp only [Act.put, List.setIfInBounds_toArray, List.set_cons_zero, List.set_cons_succ]
        iterate 1
          refine Stairs.that (CloneS wr.heap.size (id3 (nx % 8))) (by first | assumption | simp) ?_ ?_
          · intro x wR hR hd K hK
            simp only [Act.put, List.setIfInBounds_toArray, List.set_cons_zero, List.set_cons_succ, Say.ok] at hK ⊢
            clear hd
            change Hid _ at hK
            obtain ⟨hcR, hfR, hzR⟩ := nwc hR
            first | (refine wanted_yes ?_ ?_; rfl) | (refine wanted_no ?_ ?_; rfl)
            go_wp2_with (first | (go_at_call 46; refine (ids_c ((nx : Int) % 8) (nx % 8) (by omega) (by omega) _).mono ?_; rintro e w5 ⟨u5, rfl, hown5, hn5⟩))
            all_goals (refine hK.out _ _ ?_ ?_ <;> first | (solve | (repeat (first | assumption | exact Nw.refl _ | refine Nw.alloc ?_ _ | refine Nw.drew ?_ | refine Nw.drewN2 ?_ _ | (refine Nw.trans ?_ (by assumption))))) | exact rfl | exact hown5.mono hR.size)
          try simp only [Act.put, List.setIfInBounds_toArray, List.set_cons_zero, List.set_cons_succ, List.length_nil, List.length_cons, List.nil_append, List.cons_append, Nat.reduceAdd]
        iterate 1
          refine Stairs.that (EvS wr.heap.size (now + 1125899906842624) (id3 (nx % 8))) (by first | assumption | simp) ?_ ?_
          · intro x wR hR hd K hK
            simp only [Act.put, List.setIfInBounds_toArray, List.set_cons_zero, List.set_cons_succ, Say.ok] at hK ⊢
            try simp [Region.binds, sayAt, Say.ok] at hd
            change Hid _ at hK
            obtain ⟨hcR, hfR, hzR⟩ := nwc hR
            have hu6 : CloneS wr.heap.size (id3 (nx % 8)) wR (x 5) := (by first | exact hd | exact hd.2 | exact hd.1); obtain ⟨q6, c6, e6⟩ := ints_shape hu6; rw [e6] at hK hu6 ⊢
            first | (refine wanted_yes ?_ ?_; rfl) | (refine wanted_no ?_ ?_; rfl)
            go_wp2_with (first | (go_at_call 46; refine (ids_c ((nx : Int) % 8) (nx % 8) (by omega) (by omega) _).mono ?_; rintro e w5 ⟨u5, rfl, hown5, hn5⟩))
            all_goals (refine hK.out _ _ ?_ ?_ <;> first | (solve | (repeat (first | assumption | exact Nw.refl _ | refine Nw.alloc ?_ _ | refine Nw.drew ?_ | refine Nw.drewN2 ?_ _ | (refine Nw.trans ?_ (by assumption))))) | exact rfl | exact ⟨_, rfl, hu6⟩)
          try simp only [Act.put, List.setIfInBounds_toArray, List.set_cons_zero, List.set_cons_succ, List.length_nil, List.length_cons, List.nil_append, List.cons_append, Nat.reduceAdd]
        iterate 1
          refine Stairs.that (OneS wr.heap.size (now + 1125899906842624) (id3 (nx % 8))) (by first | assumption | simp) ?_ ?_
          · intro x wR hR hd K hK
            simp only [Act.put, List.setIfInBounds_toArray, List.set_cons_zero, List.set_cons_succ, Say.ok] at hK ⊢
            try simp [Region.binds, sayAt, Say.ok] at hd
            change Hid _ at hK
            obtain ⟨hcR, hfR, hzR⟩ := nwc hR
            obtain ⟨u7, e7, hu7⟩ := hd; obtain ⟨q7, c7, rfl⟩ := ints_shape hu7; rw [e7] at hK ⊢
            first | (refine wanted_yes ?_ ?_; rfl) | (refine wanted_no ?_ ?_; rfl)
            go_wp2_with (first | (go_at_call 46; refine (ids_c ((nx : Int) % 8) (nx % 8) (by omega) (by omega) _).mono ?_; rintro e w5 ⟨u5, rfl, hown5, hn5⟩))
            all_goals (refine hK.out _ _ ?_ ?_ <;> first | (solve | (repeat (first | assumption | exact Nw.refl _ | refine Nw.alloc ?_ _ | refine Nw.drew ?_ | refine Nw.drewN2 ?_ _ | (refine Nw.trans ?_ (by assumption))))) | exact rfl | exact ⟨_, _, rfl, cells_newAt _ [_, _] _ _ _ rfl, Own.nw hu7 ((Nw.refl _).alloc _)⟩)
          try simp only [Act.put, List.setIfInBounds_toArray, List.set_cons_zero, List.set_cons_succ, List.length_nil, List.length_cons, List.nil_append, List.cons_append, Nat.reduceAdd]
        refine Stairs.nil ?_
        intro x wR hR hx yR
        have h5 := hx 5 (by decide)
        simp only [sayAt, Say.ok] at h5
        have h6 := hx 6 (by decide)
        simp only [sayAt, Say.ok] at h6
        have h7 := hx 7 (by decide)
        simp only [sayAt, Say.ok] at h7
        clear hx
        simp only [fill, Act.put, List.setIfInBounds_toArray, List.set_cons_zero, List.set_cons_succ]
        obtain ⟨hcR, hfR, hzR⟩ := nwc hR
        obtain ⟨g8, u8, e8, hcs8, hu8⟩ := h7
        obtain ⟨q8, c8, rfl⟩ := ints_shape hu8
        rw [e8]
        obtain ⟨vs, hvl, hrow, hall⟩ := hst.2.1
        have hB : wL.heap.size ≤ wR.heap.size := Nat.le_trans hst.2.2.size hR.size
        generalize id3 (nx % 8) = l at *
        go_wp2_with (first
          | (at_builtin; refine appat rfl _ _ _ rfl _ _ _ _ Try.underlying32 info_event rfl (by decide) (by decide) hB (hR.ownsRow hrow) rfl rfl (show [Value.int .u64 (now + 1125899906842624), Value.slice q8 l.length c8].length = 2 from rfl) hcs8 (by simp [Value.oneCell']) ?_ ?_; rotate_left; (have := HL.out; omega); intro v2 w2 hown2 hg2 hat2; obtain ⟨⟨q9, c9, rfl⟩, y2, hst2⟩ := CpSt.step hst hR hg5 HL.out hvl hrow hall hu8 hown2 hg2 hat2; have y21 := heap_cell y2 1; have y2f := heap_frozen y2 1; simp only [List.getElem?_toArray, List.getElem?_cons_succ, List.getElem?_cons_zero] at y21)
          | fail)
        go_roundw
        case rel => exact ⟨k + 1, _, by omega, by omega, by go_num, by rw [HS.out], by rw [HS.out]; exact hst2⟩
        case measure => simp [intOf]; omega
      · have d1 : decide ((65000 : Int) ≤ nx) = false := decide_eq_false (by omega)
        by_cases c2 : nx / 32 % 32 = 31
        · have d2 : ((nx : Int) / 32 % 32 == 31) = true := by rw [beq_iff_eq]; omega
          have HS := hid (show runM start (ns.take (k + 1)) = (now + 3000, et ++ [(now + 3000, id3 (nx % 8))]) by rw [HS1.out]; unfold stp dOf; rw [if_neg c1, if_pos c2]; rfl)
          clear HS1 c1 c2
          go_upto_region 13 with fail
          have e1 := heap_cell hst.1 1
          simp only [List.getElem?_toArray, List.getElem?_cons_succ, List.getElem?_cons_zero] at e1
          have g2 := lt_of_heap hst.1
          have st5 := CloneS.stab wr.heap.size (id3 (nx % 8))
          have st6 := EvS.stab wr.heap.size (now + 3000) (id3 (nx % 8))
          have st7 := OneS.stab wr.heap.size (now + 3000) (id3 (nx % 8))
          refine wp_region_tail 8 (by kernel_rfl) (by kernel_rfl) (by kernel_rfl) (by kernel_rfl) (by kernel_rfl) ?_
          dsimp only [List.take, List.drop]
          iterate 5
            refine Stairs.is ?_ ?_ ?_
            rotate_left 1
            · intro x wR hR hd K hK
              simp only [Act.put, List.setIfInBounds_toArray, List.set_cons_zero, List.set_cons_succ, Say.ok] at hK ⊢
              clear hd
              change Hid _ at hK
              obtain ⟨hcR, hfR, hzR⟩ := nwc hR
              first | (refine wanted_yes ?_ ?_; rfl) | (refine wanted_no ?_ ?_; rfl)
              go_wp2_with (first | (go_at_call 46; refine (ids_c ((nx : Int) % 8) (nx % 8) (by omega) (by omega) _).mono ?_; rintro e w5 ⟨u5, rfl, hown5, hn5⟩))
              all_goals (refine hK.out _ _ ?_ ?_ <;> first | (solve | (repeat (first | assumption | exact Nw.refl _ | refine Nw.alloc ?_ _ | refine Nw.drew ?_ | refine Nw.drewN2 ?_ _ | (refine Nw.trans ?_ (by assumption))))) | exact rfl)
            try simp only [Act.put, List.setIfInBounds_toArray, List.set_cons_zero, List.set_cons_succ]
          iterate 1
            refine Stairs.that (CloneS wr.heap.size (id3 (nx % 8))) (by first | assumption | simp) ?_ ?_
            · intro x wR hR hd K hK
              simp only [Act.put, List.setIfInBounds_toArray, List.set_cons_zero, List.set_cons_succ, Say.ok] at hK ⊢
              clear hd
              change Hid _ at hK
              obtain ⟨hcR, hfR, hzR⟩ := nwc hR
              first | (refine wanted_yes ?_ ?_; rfl) | (refine wanted_no ?_ ?_; rfl)
              go_wp2_with (first | (go_at_call 46; refine (ids_c ((nx : Int) % 8) (nx % 8) (by omega) (by omega) _).mono ?_; rintro e w5 ⟨u5, rfl, hown5, hn5⟩))
              all_goals (refine hK.out _ _ ?_ ?_ <;> first | (solve | (repeat (first | assumption | exact Nw.refl _ | refine Nw.alloc ?_ _ | refine Nw.drew ?_ | refine Nw.drewN2 ?_ _ | (refine Nw.trans ?_ (by assumption))))) | exact rfl | exact hown5.mono hR.size)
            try simp only [Act.put, List.setIfInBounds_toArray, List.set_cons_zero, List.set_cons_succ, List.length_nil, List.length_cons, List.nil_append, List.cons_append, Nat.reduceAdd]
          iterate 1
            refine Stairs.that (EvS wr.heap.size (now + 3000) (id3 (nx % 8))) (by first | assumption | simp) ?_ ?_
            · intro x wR hR hd K hK
              simp only [Act.put, List.setIfInBounds_toArray, List.set_cons_zero, List.set_cons_succ, Say.ok] at hK ⊢
              try simp [Region.binds, sayAt, Say.ok] at hd
              change Hid _ at hK
              obtain ⟨hcR, hfR, hzR⟩ := nwc hR
              have hu6 : CloneS wr.heap.size (id3 (nx % 8)) wR (x 5) := (by first | exact hd | exact hd.2 | exact hd.1); obtain ⟨q6, c6, e6⟩ := ints_shape hu6; rw [e6] at hK hu6 ⊢
              first | (refine wanted_yes ?_ ?_; rfl) | (refine wanted_no ?_ ?_; rfl)
              go_wp2_with (first | (go_at_call 46; refine (ids_c ((nx : Int) % 8) (nx % 8) (by omega) (by omega) _).mono ?_; rintro e w5 ⟨u5, rfl, hown5, hn5⟩))
              all_goals (refine hK.out _ _ ?_ ?_ <;> first | (solve | (repeat (first | assumption | exact Nw.refl _ | refine Nw.alloc ?_ _ | refine Nw.drew ?_ | refine Nw.drewN2 ?_ _ | (refine Nw.trans ?_ (by assumption))))) | exact rfl | exact ⟨_, rfl, hu6⟩)
            try simp only [Act.put, List.setIfInBounds_toArray, List.set_cons_zero, List.set_cons_succ, List.length_nil, List.length_cons, List.nil_append, List.cons_append, Nat.reduceAdd]
          iterate 1
            refine Stairs.that (OneS wr.heap.size (now + 3000) (id3 (nx % 8))) (by first | assumption | simp) ?_ ?_
            · intro x wR hR hd K hK
              simp only [Act.put, List.setIfInBounds_toArray, List.set_cons_zero, List.set_cons_succ, Say.ok] at hK ⊢
              try simp [Region.binds, sayAt, Say.ok] at hd
              change Hid _ at hK
              obtain ⟨hcR, hfR, hzR⟩ := nwc hR
              obtain ⟨u7, e7, hu7⟩ := hd; obtain ⟨q7, c7, rfl⟩ := ints_shape hu7; rw [e7] at hK ⊢
              first | (refine wanted_yes ?_ ?_; rfl) | (refine wanted_no ?_ ?_; rfl)
              go_wp2_with (first | (go_at_call 46; refine (ids_c ((nx : Int) % 8) (nx % 8) (by omega) (by omega) _).mono ?_; rintro e w5 ⟨u5, rfl, hown5, hn5⟩))
              all_goals (refine hK.out _ _ ?_ ?_ <;> first | (solve | (repeat (first | assumption | exact Nw.refl _ | refine Nw.alloc ?_ _ | refine Nw.drew ?_ | refine Nw.drewN2 ?_ _ | (refine Nw.trans ?_ (by assumption))))) | exact rfl | exact ⟨_, _, rfl, cells_newAt _ [_, _] _ _ _ rfl, Own.nw hu7 ((Nw.refl _).alloc _)⟩)
            try simp only [Act.put, List.setIfInBounds_toArray, List.set_cons_zero, List.set_cons_succ, List.length_nil, List.length_cons, List.nil_append, List.cons_append, Nat.reduceAdd]
          refine Stairs.nil ?_
          intro x wR hR hx yR
          have h5 := hx 5 (by decide)
          simp only [sayAt, Say.ok] at h5
          have h6 := hx 6 (by decide)
          simp only [sayAt, Say.ok] at h6
          have h7 := hx 7 (by decide)
          simp only [sayAt, Say.ok] at h7
          clear hx
          simp only [fill, Act.put, List.setIfInBounds_toArray, List.set_cons_zero, List.set_cons_succ]
          obtain ⟨hcR, hfR, hzR⟩ := nwc hR
          obtain ⟨g8, u8, e8, hcs8, hu8⟩ := h7
          obtain ⟨q8, c8, rfl⟩ := ints_shape hu8
          rw [e8]
          obtain ⟨vs, hvl, hrow, hall⟩ := hst.2.1
          have hB : wL.heap.size ≤ wR.heap.size := Nat.le_trans hst.2.2.size hR.size
          generalize id3 (nx % 8) = l at *
          go_wp2_with (first
            | (at_builtin; refine appat rfl _ _ _ rfl _ _ _ _ Try.underlying32 info_event rfl (by decide) (by decide) hB (hR.ownsRow hrow) rfl rfl (show [Value.int .u64 (now + 3000), Value.slice q8 l.length c8].length = 2 from rfl) hcs8 (by simp [Value.oneCell']) ?_ ?_; rotate_left; (have := HL.out; omega); intro v2 w2 hown2 hg2 hat2; obtain ⟨⟨q9, c9, rfl⟩, y2, hst2⟩ := CpSt.step hst hR hg5 HL.out hvl hrow hall hu8 hown2 hg2 hat2; have y21 := heap_cell y2 1; have y2f := heap_frozen y2 1; simp only [List.getElem?_toArray, List.getElem?_cons_succ, List.getElem?_cons_zero] at y21)
            | fail)
          go_roundw
          case rel => exact ⟨k + 1, _, by omega, by omega, by go_num, by rw [HS.out], by rw [HS.out]; exact hst2⟩
          case measure => simp [intOf]; omega
        · have d2 : ((nx : Int) / 32 % 32 == 31) = false := beq_eq_false_iff_ne.2 (by omega)
          have HS := hid (show runM start (ns.take (k + 1)) = (now + (nx : Int) / 8 % 4, et ++ [(now + (nx : Int) / 8 % 4, id3 (nx % 8))]) by
            have : ((dOf nx : Nat) : Int) = (nx : Int) / 8 % 4 := by unfold dOf; rw [if_neg c1, if_neg c2]; omega
            rw [HS1.out]
            unfold stp
            rw [this])
          clear HS1 c1 c2
          go_upto_region 13 with fail
          have e1 := heap_cell hst.1 1
          simp only [List.getElem?_toArray, List.getElem?_cons_succ, List.getElem?_cons_zero] at e1
          have g2 := lt_of_heap hst.1
          have st5 := CloneS.stab wr.heap.size (id3 (nx % 8))
          have st6 := EvS.stab wr.heap.size (now + (nx : Int) / 8 % 4) (id3 (nx % 8))
          have st7 := OneS.stab wr.heap.size (now + (nx : Int) / 8 % 4) (id3 (nx % 8))
          refine wp_region_tail 8 (by kernel_rfl) (by kernel_rfl) (by kernel_rfl) (by kernel_rfl) (by kernel_rfl) ?_
          dsimp only [List.take, List.drop]
          iterate 5
            refine Stairs.is ?_ ?_ ?_
            rotate_left 1
            · intro x wR hR hd K hK
              simp only [Act.put, List.setIfInBounds_toArray, List.set_cons_zero, List.set_cons_succ, Say.ok] at hK ⊢
              clear hd
              change Hid _ at hK
              obtain ⟨hcR, hfR, hzR⟩ := nwc hR
              first | (refine wanted_yes ?_ ?_; rfl) | (refine wanted_no ?_ ?_; rfl)
              go_wp2_with (first | (go_at_call 46; refine (ids_c ((nx : Int) % 8) (nx % 8) (by omega) (by omega) _).mono ?_; rintro e w5 ⟨u5, rfl, hown5, hn5⟩))
              all_goals (refine hK.out _ _ ?_ ?_ <;> first | (solve | (repeat (first | assumption | exact Nw.refl _ | refine Nw.alloc ?_ _ | refine Nw.drew ?_ | refine Nw.drewN2 ?_ _ | (refine Nw.trans ?_ (by assumption))))) | exact rfl)
            try simp only [Act.put, List.setIfInBounds_toArray, List.set_cons_zero, List.set_cons_succ]
          iterate 1
            refine Stairs.that (CloneS wr.heap.size (id3 (nx % 8))) (by first | assumption | simp) ?_ ?_
            · intro x wR hR hd K hK
              simp only [Act.put, List.setIfInBounds_toArray, List.set_cons_zero, List.set_cons_succ, Say.ok] at hK ⊢
              clear hd
              change Hid _ at hK
              obtain ⟨hcR, hfR, hzR⟩ := nwc hR
              first | (refine wanted_yes ?_ ?_; rfl) | (refine wanted_no ?_ ?_; rfl)
              go_wp2_with (first | (go_at_call 46; refine (ids_c ((nx : Int) % 8) (nx % 8) (by omega) (by omega) _).mono ?_; rintro e w5 ⟨u5, rfl, hown5, hn5⟩))
              all_goals (refine hK.out _ _ ?_ ?_ <;> first | (solve | (repeat (first | assumption | exact Nw.refl _ | refine Nw.alloc ?_ _ | refine Nw.drew ?_ | refine Nw.drewN2 ?_ _ | (refine Nw.trans ?_ (by assumption))))) | exact rfl | exact hown5.mono hR.size)
            try simp only [Act.put, List.setIfInBounds_toArray, List.set_cons_zero, List.set_cons_succ, List.length_nil, List.length_cons, List.nil_append, List.cons_append, Nat.reduceAdd]
          iterate 1
            refine Stairs.that (EvS wr.heap.size (now + (nx : Int) / 8 % 4) (id3 (nx % 8))) (by first | assumption | simp) ?_ ?_
            · intro x wR hR hd K hK
              simp only [Act.put, List.setIfInBounds_toArray, List.set_cons_zero, List.set_cons_succ, Say.ok] at hK ⊢
              try simp [Region.binds, sayAt, Say.ok] at hd
              change Hid _ at hK
              obtain ⟨hcR, hfR, hzR⟩ := nwc hR
              have hu6 : CloneS wr.heap.size (id3 (nx % 8)) wR (x 5) := (by first | exact hd | exact hd.2 | exact hd.1); obtain ⟨q6, c6, e6⟩ := ints_shape hu6; rw [e6] at hK hu6 ⊢
              first | (refine wanted_yes ?_ ?_; rfl) | (refine wanted_no ?_ ?_; rfl)
              go_wp2_with (first | (go_at_call 46; refine (ids_c ((nx : Int) % 8) (nx % 8) (by omega) (by omega) _).mono ?_; rintro e w5 ⟨u5, rfl, hown5, hn5⟩))
              all_goals (refine hK.out _ _ ?_ ?_ <;> first | (solve | (repeat (first | assumption | exact Nw.refl _ | refine Nw.alloc ?_ _ | refine Nw.drew ?_ | refine Nw.drewN2 ?_ _ | (refine Nw.trans ?_ (by assumption))))) | exact rfl | exact ⟨_, rfl, hu6⟩)
            try simp only [Act.put, List.setIfInBounds_toArray, List.set_cons_zero, List.set_cons_succ, List.length_nil, List.length_cons, List.nil_append, List.cons_append, Nat.reduceAdd]
          iterate 1
            refine Stairs.that (OneS wr.heap.size (now + (nx : Int) / 8 % 4) (id3 (nx % 8))) (by first | assumption | simp) ?_ ?_
            · intro x wR hR hd K hK
              simp only [Act.put, List.setIfInBounds_toArray, List.set_cons_zero, List.set_cons_succ, Say.ok] at hK ⊢
              try simp [Region.binds, sayAt, Say.ok] at hd
              change Hid _ at hK
              obtain ⟨hcR, hfR, hzR⟩ := nwc hR
              obtain ⟨u7, e7, hu7⟩ := hd; obtain ⟨q7, c7, rfl⟩ := ints_shape hu7; rw [e7] at hK ⊢
              first | (refine wanted_yes ?_ ?_; rfl) | (refine wanted_no ?_ ?_; rfl)
              go_wp2_with (first | (go_at_call 46; refine (ids_c ((nx : Int) % 8) (nx % 8) (by omega) (by omega) _).mono ?_; rintro e w5 ⟨u5, rfl, hown5, hn5⟩))
              all_goals (refine hK.out _ _ ?_ ?_ <;> first | (solve | (repeat (first | assumption | exact Nw.refl _ | refine Nw.alloc ?_ _ | refine Nw.drew ?_ | refine Nw.drewN2 ?_ _ | (refine Nw.trans ?_ (by assumption))))) | exact rfl | exact ⟨_, _, rfl, cells_newAt _ [_, _] _ _ _ rfl, Own.nw hu7 ((Nw.refl _).alloc _)⟩)
            try simp only [Act.put, List.setIfInBounds_toArray, List.set_cons_zero, List.set_cons_succ, List.length_nil, List.length_cons, List.nil_append, List.cons_append, Nat.reduceAdd]
          refine Stairs.nil ?_
          intro x wR hR hx yR
          have h5 := hx 5 (by decide)
          simp only [sayAt, Say.ok] at h5
          have h6 := hx 6 (by decide)
          simp only [sayAt, Say.ok] at h6
          have h7 := hx 7 (by decide)
          simp only [sayAt, Say.ok] at h7
          clear hx
          simp only [fill, Act.put, List.setIfInBounds_toArray, List.set_cons_zero, List.set_cons_succ]
          obtain ⟨hcR, hfR, hzR⟩ := nwc hR
          obtain ⟨g8, u8, e8, hcs8, hu8⟩ := h7
          obtain ⟨q8, c8, rfl⟩ := ints_shape hu8
          rw [e8]
          obtain ⟨vs, hvl, hrow, hall⟩ := hst.2.1
          have hB : wL.heap.size ≤ wR.heap.size := Nat.le_trans hst.2.2.size hR.size
          generalize id3 (nx % 8) = l at *
          go_wp2_with (first
            | (at_builtin; refine appat rfl _ _ _ rfl _ _ _ _ Try.underlying32 info_event rfl (by decide) (by decide) hB (hR.ownsRow hrow) rfl rfl (show [Value.int .u64 (now + (nx : Int) / 8 % 4), Value.slice q8 l.length c8].length = 2 from rfl) hcs8 (by simp [Value.oneCell']) ?_ ?_; rotate_left; (have := HL.out; omega); intro v2 w2 hown2 hg2 hat2; obtain ⟨⟨q9, c9, rfl⟩, y2, hst2⟩ := CpSt.step hst hR hg5 HL.out hvl hrow hall hu8 hown2 hg2 hat2; have y21 := heap_cell y2 1; have y2f := heap_frozen y2 1; simp only [List.getElem?_toArray, List.getElem?_cons_succ, List.getElem?_cons_zero] at y21)
            | fail)
          go_roundw
          case rel => exact ⟨k + 1, _, by omega, by omega, by go_num, by rw [HS.out], by rw [HS.out]; exact hst2⟩
          case measure => simp [intOf]; omega
    · have HF := hid (HE0.out (by omega))
      have y4r := hst.2.2.heap y4 (by omega)
      have d0 := heap_cell y4r 0
      have d1 := heap_cell y4r 1
      have e0 := heap_cell hst.1 0
      have e1 := heap_cell hst.1 1
      simp only [List.getElem?_toArray, List.getElem?_cons_succ, List.getElem?_cons_zero] at d0 d1 e0 e1
      have f0 := heap_frozen y4r 0
      have f1 := heap_frozen y4r 1
      have s1r := Sl.mods s1 hst.2.2 (fun h0 j hj e => by subst e; exact absurd rfl (Sl.apart (s1.nw (Nw.refl _)) y5 strs_not h0 _ hj))
      have hev := hst.2.1
      have hz49 : w.heap.size < wL.heap.size := by omega
      have hsplit : k = ns.length ∨ (k < ns.length ∧ k = 60) := by omega
      clear HS0 HE0
      rcases hsplit with rfl | ⟨hkl, rfl⟩
      · have hdk : decide (ns.length < ns.length) = false := decide_eq_false (by omega)
        clear hlt
        go_wp2
        ((try simp only [Exit.inBlock, Exit.then]); refine bodyPost_ret (results_cell_row rfl _ _ _ _ _ _ _ rfl (heap_set (heap_set y4r 0 _) 1 _) Try.underlying34 rfl (by kernel_rfl)) rfl ?_)
        rw [HF.out]
        refine ⟨_, rfl, ⟨_, _, rfl, ?_, ?_⟩, ?_⟩
        · exact Sl.set2 (a := .slice (some ⟨w.heap.size + 1, 0, none⟩) 3 3) (b := .slice none 0 0) (Sl.set2 s1r y4r strs_not) (heap_set y4r 0 _) strs_not
        · exact (EvOwn.set (a := .slice (some ⟨w.heap.size + 1, 0, none⟩) 3 3) (b := .slice none 0 0) (EvOwn.set hev hz49 y4r (fun _ => nofun) (fun _ => nofun)) hz49 (heap_set y4r 0 _) (fun _ => nofun) (fun _ => nofun)).evs
        · exact (hnr.setCell (p := ⟨w.heap.size, 0, none⟩) (Nat.le_refl _) _).setCell (p := ⟨w.heap.size, 1, none⟩) (Nat.le_refl _) _
      · have hdk : decide (60 < ns.length) = true := decide_eq_true hkl
        have hdk2 : decide ((60 : Int) < ns.length) = true := decide_eq_true (by omega)
        obtain ⟨b1, o1, rfl, hcell⟩ := u16_cell (HC.out.nw hnr) 60 hkl
        clear hlt
        go_wp2
        ((try simp only [Exit.inBlock, Exit.then]); refine bodyPost_ret (results_cell_row rfl _ _ _ _ _ _ _ rfl (heap_set (heap_set y4r 0 _) 1 _) Try.underlying34 rfl (by kernel_rfl)) rfl ?_)
        rw [HF.out]
        refine ⟨_, rfl, ⟨_, _, rfl, ?_, ?_⟩, ?_⟩
        · exact Sl.set2 (a := .slice (some ⟨w.heap.size + 1, 0, none⟩) 3 3) (b := .slice none 0 0) (Sl.set2 s1r y4r strs_not) (heap_set y4r 0 _) strs_not
        · exact (EvOwn.set (a := .slice (some ⟨w.heap.size + 1, 0, none⟩) 3 3) (b := .slice none 0 0) (EvOwn.set hev hz49 y4r (fun _ => nofun) (fun _ => nofun)) hz49 (heap_set y4r 0 _) (fun _ => nofun) (fun _ => nofun)).evs
        · exact (hnr.setCell (p := ⟨w.heap.size, 0, none⟩) (Nat.le_refl _) _).setCell (p := ⟨w.heap.size, 1, none⟩) (Nat.le_refl _) _
end Tr
end Go.Proofs.Ytdihoedehmfgfaa
