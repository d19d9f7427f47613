/- An event that comes in; RecordGets and RecordPuts walked. No condition but lengths. -/
import Derived.Test.YtfbokhodcgpppaaRecE
import Derived.Test.YtfbokhodcgpppaaSeqEnd
import Derived.Lib.SmallJoins
namespace Go.Proofs.Ytfbokhodcgpppaa
open Go.ChangeShapes Go.WideShapes Go.ChangeAt Go.RowKit
section
variable {H : Type} {enc : TypeId × Value → H} {P : Program}
theorem open_sl_at {t e : TypeId} {k : IntKind} {W : World} {n : Nat} {v : Value} {y : DataW H × List MemPlace} (ht : P.underlying t = some (.slice e)) (he : P.underlying e = some (.int k)) (hc : P.cellsOf e = 1)
    (hf : DataW.trod enc P W 0 (fun _ => true) true n t [v] = some y) :
    ∃ zs : List Int, Sl W v (zs.map (Value.int k)) ∧ (∀ z ∈ zs, (Lit.int k z).wf = true) ∧ (∃ sp, y.1 = .slice (lits k zs) sp ∨ y.1 = .nil ∧ zs = []) := by
  obtain ⟨d, p⟩ := y
  rcases open_ints ht he hc hf with ⟨hcs, hx⟩ | ⟨a, len', cap', zs, hcs, _, hl, hm, hz, hx, hcell, hwz⟩
  · simp at hcs
    subst hcs
    simp only [Prod.mk.injEq] at hx
    exact ⟨[], Sl.nil W, (fun z h => by cases h), [], Or.inr ⟨hx.1, rfl⟩⟩
  · simp at hcs
    subst hcs
    simp only [Prod.mk.injEq] at hx
    simp only [if_true] at hz
    have hlen : (zs.take len').length = len' := by simp; omega
    refine ⟨zs.take len', ⟨some a, cap', by simp; omega, by simp; omega, hm, (fun h => by cases h), Cells.of_add fun i hi => ?_⟩, fun z h => hwz z (List.mem_of_mem_take h), lits k (zs.drop len'), Or.inl hx.1⟩
    simp at hi
    rw [hcell i (by omega)]
    simp [List.getElem?_eq_getElem (show i < zs.length by omega)]
/-- An event. -/
theorem open_event {t e : TypeId} {f0 f1 : Field} {W : World} {base : Nat} {v : Value} {d : DataW H} {p : List MemPlace} (ht : P.underlying t = some (.struct #[f0, f1])) (hone : Deep.oneCellFields P #[f0, f1] = true) (hC : P.cellsOf t = 2)
    (h0 : P.underlying f0.type = some (.int .u64)) (h1 : P.underlying f1.type = some (.slice e)) (he : P.underlying e = some (.int .i64)) (hc : P.cellsOf e = 1)
    (hval : Value.okWide P W .any base t v) (hj : DataW.Trod enc P W 0 (fun _ => true) true t v d p) :
    ∃ (n : Int) (b : Value) (l : List Int), v = .agg #[.int .u64 n, b] ∧ (0 ≤ n ∧ n < 18446744073709551616) ∧ Sl W b (i64s l) ∧ (∀ z ∈ l, -9223372036854775808 ≤ z ∧ z ≤ 9223372036854775807) ∧ l.length ≤ Rows.uptoBulk d := by
  obtain ⟨v0, v1, y0, y1, m, rfl, rfl, rfl, h2, h3⟩ := Joins.open_agg2 ht hone hC hval hj
  obtain ⟨n, e0, _, hw⟩ := DataW.trod_int h0 h2
  obtain rfl : v0 = .int .u64 n := by simpa using e0
  have hb := bounds_u64 hw
  obtain ⟨zs, k1, k2, sp, k3⟩ := open_sl_at h1 he hc h3
  refine ⟨n, v1, zs, rfl, ⟨hb.1, by omega⟩, k1, fun z hz => bounds_i64 (k2 z hz), ?_⟩
  have := bulk_ints k3
  simp only [Rows.uptoBulk, Rows.uptoBulkAll]
  omega
end
theorem wd_of (n : Int) (h : 0 ≤ n ∧ n ≤ 18446744073709551615) : ∃ x : BitVec 64, n = (x.toNat : Int) := ⟨BitVec.ofNat 64 n.toNat, by rw [BitVec.toNat_ofNat]; omega⟩
namespace Rec
open Go.Proofs.Ytfbokhodcgpppaa.Sum (Hands8)
theorem gets_walk (v : Value) (b : List UInt8) (p : Int) (w : World) (hb : Bytes w v b) (hlen : b.length ≤ 1000000000) (hp1 : -9223372036854775808 ≤ p) (hp2 : p ≤ 9223372036854775807) :
    Calls Try.prog 10 #[v, .int .i64 p] w fun e w' => e = .returned (.bool true) ∧ Nw w w' := by
  go_enter Try.func10, Try.ntmps10
  go_wp2_with (first
    | (go_at_call 25; refine (got_c _ b _ _ (hb.nw (by repeat (first | assumption | exact Nw.refl _ | refine Nw.alloc ?_ _ | refine Nw.drew ?_ | refine Nw.drewN2 ?_ _ | (refine Nw.trans ?_ (by assumption))))) hlen hp1 hp2).mono ?_; rintro e w1 ⟨rfl, hn1⟩)
    | (go_at_call 21; refine (awake_c _).mono ?_; rintro e w2 ⟨rfl, hn2⟩))
  go_ret
  exact ⟨rfl, (by repeat (first | assumption | exact Nw.refl _ | refine Nw.alloc ?_ _ | refine Nw.drew ?_ | refine Nw.drewN2 ?_ _ | (refine Nw.trans ?_ (by assumption))))⟩
set_option maxRecDepth 20000 in
set_option maxHeartbeats 3200000 in
theorem puts_walk (v u : Value) (b : List UInt8) (t : Int) (l : List Int) (s : Int) (x : Words.Wd) (w : World) (hb : Bytes w v b) (hu : Sl w u (i64s l)) (hlen : b.length ≤ 1000000000) (h0 : 0 ≤ t) (h1 : t < 18446744073709551616) (k0 : 0 ≤ s) (k1 : s < 18446744073709551616) :
    Calls Try.prog 5 #[v, .agg #[.int .u64 t, u], .int .u64 s, .int .u64 (x.toNat : Int)] w fun e w' => e = .returned (.bool true) ∧ Nw w w' := by
  obtain ⟨q, cap, rfl, hcap, hmx, _, hc⟩ := hb.open
  obtain ⟨q2, cap2, rfl, hcap2, hmx2, _, hc2⟩ := i64s_open hu
  go_enter Try.func5, Try.ntmps5
  go_wp2_with (first
    | (go_at_call 18; refine (event_c _ x _ k0 k1).mono ?_; rintro e w1 ⟨v1, rfl, hs1, hn1⟩; obtain ⟨p1, c1, rfl, _⟩ := i64s_open hs1)
    | fail)
  have c0 : (w1.alloc (.cells #[.int .u64 s, .slice p1 (ids x).length c1] 38)).cell? ⟨w1.heap.size, 0, none⟩ = some (.int .u64 s) := by simp
  have c1' : (w1.alloc (.cells #[.int .u64 s, .slice p1 (ids x).length c1] 38)).cell? ⟨w1.heap.size, 1, none⟩ = some (.slice p1 (ids x).length c1) := by simp
  have d0 : (w1.alloc (.cells #[.int .u64 s, .slice p1 (ids x).length c1] 38)).cell? ⟨w.heap.size, 0, none⟩ = some (.int .u64 t) := (show Nw (w.alloc (.cells #[.int .u64 t, .slice q2 l.length cap2] 38)) _ from (by repeat (first | assumption | exact Nw.refl _ | refine Nw.alloc ?_ _ | refine Nw.drew ?_ | refine Nw.drewN2 ?_ _ | (refine Nw.trans ?_ (by assumption))))).cell (by simp)
  have d1 : (w1.alloc (.cells #[.int .u64 s, .slice p1 (ids x).length c1] 38)).cell? ⟨w.heap.size, 1, none⟩ = some (.slice q2 l.length cap2) := (show Nw (w.alloc (.cells #[.int .u64 t, .slice q2 l.length cap2] 38)) _ from (by repeat (first | assumption | exact Nw.refl _ | refine Nw.alloc ?_ _ | refine Nw.drew ?_ | refine Nw.drewN2 ?_ _ | (refine Nw.trans ?_ (by assumption))))).cell (by simp)
  have hw9 : Nw w (w1.alloc (.cells #[.int .u64 s, .slice p1 (ids x).length c1] 38)) := (by repeat (first | assumption | exact Nw.refl _ | refine Nw.alloc ?_ _ | refine Nw.drew ?_ | refine Nw.drewN2 ?_ _ | (refine Nw.trans ?_ (by assumption))))
  have hs9 : Sl (w1.alloc (.cells #[.int .u64 s, .slice p1 (ids x).length c1] 38)) (.slice p1 (ids x).length c1) (i64s (ids x)) := hs1.nw ((Nw.refl w1).alloc _)
  have hil := ids_len x
  clear hs1
  generalize w1.alloc (.cells #[.int .u64 s, .slice p1 (ids x).length c1] 38) = w9 at *
  have e0 := World.block_lt_of_cell? w9 _ c0
  have e1 := World.block_lt_of_cell? w9 _ d0
  have hb9 := hb.nw hw9
  have hu9 := hu.nw hw9
  generalize ids x = m at *
  refine wp_region_stairs (by kernel_rfl) (by kernel_rfl) (by kernel_rfl) ?_
  iterate 2
    refine Stairs.is ?_ ?_ ?_
    rotate_left 1
    · intro x wR hR hd K hK
      simp only [Act.put, List.setIfInBounds_toArray, List.set_cons_zero, List.set_cons_succ, Nat.reduceAdd, List.length_nil, List.length_cons, List.nil_append, List.cons_append, Say.ok] at hK ⊢
      clear hd
      change Hid _ at hK
      obtain ⟨hcR, hfR, hzR⟩ := nwc hR
      first | (refine wanted_yes ?_ ?_; rfl) | (refine wanted_no ?_ ?_; rfl)
      go_wp2_with (first 
        | (go_at_call 19; refine (put_c _ _ b _ _ _ (hb9.nw (by repeat (first | assumption | exact Nw.refl _ | refine Nw.alloc ?_ _ | refine Nw.drew ?_ | refine Nw.drewN2 ?_ _ | (refine Nw.trans ?_ (by assumption))))) (Sl.nw (by assumption) (by repeat (first | assumption | exact Nw.refl _ | refine Nw.alloc ?_ _ | refine Nw.drew ?_ | refine Nw.drewN2 ?_ _ | (refine Nw.trans ?_ (by assumption))))) (by assumption) (by assumption) hlen).mono ?_; rintro e w2 ⟨v2, rfl, hown2, hn2⟩)
        | (go_at_call 20; refine (rput_c _ _ b _ _ _ (hb9.nw (by repeat (first | assumption | exact Nw.refl _ | refine Nw.alloc ?_ _ | refine Nw.drew ?_ | refine Nw.drewN2 ?_ _ | (refine Nw.trans ?_ (by assumption))))) (Sl.nw (by assumption) (by repeat (first | assumption | exact Nw.refl _ | refine Nw.alloc ?_ _ | refine Nw.drew ?_ | refine Nw.drewN2 ?_ _ | (refine Nw.trans ?_ (by assumption))))) (by assumption) (by assumption) hlen).mono ?_; rintro e w2 ⟨v2, rfl, hown2, hn2⟩)
        | (go_at_call 21; refine (awake_c _).mono ?_; rintro e w5 ⟨rfl, hn5⟩))
      all_goals (refine hK.out _ _ ?_ ?_ <;> first | (solve | (repeat (first | assumption | exact Nw.refl _ | refine Nw.alloc ?_ _ | refine Nw.drew ?_ | refine Nw.drewN2 ?_ _ | (refine Nw.trans ?_ (by assumption))))) | exact rfl | exact Own.sl (by assumption))
    try simp only [Act.put, List.setIfInBounds_toArray, List.set_cons_zero, List.set_cons_succ, Nat.reduceAdd, List.length_nil, List.length_cons, List.nil_append, List.cons_append]
  iterate 1
    refine Stairs.that (Reads8 (putE b t l)) (by simp) ?_ ?_
    · intro x wR hR hd K hK
      simp only [Act.put, List.setIfInBounds_toArray, List.set_cons_zero, List.set_cons_succ, Nat.reduceAdd, List.length_nil, List.length_cons, List.nil_append, List.cons_append, Say.ok] at hK ⊢
      clear hd
      change Hid _ at hK
      obtain ⟨hcR, hfR, hzR⟩ := nwc hR
      first | (refine wanted_yes ?_ ?_; rfl) | (refine wanted_no ?_ ?_; rfl)
      go_wp2_with (first 
        | (go_at_call 19; refine (put_c _ _ b _ _ _ (hb9.nw (by repeat (first | assumption | exact Nw.refl _ | refine Nw.alloc ?_ _ | refine Nw.drew ?_ | refine Nw.drewN2 ?_ _ | (refine Nw.trans ?_ (by assumption))))) (Sl.nw (by assumption) (by repeat (first | assumption | exact Nw.refl _ | refine Nw.alloc ?_ _ | refine Nw.drew ?_ | refine Nw.drewN2 ?_ _ | (refine Nw.trans ?_ (by assumption))))) (by assumption) (by assumption) hlen).mono ?_; rintro e w2 ⟨v2, rfl, hown2, hn2⟩)
        | (go_at_call 20; refine (rput_c _ _ b _ _ _ (hb9.nw (by repeat (first | assumption | exact Nw.refl _ | refine Nw.alloc ?_ _ | refine Nw.drew ?_ | refine Nw.drewN2 ?_ _ | (refine Nw.trans ?_ (by assumption))))) (Sl.nw (by assumption) (by repeat (first | assumption | exact Nw.refl _ | refine Nw.alloc ?_ _ | refine Nw.drew ?_ | refine Nw.drewN2 ?_ _ | (refine Nw.trans ?_ (by assumption))))) (by assumption) (by assumption) hlen).mono ?_; rintro e w2 ⟨v2, rfl, hown2, hn2⟩)
        | (go_at_call 21; refine (awake_c _).mono ?_; rintro e w5 ⟨rfl, hn5⟩))
      all_goals (refine hK.out _ _ ?_ ?_ <;> first | (solve | (repeat (first | assumption | exact Nw.refl _ | refine Nw.alloc ?_ _ | refine Nw.drew ?_ | refine Nw.drewN2 ?_ _ | (refine Nw.trans ?_ (by assumption))))) | exact rfl | exact Own.sl (by assumption))
    try simp only [Act.put, List.setIfInBounds_toArray, List.set_cons_zero, List.set_cons_succ, Nat.reduceAdd, List.length_nil, List.length_cons, List.nil_append, List.cons_append]
  iterate 3
    refine Stairs.is ?_ ?_ ?_
    rotate_left 1
    · intro x wR hR hd K hK
      simp only [Act.put, List.setIfInBounds_toArray, List.set_cons_zero, List.set_cons_succ, Nat.reduceAdd, List.length_nil, List.length_cons, List.nil_append, List.cons_append, Say.ok] at hK ⊢
      try simp [Region.binds, sayAt, List.getD_cons_zero, List.getD_cons_succ, Say.ok, Vl] at hd
      try (first | have hs := str_ok hd | have hs := str_ok hd.2 | have hs := str_ok hd.1 | (obtain ⟨hd1, hd2, hd3⟩ := hd; first | have hs := str_ok hd1 | have hs := str_ok hd2 | have hs := str_ok hd3))
      change Hid _ at hK
      obtain ⟨hcR, hfR, hzR⟩ := nwc hR
      first | (refine wanted_yes ?_ ?_; rfl) | (refine wanted_no ?_ ?_; rfl)
      go_wp2_with (first 
        | (go_at_call 19; refine (put_c _ _ b _ _ _ (hb9.nw (by repeat (first | assumption | exact Nw.refl _ | refine Nw.alloc ?_ _ | refine Nw.drew ?_ | refine Nw.drewN2 ?_ _ | (refine Nw.trans ?_ (by assumption))))) (Sl.nw (by assumption) (by repeat (first | assumption | exact Nw.refl _ | refine Nw.alloc ?_ _ | refine Nw.drew ?_ | refine Nw.drewN2 ?_ _ | (refine Nw.trans ?_ (by assumption))))) (by assumption) (by assumption) hlen).mono ?_; rintro e w2 ⟨v2, rfl, hown2, hn2⟩)
        | (go_at_call 20; refine (rput_c _ _ b _ _ _ (hb9.nw (by repeat (first | assumption | exact Nw.refl _ | refine Nw.alloc ?_ _ | refine Nw.drew ?_ | refine Nw.drewN2 ?_ _ | (refine Nw.trans ?_ (by assumption))))) (Sl.nw (by assumption) (by repeat (first | assumption | exact Nw.refl _ | refine Nw.alloc ?_ _ | refine Nw.drew ?_ | refine Nw.drewN2 ?_ _ | (refine Nw.trans ?_ (by assumption))))) (by assumption) (by assumption) hlen).mono ?_; rintro e w2 ⟨v2, rfl, hown2, hn2⟩)
        | (go_at_call 21; refine (awake_c _).mono ?_; rintro e w5 ⟨rfl, hn5⟩))
      all_goals (refine hK.out _ _ ?_ ?_ <;> first | (solve | (repeat (first | assumption | exact Nw.refl _ | refine Nw.alloc ?_ _ | refine Nw.drew ?_ | refine Nw.drewN2 ?_ _ | (refine Nw.trans ?_ (by assumption))))) | exact rfl | exact Own.sl (by assumption))
    try simp only [Act.put, List.setIfInBounds_toArray, List.set_cons_zero, List.set_cons_succ, Nat.reduceAdd, List.length_nil, List.length_cons, List.nil_append, List.cons_append]
  iterate 1
    refine Stairs.that (Reads8 (putE b t l)) (by simp) ?_ ?_
    · intro x wR hR hd K hK
      simp only [Act.put, List.setIfInBounds_toArray, List.set_cons_zero, List.set_cons_succ, Nat.reduceAdd, List.length_nil, List.length_cons, List.nil_append, List.cons_append, Say.ok] at hK ⊢
      try simp [Region.binds, sayAt, List.getD_cons_zero, List.getD_cons_succ, Say.ok, Vl] at hd
      try (first | have hs := str_ok hd | have hs := str_ok hd.2 | have hs := str_ok hd.1 | (obtain ⟨hd1, hd2, hd3⟩ := hd; first | have hs := str_ok hd1 | have hs := str_ok hd2 | have hs := str_ok hd3))
      change Hid _ at hK
      obtain ⟨hcR, hfR, hzR⟩ := nwc hR
      first | (refine wanted_yes ?_ ?_; rfl) | (refine wanted_no ?_ ?_; rfl)
      go_wp2_with (first 
        | (go_at_call 19; refine (put_c _ _ b _ _ _ (hb9.nw (by repeat (first | assumption | exact Nw.refl _ | refine Nw.alloc ?_ _ | refine Nw.drew ?_ | refine Nw.drewN2 ?_ _ | (refine Nw.trans ?_ (by assumption))))) (Sl.nw (by assumption) (by repeat (first | assumption | exact Nw.refl _ | refine Nw.alloc ?_ _ | refine Nw.drew ?_ | refine Nw.drewN2 ?_ _ | (refine Nw.trans ?_ (by assumption))))) (by assumption) (by assumption) hlen).mono ?_; rintro e w2 ⟨v2, rfl, hown2, hn2⟩)
        | (go_at_call 20; refine (rput_c _ _ b _ _ _ (hb9.nw (by repeat (first | assumption | exact Nw.refl _ | refine Nw.alloc ?_ _ | refine Nw.drew ?_ | refine Nw.drewN2 ?_ _ | (refine Nw.trans ?_ (by assumption))))) (Sl.nw (by assumption) (by repeat (first | assumption | exact Nw.refl _ | refine Nw.alloc ?_ _ | refine Nw.drew ?_ | refine Nw.drewN2 ?_ _ | (refine Nw.trans ?_ (by assumption))))) (by assumption) (by assumption) hlen).mono ?_; rintro e w2 ⟨v2, rfl, hown2, hn2⟩)
        | (go_at_call 21; refine (awake_c _).mono ?_; rintro e w5 ⟨rfl, hn5⟩))
      all_goals (refine hK.out _ _ ?_ ?_ <;> first | (solve | (repeat (first | assumption | exact Nw.refl _ | refine Nw.alloc ?_ _ | refine Nw.drew ?_ | refine Nw.drewN2 ?_ _ | (refine Nw.trans ?_ (by assumption))))) | exact rfl | exact Own.sl (by assumption))
    try simp only [Act.put, List.setIfInBounds_toArray, List.set_cons_zero, List.set_cons_succ, Nat.reduceAdd, List.length_nil, List.length_cons, List.nil_append, List.cons_append]
  iterate 5
    refine Stairs.is ?_ ?_ ?_
    rotate_left 1
    · intro x wR hR hd K hK
      simp only [Act.put, List.setIfInBounds_toArray, List.set_cons_zero, List.set_cons_succ, Nat.reduceAdd, List.length_nil, List.length_cons, List.nil_append, List.cons_append, Say.ok] at hK ⊢
      try simp [Region.binds, sayAt, List.getD_cons_zero, List.getD_cons_succ, Say.ok, Vl] at hd
      try (first | have hs := str_ok hd | have hs := str_ok hd.2 | have hs := str_ok hd.1 | (obtain ⟨hd1, hd2, hd3⟩ := hd; first | have hs := str_ok hd1 | have hs := str_ok hd2 | have hs := str_ok hd3))
      change Hid _ at hK
      obtain ⟨hcR, hfR, hzR⟩ := nwc hR
      first | (refine wanted_yes ?_ ?_; rfl) | (refine wanted_no ?_ ?_; rfl)
      go_wp2_with (first 
        | (go_at_call 19; refine (put_c _ _ b _ _ _ (hb9.nw (by repeat (first | assumption | exact Nw.refl _ | refine Nw.alloc ?_ _ | refine Nw.drew ?_ | refine Nw.drewN2 ?_ _ | (refine Nw.trans ?_ (by assumption))))) (Sl.nw (by assumption) (by repeat (first | assumption | exact Nw.refl _ | refine Nw.alloc ?_ _ | refine Nw.drew ?_ | refine Nw.drewN2 ?_ _ | (refine Nw.trans ?_ (by assumption))))) (by assumption) (by assumption) hlen).mono ?_; rintro e w2 ⟨v2, rfl, hown2, hn2⟩)
        | (go_at_call 20; refine (rput_c _ _ b _ _ _ (hb9.nw (by repeat (first | assumption | exact Nw.refl _ | refine Nw.alloc ?_ _ | refine Nw.drew ?_ | refine Nw.drewN2 ?_ _ | (refine Nw.trans ?_ (by assumption))))) (Sl.nw (by assumption) (by repeat (first | assumption | exact Nw.refl _ | refine Nw.alloc ?_ _ | refine Nw.drew ?_ | refine Nw.drewN2 ?_ _ | (refine Nw.trans ?_ (by assumption))))) (by assumption) (by assumption) hlen).mono ?_; rintro e w2 ⟨v2, rfl, hown2, hn2⟩)
        | (go_at_call 21; refine (awake_c _).mono ?_; rintro e w5 ⟨rfl, hn5⟩))
      all_goals (refine hK.out _ _ ?_ ?_ <;> first | (solve | (repeat (first | assumption | exact Nw.refl _ | refine Nw.alloc ?_ _ | refine Nw.drew ?_ | refine Nw.drewN2 ?_ _ | (refine Nw.trans ?_ (by assumption))))) | exact rfl | exact Own.sl (by assumption))
    try simp only [Act.put, List.setIfInBounds_toArray, List.set_cons_zero, List.set_cons_succ, Nat.reduceAdd, List.length_nil, List.length_cons, List.nil_append, List.cons_append]
  iterate 1
    refine Stairs.that (Reads8 (putE b s m)) (by simp) ?_ ?_
    · intro x wR hR hd K hK
      simp only [Act.put, List.setIfInBounds_toArray, List.set_cons_zero, List.set_cons_succ, Nat.reduceAdd, List.length_nil, List.length_cons, List.nil_append, List.cons_append, Say.ok] at hK ⊢
      try simp [Region.binds, sayAt, List.getD_cons_zero, List.getD_cons_succ, Say.ok, Vl] at hd
      try (first | have hs := str_ok hd | have hs := str_ok hd.2 | have hs := str_ok hd.1 | (obtain ⟨hd1, hd2, hd3⟩ := hd; first | have hs := str_ok hd1 | have hs := str_ok hd2 | have hs := str_ok hd3))
      change Hid _ at hK
      obtain ⟨hcR, hfR, hzR⟩ := nwc hR
      first | (refine wanted_yes ?_ ?_; rfl) | (refine wanted_no ?_ ?_; rfl)
      go_wp2_with (first 
        | (go_at_call 19; refine (put_c _ _ b _ _ _ (hb9.nw (by repeat (first | assumption | exact Nw.refl _ | refine Nw.alloc ?_ _ | refine Nw.drew ?_ | refine Nw.drewN2 ?_ _ | (refine Nw.trans ?_ (by assumption))))) (Sl.nw (by assumption) (by repeat (first | assumption | exact Nw.refl _ | refine Nw.alloc ?_ _ | refine Nw.drew ?_ | refine Nw.drewN2 ?_ _ | (refine Nw.trans ?_ (by assumption))))) (by assumption) (by assumption) hlen).mono ?_; rintro e w2 ⟨v2, rfl, hown2, hn2⟩)
        | (go_at_call 20; refine (rput_c _ _ b _ _ _ (hb9.nw (by repeat (first | assumption | exact Nw.refl _ | refine Nw.alloc ?_ _ | refine Nw.drew ?_ | refine Nw.drewN2 ?_ _ | (refine Nw.trans ?_ (by assumption))))) (Sl.nw (by assumption) (by repeat (first | assumption | exact Nw.refl _ | refine Nw.alloc ?_ _ | refine Nw.drew ?_ | refine Nw.drewN2 ?_ _ | (refine Nw.trans ?_ (by assumption))))) (by assumption) (by assumption) hlen).mono ?_; rintro e w2 ⟨v2, rfl, hown2, hn2⟩)
        | (go_at_call 21; refine (awake_c _).mono ?_; rintro e w5 ⟨rfl, hn5⟩))
      all_goals (refine hK.out _ _ ?_ ?_ <;> first | (solve | (repeat (first | assumption | exact Nw.refl _ | refine Nw.alloc ?_ _ | refine Nw.drew ?_ | refine Nw.drewN2 ?_ _ | (refine Nw.trans ?_ (by assumption))))) | exact rfl | exact Own.sl (by assumption))
    try simp only [Act.put, List.setIfInBounds_toArray, List.set_cons_zero, List.set_cons_succ, Nat.reduceAdd, List.length_nil, List.length_cons, List.nil_append, List.cons_append]
  iterate 3
    refine Stairs.is ?_ ?_ ?_
    rotate_left 1
    · intro x wR hR hd K hK
      simp only [Act.put, List.setIfInBounds_toArray, List.set_cons_zero, List.set_cons_succ, Nat.reduceAdd, List.length_nil, List.length_cons, List.nil_append, List.cons_append, Say.ok] at hK ⊢
      try simp [Region.binds, sayAt, List.getD_cons_zero, List.getD_cons_succ, Say.ok, Vl] at hd
      try (first | have hs := str_ok hd | have hs := str_ok hd.2 | have hs := str_ok hd.1 | (obtain ⟨hd1, hd2, hd3⟩ := hd; first | have hs := str_ok hd1 | have hs := str_ok hd2 | have hs := str_ok hd3))
      change Hid _ at hK
      obtain ⟨hcR, hfR, hzR⟩ := nwc hR
      first | (refine wanted_yes ?_ ?_; rfl) | (refine wanted_no ?_ ?_; rfl)
      go_wp2_with (first 
        | (go_at_call 19; refine (put_c _ _ b _ _ _ (hb9.nw (by repeat (first | assumption | exact Nw.refl _ | refine Nw.alloc ?_ _ | refine Nw.drew ?_ | refine Nw.drewN2 ?_ _ | (refine Nw.trans ?_ (by assumption))))) (Sl.nw (by assumption) (by repeat (first | assumption | exact Nw.refl _ | refine Nw.alloc ?_ _ | refine Nw.drew ?_ | refine Nw.drewN2 ?_ _ | (refine Nw.trans ?_ (by assumption))))) (by assumption) (by assumption) hlen).mono ?_; rintro e w2 ⟨v2, rfl, hown2, hn2⟩)
        | (go_at_call 20; refine (rput_c _ _ b _ _ _ (hb9.nw (by repeat (first | assumption | exact Nw.refl _ | refine Nw.alloc ?_ _ | refine Nw.drew ?_ | refine Nw.drewN2 ?_ _ | (refine Nw.trans ?_ (by assumption))))) (Sl.nw (by assumption) (by repeat (first | assumption | exact Nw.refl _ | refine Nw.alloc ?_ _ | refine Nw.drew ?_ | refine Nw.drewN2 ?_ _ | (refine Nw.trans ?_ (by assumption))))) (by assumption) (by assumption) hlen).mono ?_; rintro e w2 ⟨v2, rfl, hown2, hn2⟩)
        | (go_at_call 21; refine (awake_c _).mono ?_; rintro e w5 ⟨rfl, hn5⟩))
      all_goals (refine hK.out _ _ ?_ ?_ <;> first | (solve | (repeat (first | assumption | exact Nw.refl _ | refine Nw.alloc ?_ _ | refine Nw.drew ?_ | refine Nw.drewN2 ?_ _ | (refine Nw.trans ?_ (by assumption))))) | exact rfl | exact Own.sl (by assumption))
    try simp only [Act.put, List.setIfInBounds_toArray, List.set_cons_zero, List.set_cons_succ, Nat.reduceAdd, List.length_nil, List.length_cons, List.nil_append, List.cons_append]
  iterate 1
    refine Stairs.that (Reads8 (putE b s m)) (by simp) ?_ ?_
    · intro x wR hR hd K hK
      simp only [Act.put, List.setIfInBounds_toArray, List.set_cons_zero, List.set_cons_succ, Nat.reduceAdd, List.length_nil, List.length_cons, List.nil_append, List.cons_append, Say.ok] at hK ⊢
      try simp [Region.binds, sayAt, List.getD_cons_zero, List.getD_cons_succ, Say.ok, Vl] at hd
      try (first | have hs := str_ok hd | have hs := str_ok hd.2 | have hs := str_ok hd.1 | (obtain ⟨hd1, hd2, hd3⟩ := hd; first | have hs := str_ok hd1 | have hs := str_ok hd2 | have hs := str_ok hd3))
      change Hid _ at hK
      obtain ⟨hcR, hfR, hzR⟩ := nwc hR
      first | (refine wanted_yes ?_ ?_; rfl) | (refine wanted_no ?_ ?_; rfl)
      go_wp2_with (first 
        | (go_at_call 19; refine (put_c _ _ b _ _ _ (hb9.nw (by repeat (first | assumption | exact Nw.refl _ | refine Nw.alloc ?_ _ | refine Nw.drew ?_ | refine Nw.drewN2 ?_ _ | (refine Nw.trans ?_ (by assumption))))) (Sl.nw (by assumption) (by repeat (first | assumption | exact Nw.refl _ | refine Nw.alloc ?_ _ | refine Nw.drew ?_ | refine Nw.drewN2 ?_ _ | (refine Nw.trans ?_ (by assumption))))) (by assumption) (by assumption) hlen).mono ?_; rintro e w2 ⟨v2, rfl, hown2, hn2⟩)
        | (go_at_call 20; refine (rput_c _ _ b _ _ _ (hb9.nw (by repeat (first | assumption | exact Nw.refl _ | refine Nw.alloc ?_ _ | refine Nw.drew ?_ | refine Nw.drewN2 ?_ _ | (refine Nw.trans ?_ (by assumption))))) (Sl.nw (by assumption) (by repeat (first | assumption | exact Nw.refl _ | refine Nw.alloc ?_ _ | refine Nw.drew ?_ | refine Nw.drewN2 ?_ _ | (refine Nw.trans ?_ (by assumption))))) (by assumption) (by assumption) hlen).mono ?_; rintro e w2 ⟨v2, rfl, hown2, hn2⟩)
        | (go_at_call 21; refine (awake_c _).mono ?_; rintro e w5 ⟨rfl, hn5⟩))
      all_goals (refine hK.out _ _ ?_ ?_ <;> first | (solve | (repeat (first | assumption | exact Nw.refl _ | refine Nw.alloc ?_ _ | refine Nw.drew ?_ | refine Nw.drewN2 ?_ _ | (refine Nw.trans ?_ (by assumption))))) | exact rfl | exact Own.sl (by assumption))
    try simp only [Act.put, List.setIfInBounds_toArray, List.set_cons_zero, List.set_cons_succ, Nat.reduceAdd, List.length_nil, List.length_cons, List.nil_append, List.cons_append]
  iterate 7
    refine Stairs.is ?_ ?_ ?_
    rotate_left 1
    · intro x wR hR hd K hK
      simp only [Act.put, List.setIfInBounds_toArray, List.set_cons_zero, List.set_cons_succ, Nat.reduceAdd, List.length_nil, List.length_cons, List.nil_append, List.cons_append, Say.ok] at hK ⊢
      try simp [Region.binds, sayAt, List.getD_cons_zero, List.getD_cons_succ, Say.ok, Vl] at hd
      try (first | have hs := str_ok hd | have hs := str_ok hd.2 | have hs := str_ok hd.1 | (obtain ⟨hd1, hd2, hd3⟩ := hd; first | have hs := str_ok hd1 | have hs := str_ok hd2 | have hs := str_ok hd3))
      change Hid _ at hK
      obtain ⟨hcR, hfR, hzR⟩ := nwc hR
      first | (refine wanted_yes ?_ ?_; rfl) | (refine wanted_no ?_ ?_; rfl)
      go_wp2_with (first 
        | (go_at_call 19; refine (put_c _ _ b _ _ _ (hb9.nw (by repeat (first | assumption | exact Nw.refl _ | refine Nw.alloc ?_ _ | refine Nw.drew ?_ | refine Nw.drewN2 ?_ _ | (refine Nw.trans ?_ (by assumption))))) (Sl.nw (by assumption) (by repeat (first | assumption | exact Nw.refl _ | refine Nw.alloc ?_ _ | refine Nw.drew ?_ | refine Nw.drewN2 ?_ _ | (refine Nw.trans ?_ (by assumption))))) (by assumption) (by assumption) hlen).mono ?_; rintro e w2 ⟨v2, rfl, hown2, hn2⟩)
        | (go_at_call 20; refine (rput_c _ _ b _ _ _ (hb9.nw (by repeat (first | assumption | exact Nw.refl _ | refine Nw.alloc ?_ _ | refine Nw.drew ?_ | refine Nw.drewN2 ?_ _ | (refine Nw.trans ?_ (by assumption))))) (Sl.nw (by assumption) (by repeat (first | assumption | exact Nw.refl _ | refine Nw.alloc ?_ _ | refine Nw.drew ?_ | refine Nw.drewN2 ?_ _ | (refine Nw.trans ?_ (by assumption))))) (by assumption) (by assumption) hlen).mono ?_; rintro e w2 ⟨v2, rfl, hown2, hn2⟩)
        | (go_at_call 21; refine (awake_c _).mono ?_; rintro e w5 ⟨rfl, hn5⟩))
      all_goals (refine hK.out _ _ ?_ ?_ <;> first | (solve | (repeat (first | assumption | exact Nw.refl _ | refine Nw.alloc ?_ _ | refine Nw.drew ?_ | refine Nw.drewN2 ?_ _ | (refine Nw.trans ?_ (by assumption))))) | exact rfl | exact Own.sl (by assumption))
    try simp only [Act.put, List.setIfInBounds_toArray, List.set_cons_zero, List.set_cons_succ, Nat.reduceAdd, List.length_nil, List.length_cons, List.nil_append, List.cons_append]
  refine Stairs.nil ?_
  intro x wR hR hx
  have h2 := hx 2 (by decide)
  simp only [sayAt, List.getD_cons_zero, List.getD_cons_succ, Say.ok, Vl] at h2
  have h6 := hx 6 (by decide)
  simp only [sayAt, List.getD_cons_zero, List.getD_cons_succ, Say.ok, Vl] at h6
  have h12 := hx 12 (by decide)
  simp only [sayAt, List.getD_cons_zero, List.getD_cons_succ, Say.ok, Vl] at h12
  have h16 := hx 16 (by decide)
  simp only [sayAt, List.getD_cons_zero, List.getD_cons_succ, Say.ok, Vl] at h16
  clear hx
  obtain ⟨hcR, hfR, hzR⟩ := nwc hR
  go_wp2
  go_ret
  exact ⟨rfl, hw9.trans hR⟩
end Rec
end Go.Proofs.Ytfbokhodcgpppaa
