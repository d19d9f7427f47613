/- An event that comes in; TraceAdds walked. No condition but lengths. -/
import Derived.Test.YtjelbfodkacipaaTrU
import Derived.Test.YtjelbfodkacipaaTrQ
namespace Go.Proofs.Ytjelbfodkacipaa
open Go.ChangeShapes Go.WideShapes Go.ChangeAt Go.RowKit
open Go.ChangeMaps (open_string shut_string)
namespace Tr
open Go.Proofs.Ytjelbfodkacipaa.Lx (isIn nameB strs_open strs_cell contains_c)
open Go.Proofs.Ytjelbfodkacipaa.Rec (rises i64s_open i64_cell)
section
variable {H : Type} {enc : TypeId × Value → H} {P : Program}
/-- An event. -/
theorem open_event {t e : TypeId} {f0 f1 : Field} {W : World} {base : Nat} {v : Value} {d : DataW H} {p : List MemPlace} (ht : P.underlying t = some (.struct #[f0, f1])) (hone : Deep.oneCellFields P #[f0, f1] = true) (hC : P.cellsOf t = 2)
    (h0 : P.underlying f0.type = some (.int .u64)) (h1 : P.underlying f1.type = some (.slice e)) (he : P.underlying e = some (.int .i64)) (hc : P.cellsOf e = 1)
    (hval : Value.okWide P W .any base t v) (hj : DataW.Trod enc P W 0 (fun _ => true) true t v d p) :
    ∃ (n : Int) (b : Value) (l : List Int), v = .agg #[.int .u64 n, b] ∧ (0 ≤ n ∧ n < 18446744073709551616) ∧ Sl W b (i64s l) ∧ (∀ z ∈ l, -9223372036854775808 ≤ z ∧ z ≤ 9223372036854775807) ∧ l.length ≤ Rows.uptoBulk d := by
  obtain ⟨v0, v1, y0, y1, m, rfl, rfl, rfl, h2, h3⟩ := Joins.open_agg2 ht hone hC hval hj
  obtain ⟨n, e0, _, hw⟩ := DataW.trod_int h0 h2
  obtain rfl : v0 = .int .u64 n := by simpa using e0
  have hb := bounds_u64 hw
  obtain ⟨zs, k1, k2, k3⟩ := open_ints_at h1 he hc h3
  refine ⟨n, v1, zs, rfl, ⟨hb.1, by omega⟩, k1, k2, ?_⟩
  simp only [Rows.uptoBulk, Rows.uptoBulkAll]
  omega
end
/-! ### TraceAdds -/
theorem HandsTE.open {w w' : World} {r : T × Int} {e : Ending} (h : HandsTE w r e w') : ∃ q n c p m d, e = .returned (.tuple #[.agg #[.slice q n c, .slice p m d], .int .i64 r.2]) ∧ TrR w' (.agg #[.slice q n c, .slice p m d]) r.1 ∧ Nw w w' := by
  obtain ⟨v, rfl, ⟨v1, v2, rfl, h1, h2⟩, h3⟩ := h
  obtain ⟨q, c, rfl, _⟩ := strs_open h1
  obtain ⟨p, d, rfl⟩ := evs_shape h2
  exact ⟨q, _, c, p, _, d, rfl, ⟨_, _, rfl, h1, h2⟩, h3⟩
set_option maxRecDepth 20000 in
set_option maxHeartbeats 3200000 in
theorem adds_walk (vn ve : Value) (t : T) (start : Int) (h0 : 0 ≤ start) (h64 : start < 18446744073709551616) (v1 : Value) (ns : List Nat) (tk : Int) (vi : Value) (l : List Int) (w : World) (hvn : Sl w vn (Lx.strs t.names)) (hve : Evs w ve t.evs) (ha : Small t) (hv1 : Sl w v1 (u16s ns)) (hns : ∀ n ∈ ns, n ≤ 65535) (hvi : Sl w vi (i64s l)) (hll : l.length ≤ 1000000000) :
    Calls Try.prog 6 #[.agg #[vn, ve], .int .u64 start, v1, .agg #[.int .u64 tk, vi]] w fun e w' => e = .returned (.bool true) ∧ Nw w w' := by
  have HG := hid (fun w' (h : Nw w w') => great_c vn ve t w' (hvn.nw h) (hve.nw h))
  have HM1 := hid (fun w' (h : Nw w w') => make_c3 start h0 h64 v1 ns w' (hv1.nw h) hns)
  have HA0 := hid (fun w' (h : Nw w w') => add_c vn ve vi t tk l w' (hvn.nw h) (hve.nw h) (hvi.nw h) ha hll)
  have HB0 := hid (fun w' (h : Nw w w') => radd_c vn ve vi t tk l w' (hvn.nw h) (hve.nw h) (hvi.nw h) ha hll)
  have HAA := hid (fun (x y : Value) w' (h : Nw w w') (h1 : Sl w' x (Lx.strs pqr)) (h2 : Evs w' y (makeP start ns).evs) => add_c x y vi (makeP start ns) tk l w' h1 h2 (hvi.nw h) (make_small start h0 ns) hll)
  have HBB := hid (fun (x y : Value) w' (h : Nw w w') (h1 : Sl w' x (Lx.strs pqr)) (h2 : Evs w' y (makeP start ns).evs) => radd_c x y vi (makeP start ns) tk l w' h1 h2 (hvi.nw h) (make_small start h0 ns) hll)
  have HNA := hid (show (makeP start ns).names = pqr from rfl)
  have hga := great_or t
  obtain ⟨p1, k1, rfl, _, _, _, _⟩ := strs_open hvn
  obtain ⟨p3, k3, rfl, _, _, _, _⟩ := hve
  obtain ⟨p5, k5, rfl, _, _, _, _⟩ := hv1.open (u16s_length ns)
  obtain ⟨p6, k6, rfl, _, _, _, _⟩ := i64s_open hvi
  clear ha hvn hv1 hns hvi
  generalize addP t tk l = r0 at *
  generalize addP (makeP start ns) tk l = r1 at *
  generalize makeP start ns = a at *
  generalize greatP t = ga at *
  generalize t.names.length = na at *
  generalize t.evs.length = ea at *
  generalize ns.length = nl at *
  generalize l.length = ll at *
  go_enter Try.func6, Try.ntmps6
  go_upto_region 1 with fail
  obtain ⟨x0, x1, y4, hw0, hz4⟩ := boxes w (.slice p1 na k1) (.slice p3 ea k3) (.int .u64 tk) (.slice p6 ll k6) 26 39
  have y0 := heap_cell y4 0
  have y1 := heap_cell y4 1
  simp only [List.getElem?_toArray, List.getElem?_cons_succ, List.getElem?_cons_zero] at y0 y1
  clear y4
  generalize ((w.alloc (.cells #[.slice p1 na k1, .slice p3 ea k3] 26)).alloc (.cells #[.int .u64 tk, .slice p6 ll k6] 39)) = w0 at *
  have hz0 : w.heap.size < w0.heap.size := by omega
  have hz1 : w.heap.size + 1 < w0.heap.size := by omega
  clear hz4
  by_cases hc : ga = 1 ∨ 200 < ll
  · have hd : decide ((200 : Int) < ll) = decide (200 < ll) := by rw [decide_eq_decide]; omega
    rcases hga with rfl | rfl
    · have d2 : decide ((200 : Int) < ll) = true := decide_eq_true (by omega)
      clear hc hd
      go_wp2_with (first
        | (go_at_call 16; refine (HG.out _ (by repeat (first | assumption | exact Nw.refl _ | refine Nw.alloc ?_ _ | refine Nw.drew ?_ | refine Nw.drewN2 ?_ _ | (refine Nw.trans ?_ (by assumption))))).mono ?_; rintro e w1 ⟨rfl, hn1⟩; replace x0 := hn1.cell x0; replace x1 := hn1.cell x1; replace y0 := hn1.cell y0; replace y1 := hn1.cell y1; replace hz0 := Nat.lt_of_lt_of_le hz0 hn1.size; replace hz1 := Nat.lt_of_lt_of_le hz1 hn1.size)
        | (go_at_call 17; refine (awake_c _).mono ?_; rintro e w1 ⟨rfl, hn1⟩)
        | fail)
      go_ret
      exact ⟨rfl, (by repeat (first | assumption | exact Nw.refl _ | refine Nw.alloc ?_ _ | refine Nw.drew ?_ | refine Nw.drewN2 ?_ _ | (refine Nw.trans ?_ (by assumption))))⟩
    · clear hc hd
      go_wp2_with (first
        | (go_at_call 16; refine (HG.out _ (by repeat (first | assumption | exact Nw.refl _ | refine Nw.alloc ?_ _ | refine Nw.drew ?_ | refine Nw.drewN2 ?_ _ | (refine Nw.trans ?_ (by assumption))))).mono ?_; rintro e w1 ⟨rfl, hn1⟩; replace x0 := hn1.cell x0; replace x1 := hn1.cell x1; replace y0 := hn1.cell y0; replace y1 := hn1.cell y1; replace hz0 := Nat.lt_of_lt_of_le hz0 hn1.size; replace hz1 := Nat.lt_of_lt_of_le hz1 hn1.size)
        | (go_at_call 17; refine (awake_c _).mono ?_; rintro e w1 ⟨rfl, hn1⟩)
        | fail)
      go_ret
      exact ⟨rfl, (by repeat (first | assumption | exact Nw.refl _ | refine Nw.alloc ?_ _ | refine Nw.drew ?_ | refine Nw.drewN2 ?_ _ | (refine Nw.trans ?_ (by assumption))))⟩
  · have d2 : decide ((200 : Int) < ll) = false := decide_eq_false (by omega)
    obtain rfl : ga = 0 := by omega
    clear hga hc
    go_upto_region 4 with (first
      | (go_at_call 16; refine (HG.out _ (by repeat (first | assumption | exact Nw.refl _ | refine Nw.alloc ?_ _ | refine Nw.drew ?_ | refine Nw.drewN2 ?_ _ | (refine Nw.trans ?_ (by assumption))))).mono ?_; rintro e w1 ⟨rfl, hn1⟩; replace x0 := hn1.cell x0; replace x1 := hn1.cell x1; replace y0 := hn1.cell y0; replace y1 := hn1.cell y1; replace hz0 := Nat.lt_of_lt_of_le hz0 hn1.size; replace hz1 := Nat.lt_of_lt_of_le hz1 hn1.size)
      | (go_at_call 23; refine (HM1.out _ (by repeat (first | assumption | exact Nw.refl _ | refine Nw.alloc ?_ _ | refine Nw.drew ?_ | refine Nw.drewN2 ?_ _ | (refine Nw.trans ?_ (by assumption))))).mono ?_; rintro e w2 ⟨q1, c1, q2, c2, rfl, hs1, he1, hn2⟩)
      | fail)
    replace x0 := hn2.cell x0
    replace x1 := hn2.cell x1
    replace y0 := hn2.cell y0
    replace y1 := hn2.cell y1
    replace hz0 := Nat.lt_of_lt_of_le hz0 hn2.size
    replace hz1 := Nat.lt_of_lt_of_le hz1 hn2.size
    generalize a.evs.length = n at *
    obtain ⟨u0, u1⟩ := box2 w2 (.slice q1 3 c1) (.slice q2 n c2) 26
    have hn3 := (Nw.refl w2).alloc (.cells #[.slice q1 3 c1, .slice q2 n c2] 26)
    have lu := lt_alloc w2 (.cells #[.slice q1 3 c1, .slice q2 n c2] 26)
    replace x0 := hn3.cell x0
    replace x1 := hn3.cell x1
    replace y0 := hn3.cell y0
    replace y1 := hn3.cell y1
    replace hz0 := Nat.lt_of_lt_of_le hz0 hn3.size
    replace hz1 := Nat.lt_of_lt_of_le hz1 hn3.size
    replace hs1 := hs1.nw hn3
    replace he1 := he1.nw hn3
    have hw3 : Nw w (w2.alloc (.cells #[.slice q1 3 c1, .slice q2 n c2] 26)) := hw0.trans (hn1.trans (hn2.trans hn3))
    clear hn1 hn2 hn3 hw0
    generalize w2.alloc (.cells #[.slice q1 3 c1, .slice q2 n c2] 26) = w3 at *
    generalize w2.heap.size = g9 at *
    replace HA0 := hid (fun w' (h : Nw w3 w') => HA0.out w' (hw3.trans h))
    replace HB0 := hid (fun w' (h : Nw w3 w') => HB0.out w' (hw3.trans h))
    have HA1 := hid (fun w' (h : Nw w3 w') => HAA.out _ _ w' (hw3.trans h) (hs1.nw h) (he1.nw h))
    have HB1 := hid (fun w' (h : Nw w3 w') => HBB.out _ _ w' (hw3.trans h) (hs1.nw h) (he1.nw h))
    replace HM1 := hid (fun w' (h : Nw w3 w') => HM1.out w' (hw3.trans h))
    have hr1 : TrR w3 (.agg #[.slice q1 3 c1, .slice q2 n c2]) a := ⟨_, _, rfl, by rw [HNA.out]; exact hs1, he1⟩
    have HNS := hid (fun w' q c p d (h1 : Sl w' (.slice q 3 c) (Lx.strs pqr)) (h2 : Evs w' (.slice p n d) a.evs) => (show TrR w' (.agg #[.slice q 3 c, .slice p n d]) a from ⟨_, _, rfl, by rw [HNA.out]; exact h1, h2⟩))
    have i0 : ∀ w', (Instr.index 44 (.agg #[.slice p1 na k1, .slice p3 ea k3, .slice q1 3 c1, .slice q2 n c2]) (.int .i64 0)).run Try.prog w' = .ok (.agg #[.slice p1 na k1, .slice p3 ea k3]) w' := fun _ => by kernel_rfl
    have i1 : ∀ w', (Instr.index 44 (.agg #[.slice p1 na k1, .slice p3 ea k3, .slice q1 3 c1, .slice q2 n c2]) (.int .i64 1)).run Try.prog w' = .ok (.agg #[.slice q1 3 c1, .slice q2 n c2]) w' := fun _ => by kernel_rfl
    clear hs1 he1
    go_wp2
    go_loopw [11, 12, 13, 14, 15, 32] (fun _ _ _ _ _ i wr => ∃ k : Nat, k ≤ 2 ∧ i = .int .i64 k ∧ Nw w3 wr) (fun _ _ _ _ _ i _ => 2 - (intOf i).toNat)
    case atStart => exact ⟨0, by omega, rfl, Nw.refl _⟩
    case round =>
      obtain ⟨k, hk, rfl, hn⟩ := hrel
      replace u0 := hn.cell u0
      replace u1 := hn.cell u1
      replace y0 := hn.cell y0
      replace y1 := hn.cell y1
      replace lu := Nat.lt_of_lt_of_le lu hn.size
      replace hz1 := Nat.lt_of_lt_of_le hz1 hn.size
      clear x0 x1 hz0
      match k, hk with
      | 0, _ =>
        rw [show ((0 : Nat) : Int) = 0 from rfl]
        clear u0 u1 lu
        go_upto_region 7 with fail
        obtain ⟨z0, z1⟩ := box2 wr (.slice p1 na k1) (.slice p3 ea k3) 26
        have hnz := (Nw.refl wr).alloc (.cells #[(.slice p1 na k1), (.slice p3 ea k3)] 26)
        have lz := lt_alloc wr (.cells #[(.slice p1 na k1), (.slice p3 ea k3)] 26)
        replace y0 := hnz.cell y0
        replace y1 := hnz.cell y1
        replace hnz := hn.trans hnz
        clear i0 i1
        generalize wr.alloc (.cells #[(.slice p1 na k1), (.slice p3 ea k3)] 26) = wz at *
        generalize wr.heap.size = g11 at *
        go_upto_region 8 with (first
          | (go_at_call 29; refine (HA0.out _ (by repeat (first | assumption | exact Nw.refl _ | refine Nw.alloc ?_ _ | refine Nw.drew ?_ | refine Nw.drewN2 ?_ _ | (refine Nw.trans ?_ (by assumption))))).mono ?_; rintro e w4 h4; obtain ⟨a1, a2, a3, a4, a5, a6, rfl, hr4, hn4⟩ := h4.open; clear h4)
          | fail)
        obtain ⟨p0, p1'⟩ := box2 w4 (.slice a1 a2 a3) (.slice a4 a5 a6) 26
        have hnp := (Nw.refl w4).alloc (.cells #[.slice a1 a2 a3, .slice a4 a5 a6] 26)
        have lp := lt_alloc w4 (.cells #[.slice a1 a2 a3, .slice a4 a5 a6] 26)
        replace hr4 := hr4.nw hnp
        replace hn4 := hn4.trans hnp
        replace y0 := hn4.cell y0
        replace y1 := hn4.cell y1
        replace z0 := hn4.cell z0
        replace z1 := hn4.cell z1
        replace lz := Nat.lt_of_lt_of_le lz hn4.size
        replace hnz := hnz.trans hn4
        clear hnp hn4
        generalize w4.alloc (.cells #[.slice a1 a2 a3, .slice a4 a5 a6] 26) = wp at *
        generalize w4.heap.size = g12 at *
        go_upto_region 9 with (first
          | (go_at_call 30; refine (HB0.out _ (by repeat (first | assumption | exact Nw.refl _ | refine Nw.alloc ?_ _ | refine Nw.drew ?_ | refine Nw.drewN2 ?_ _ | (refine Nw.trans ?_ (by assumption))))).mono ?_; rintro e w5 h5; obtain ⟨b1, b2, b3, b4, b5, b6, rfl, hr5, hn5⟩ := h5.open; clear h5)
          | fail)
        obtain ⟨s0, s1⟩ := box2 w5 (.slice b1 b2 b3) (.slice b4 b5 b6) 26
        have hns := (Nw.refl w5).alloc (.cells #[.slice b1 b2 b3, .slice b4 b5 b6] 26)
        have ls := lt_alloc w5 (.cells #[.slice b1 b2 b3, .slice b4 b5 b6] 26)
        replace hr5 := hr5.nw hns
        replace hn5 := hn5.trans hns
        replace hr4 := hr4.nw hn5
        replace p0 := hn5.cell p0
        replace p1' := hn5.cell p1'
        replace lp := Nat.lt_of_lt_of_le lp hn5.size
        replace hnz := hnz.trans hn5
        clear hns hn5
        generalize w5.alloc (.cells #[.slice b1 b2 b3, .slice b4 b5 b6] 26) = ws at *
        generalize w5.heap.size = g14 at *
        have HST := hid (fun w' (h : Nw ws w') => samet_same _ _ _ w' (hr4.nw h) (hr5.nw h))
        clear z0 z1 lz y0 y1
        go_wp2_with (first
          | (go_at_call 31; refine (HST.out _ (by repeat (first | assumption | exact Nw.refl _ | refine Nw.alloc ?_ _ | refine Nw.drew ?_ | refine Nw.drewN2 ?_ _ | (refine Nw.trans ?_ (by assumption))))).mono ?_; rintro e w6 ⟨rfl, hn6⟩)
          | fail)
        go_roundw
        case rel => exact ⟨1, by omega, rfl, (by repeat (first | assumption | exact Nw.refl _ | refine Nw.alloc ?_ _ | refine Nw.drew ?_ | refine Nw.drewN2 ?_ _ | (refine Nw.trans ?_ (by assumption))))⟩
        case measure => simp [intOf]
      | 1, _ =>
        rw [show ((1 : Nat) : Int) = 1 from rfl]
        clear u0 u1 lu
        go_upto_region 7 with fail
        obtain ⟨z0, z1⟩ := box2 wr (.slice q1 3 c1) (.slice q2 n c2) 26
        have hnz := (Nw.refl wr).alloc (.cells #[(.slice q1 3 c1), (.slice q2 n c2)] 26)
        have lz := lt_alloc wr (.cells #[(.slice q1 3 c1), (.slice q2 n c2)] 26)
        replace y0 := hnz.cell y0
        replace y1 := hnz.cell y1
        replace hnz := hn.trans hnz
        clear i0 i1
        generalize wr.alloc (.cells #[(.slice q1 3 c1), (.slice q2 n c2)] 26) = wz at *
        generalize wr.heap.size = g11 at *
        go_upto_region 8 with (first
          | (go_at_call 29; refine (HA1.out _ (by repeat (first | assumption | exact Nw.refl _ | refine Nw.alloc ?_ _ | refine Nw.drew ?_ | refine Nw.drewN2 ?_ _ | (refine Nw.trans ?_ (by assumption))))).mono ?_; rintro e w4 h4; obtain ⟨a1, a2, a3, a4, a5, a6, rfl, hr4, hn4⟩ := h4.open; clear h4)
          | fail)
        obtain ⟨p0, p1'⟩ := box2 w4 (.slice a1 a2 a3) (.slice a4 a5 a6) 26
        have hnp := (Nw.refl w4).alloc (.cells #[.slice a1 a2 a3, .slice a4 a5 a6] 26)
        have lp := lt_alloc w4 (.cells #[.slice a1 a2 a3, .slice a4 a5 a6] 26)
        replace hr4 := hr4.nw hnp
        replace hn4 := hn4.trans hnp
        replace y0 := hn4.cell y0
        replace y1 := hn4.cell y1
        replace z0 := hn4.cell z0
        replace z1 := hn4.cell z1
        replace lz := Nat.lt_of_lt_of_le lz hn4.size
        replace hnz := hnz.trans hn4
        clear hnp hn4
        generalize w4.alloc (.cells #[.slice a1 a2 a3, .slice a4 a5 a6] 26) = wp at *
        generalize w4.heap.size = g12 at *
        go_upto_region 9 with (first
          | (go_at_call 30; refine (HB1.out _ (by repeat (first | assumption | exact Nw.refl _ | refine Nw.alloc ?_ _ | refine Nw.drew ?_ | refine Nw.drewN2 ?_ _ | (refine Nw.trans ?_ (by assumption))))).mono ?_; rintro e w5 h5; obtain ⟨b1, b2, b3, b4, b5, b6, rfl, hr5, hn5⟩ := h5.open; clear h5)
          | fail)
        obtain ⟨s0, s1⟩ := box2 w5 (.slice b1 b2 b3) (.slice b4 b5 b6) 26
        have hns := (Nw.refl w5).alloc (.cells #[.slice b1 b2 b3, .slice b4 b5 b6] 26)
        have ls := lt_alloc w5 (.cells #[.slice b1 b2 b3, .slice b4 b5 b6] 26)
        replace hr5 := hr5.nw hns
        replace hn5 := hn5.trans hns
        replace hr4 := hr4.nw hn5
        replace p0 := hn5.cell p0
        replace p1' := hn5.cell p1'
        replace lp := Nat.lt_of_lt_of_le lp hn5.size
        replace hnz := hnz.trans hn5
        clear hns hn5
        generalize w5.alloc (.cells #[.slice b1 b2 b3, .slice b4 b5 b6] 26) = ws at *
        generalize w5.heap.size = g14 at *
        have HST := hid (fun w' (h : Nw ws w') => samet_same _ _ _ w' (hr4.nw h) (hr5.nw h))
        clear z0 z1 lz y0 y1
        go_wp2_with (first
          | (go_at_call 31; refine (HST.out _ (by repeat (first | assumption | exact Nw.refl _ | refine Nw.alloc ?_ _ | refine Nw.drew ?_ | refine Nw.drewN2 ?_ _ | (refine Nw.trans ?_ (by assumption))))).mono ?_; rintro e w6 ⟨rfl, hn6⟩)
          | fail)
        go_roundw
        case rel => exact ⟨2, by omega, rfl, (by repeat (first | assumption | exact Nw.refl _ | refine Nw.alloc ?_ _ | refine Nw.drew ?_ | refine Nw.drewN2 ?_ _ | (refine Nw.trans ?_ (by assumption))))⟩
        case measure => simp [intOf]
      | 2, _ =>
        rw [show ((2 : Nat) : Int) = 2 from rfl]
        clear y0 y1 i0 i1
        have HS1 := hid (fun v w' (h : Nw wr w') (hv : TrR w' v a) => samet_same (.agg #[.slice q1 3 c1, .slice q2 n c2]) v a w' (hr1.nw (hn.trans h)) hv)
        have HM2 := hid (fun w' (h : Nw wr w') => HM1.out w' (hn.trans h))
        clear HM1
        go_upto_region 12 with fail
        refine wp_region_stairs (by kernel_rfl) (by kernel_rfl) (by kernel_rfl) ?_
        iterate 3
          refine Stairs.is ?_ ?_ ?_
          rotate_left 1
          · intro x wR hR hd K hK
            simp only [Act.put, List.setIfInBounds_toArray, List.set_cons_zero, List.set_cons_succ, Nat.reduceAdd, List.length_nil, List.length_cons, List.nil_append, List.cons_append, Say.ok] at hK ⊢
            clear hd
            change Hid _ at hK
            obtain ⟨hcR, hfR, hzR⟩ := nwc hR
            first | (refine wanted_yes ?_ ?_; rfl) | (refine wanted_no ?_ ?_; rfl)
            go_wp2_with (first 
          | (go_at_call 23; refine (HM2.out _ (by repeat (first | assumption | exact Nw.refl _ | refine Nw.alloc ?_ _ | refine Nw.drew ?_ | refine Nw.drewN2 ?_ _ | (refine Nw.trans ?_ (by assumption))))).mono ?_; rintro e w5 ⟨q3, c3, q4, c4, rfl, hs5, he5, hn5⟩)
          | (go_at_call 31; refine (HS1.out _ _ (by repeat (first | assumption | exact Nw.refl _ | refine Nw.alloc ?_ _ | refine Nw.drew ?_ | refine Nw.drewN2 ?_ _ | (refine Nw.trans ?_ (by assumption)))) (by first | exact hd | exact hd.1 | exact hd.2)).mono ?_; rintro e w5 ⟨rfl, hn5⟩)
          | (go_at_call 17; refine (awake_c _).mono ?_; rintro e w5 ⟨rfl, hn5⟩))
            all_goals (refine hK.out _ _ ?_ ?_ <;> first | (solve | (repeat (first | assumption | exact Nw.refl _ | refine Nw.alloc ?_ _ | refine Nw.drew ?_ | refine Nw.drewN2 ?_ _ | (refine Nw.trans ?_ (by assumption))))) | exact rfl | exact HNS.out _ _ _ _ _ hs5 he5)
          try simp only [Act.put, List.setIfInBounds_toArray, List.set_cons_zero, List.set_cons_succ, Nat.reduceAdd, List.length_nil, List.length_cons, List.nil_append, List.cons_append]
        iterate 1
          refine Stairs.that (ReadsT a) (by simp) ?_ ?_
          · intro x wR hR hd K hK
            simp only [Act.put, List.setIfInBounds_toArray, List.set_cons_zero, List.set_cons_succ, Nat.reduceAdd, List.length_nil, List.length_cons, List.nil_append, List.cons_append, Say.ok] at hK ⊢
            clear hd
            change Hid _ at hK
            obtain ⟨hcR, hfR, hzR⟩ := nwc hR
            first | (refine wanted_yes ?_ ?_; rfl) | (refine wanted_no ?_ ?_; rfl)
            go_wp2_with (first 
          | (go_at_call 23; refine (HM2.out _ (by repeat (first | assumption | exact Nw.refl _ | refine Nw.alloc ?_ _ | refine Nw.drew ?_ | refine Nw.drewN2 ?_ _ | (refine Nw.trans ?_ (by assumption))))).mono ?_; rintro e w5 ⟨q3, c3, q4, c4, rfl, hs5, he5, hn5⟩)
          | (go_at_call 31; refine (HS1.out _ _ (by repeat (first | assumption | exact Nw.refl _ | refine Nw.alloc ?_ _ | refine Nw.drew ?_ | refine Nw.drewN2 ?_ _ | (refine Nw.trans ?_ (by assumption)))) (by first | exact hd | exact hd.1 | exact hd.2)).mono ?_; rintro e w5 ⟨rfl, hn5⟩)
          | (go_at_call 17; refine (awake_c _).mono ?_; rintro e w5 ⟨rfl, hn5⟩))
            all_goals (refine hK.out _ _ ?_ ?_ <;> first | (solve | (repeat (first | assumption | exact Nw.refl _ | refine Nw.alloc ?_ _ | refine Nw.drew ?_ | refine Nw.drewN2 ?_ _ | (refine Nw.trans ?_ (by assumption))))) | exact rfl | exact HNS.out _ _ _ _ _ hs5 he5)
          try simp only [Act.put, List.setIfInBounds_toArray, List.set_cons_zero, List.set_cons_succ, Nat.reduceAdd, List.length_nil, List.length_cons, List.nil_append, List.cons_append]
        iterate 5
          refine Stairs.is ?_ ?_ ?_
          rotate_left 1
          · intro x wR hR hd K hK
            simp only [Act.put, List.setIfInBounds_toArray, List.set_cons_zero, List.set_cons_succ, Nat.reduceAdd, List.length_nil, List.length_cons, List.nil_append, List.cons_append, Say.ok] at hK ⊢
            try simp [Region.binds, sayAt, List.getD_cons_zero, List.getD_cons_succ, Say.ok, Vl] at hd
            try (first | have hs := str_ok hd | have hs := str_ok hd.2 | have hs := str_ok hd.1 | (obtain ⟨hd1, hd2, hd3⟩ := hd; first | have hs := str_ok hd1 | have hs := str_ok hd2 | have hs := str_ok hd3))
            change Hid _ at hK
            obtain ⟨hcR, hfR, hzR⟩ := nwc hR
            first | (refine wanted_yes ?_ ?_; rfl) | (refine wanted_no ?_ ?_; rfl)
            go_wp2_with (first 
          | (go_at_call 23; refine (HM2.out _ (by repeat (first | assumption | exact Nw.refl _ | refine Nw.alloc ?_ _ | refine Nw.drew ?_ | refine Nw.drewN2 ?_ _ | (refine Nw.trans ?_ (by assumption))))).mono ?_; rintro e w5 ⟨q3, c3, q4, c4, rfl, hs5, he5, hn5⟩)
          | (go_at_call 31; refine (HS1.out _ _ (by repeat (first | assumption | exact Nw.refl _ | refine Nw.alloc ?_ _ | refine Nw.drew ?_ | refine Nw.drewN2 ?_ _ | (refine Nw.trans ?_ (by assumption)))) (by first | exact hd | exact hd.1 | exact hd.2)).mono ?_; rintro e w5 ⟨rfl, hn5⟩)
          | (go_at_call 17; refine (awake_c _).mono ?_; rintro e w5 ⟨rfl, hn5⟩))
            all_goals (refine hK.out _ _ ?_ ?_ <;> first | (solve | (repeat (first | assumption | exact Nw.refl _ | refine Nw.alloc ?_ _ | refine Nw.drew ?_ | refine Nw.drewN2 ?_ _ | (refine Nw.trans ?_ (by assumption))))) | exact rfl | exact HNS.out _ _ _ _ _ hs5 he5)
          try simp only [Act.put, List.setIfInBounds_toArray, List.set_cons_zero, List.set_cons_succ, Nat.reduceAdd, List.length_nil, List.length_cons, List.nil_append, List.cons_append]
        refine Stairs.nil ?_
        intro x wR hR hx
        have h3 := hx 3 (by decide)
        simp only [sayAt, List.getD_cons_zero, List.getD_cons_succ, Say.ok, Vl] at h3
        clear hx
        obtain ⟨hcR, hfR, hzR⟩ := nwc hR
        go_wp2
        go_ret
        exact ⟨rfl, hw3.trans (hn.trans hR)⟩
end Tr
end Go.Proofs.Ytjelbfodkacipaa
