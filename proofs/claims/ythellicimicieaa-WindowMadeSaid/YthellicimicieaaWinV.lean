/- WindowMade walked. No condition. -/
import Derived.Test.YthellicimicieaaWinS
set_option linter.unusedSimpArgs false
set_option linter.unusedVariables false
namespace Go.Proofs.Ythellicimicieaa
open Go.ChangeShapes Go.WideShapes Go.ChangeAt Go.RowKit
/-- 's = append(s, x...)', s an empty row without room, elements of several cells: a new row, or s itself. -/
theorem appl0 {P : Program} {w : World} {ops : Array Oper} {rest : List Oper} {o : Oper} {a : Act} {Q : Exit → Act → World → Prop} (hgd : o.guard = none) (s x : Operand) (t : TypeId) (ho : o.op = .call { callee := .builtin .append, args := #[s, x], argTypes := #[t, t] })
    (e : TypeId) (z : Value) (size bytes : Nat) (ht : P.underlying t = some (.slice e)) (hinfo : (P.info? e).map (fun i => (i.zero, i.size, i.bytes)) = some (some z, size, bytes)) (hz : z.cells.size = size) (hs0 : 0 < size) (hby : bytes ≤ 128)
    {B g : Nat} (hB : B ≤ w.heap.size) (hown : w.ownsRow B e size (.slice (some ⟨g, 0, none⟩) 0 0) 0 []) (hs : a.eval s = .slice (some ⟨g, 0, none⟩) 0 0) {px : Option Addr} {m cap : Nat} {news : List Value} (hx : a.eval x = .slice px m cap) (hl : news.length = m * size)
    (hu : Cells w px news)
    (h : ∀ v' w', w'.ownsRow B e size v' m news → Nw w w' → (m = 0 ∨ v'.ownBlock = some w.heap.size) → wpList P ops Q rest (a.put o.dst v') w')
    (h63 : m ≤ 1099511627776) : wpList P ops Q (o :: rest) a w := by
  refine wpList_plain hgd fun K hK => ?_
  obtain ⟨i, hi, hz0, hz1, hz2⟩ := info_parts hinfo
  have key : ∃ v' w', (Builtin.append_ #[t, t] o.type #[.slice (some ⟨g, 0, none⟩) 0 0, .slice px m cap]).run P w = .ok v' w' ∧ w'.ownsRow B e size v' m news ∧ Nw w w' ∧ (m = 0 ∨ v'.ownBlock = some w.heap.size) := by
    rcases Nat.eq_zero_or_pos m with h0 | h0
    · subst h0
      obtain rfl : news = [] := by cases news with | nil => rfl | cons y r => simp at hl
      refine ⟨.slice (some ⟨g, 0, none⟩) 0 0, w, ?_, hown, Nw.refl w, Or.inl rfl⟩
      cases px <;> simp [Builtin.append_, run_underlying ht, sizeOf, typeInfo, hi, Builtin.lenOf, Builtin.firstCells, storeCells, loadCells, loadCellsFrom]
    · have hpos : 0 < news.length := by rw [hl]; exact Nat.mul_pos h0 hs0
      obtain ⟨b1, o1, rfl⟩ := hu.place hpos
      have hml : 0 + m ≤ maxLen := by unfold maxLen; omega
      have hr := run_append_grow (P := P) w t o.type e i z ht hi hz0 ⟨g, 0, none⟩ 0 0 [] (by simp) (fun j v hj => by simp at hj) ⟨b1, o1, none⟩ m cap news (by rw [hz1]; exact hl) (fun j v hj => by
          obtain ⟨hjl, rfl⟩ := List.getElem?_eq_some_iff.1 hj
          obtain ⟨b, o, e1, hcell⟩ := hu j hjl
          cases e1
          rw [addr_add]; exact hcell) (by omega) (by omega) (growslice_fits (by omega) (by rw [hz2, Nat.zero_add]; have := Nat.mul_le_mul h63 hby; omega))
      refine ⟨_, _, hr, ?_, ((Nw.refl w).drew).alloc _, Or.inr rfl⟩
      have hge := grownCap_ge w (0 + m) 0 e
      have hcm : grownCap w (0 + m) 0 e ≤ maxLen := grownCap_le_maxLen w (0 + m) 0 e hml
      rw [Nat.zero_add] at hge hcm ⊢
      refine ⟨hl, .inr ⟨w.heap.size, _, _, rfl, hB, heap_alloc_new w.drew _, hge, hcm, ?_, ?_⟩⟩
      · simp only [Array.size_append, size_zeroCells, List.size_toArray, List.length_nil, hl, hz]
        rw [Nat.zero_add, ← Nat.add_mul]
        congr 1
        omega
      · simp only [Array.toList_append, List.nil_append]
        rw [← hl]
        exact List.take_left
  obtain ⟨v', w', hr, h2, h3, h4⟩ := key
  unfold Oper.wp execOp
  simp only [ho, resolve, invoke, builtin, Sem.run_bind, Sem.run_pure, Result.andThen_ok, List.map_toArray, List.map_cons, List.map_nil, hs, hx, hr]
  exact hK _ _ (h v' w' h2 h3 h4)
namespace Wn
open Ival Words
set_option maxRecDepth 20000 in
set_option maxHeartbeats 6400000 in
theorem made_walk (n : Nat) (vl vs : Value) (l : Bg) (s : List Wd) (d c : Int) (at_ : Nat) (o : Int) (w : World) (hv : Sl2 w vl (bgv l)) (hl : ∀ x ∈ l, x.1 ≤ 65535) (hs : Words.Set w vs s) (hd : 0 ≤ d ∧ d ≤ 18446744073709551615) (hn16 : n ≤ 65535) (hc : -9223372036854775808 ≤ c ∧ c ≤ 9223372036854775807) (hat : at_ ≤ 255) :
    Calls Try.prog 12 #[.int .u16 (n : Int), vl, .int .u64 d, .int .i64 c, vs, .int .u8 (at_ : Int), .int .i64 o] w fun e w' => e = .returned (.bool true) ∧ Nw w w' := by
  have hw1 := sp_wide (n := n % 2700) (by omega)
  have hmay := sp_may (n := n % 2700) (by omega)
  have hbd := sp_bd (n := n % 2700) (by omega)
  have HSP := hid (fun w' => span_w (n % 2700) w' (by omega))
  generalize spLo (n % 2700) = lo at *
  generalize spHi (n % 2700) = hi at *
  have HMK := hid (fun w' (h : Nw w w') => make_w lo hi vl l w' (hv.nw h) hl hmay)
  have HW := hid (show Mk lo hi (mkW lo hi (l.take 50)) from ⟨hmay, mkW_pl hmay _, mk_sm lo hi l, by omega⟩)
  have hlo : -9223372036854775808 ≤ lo ∧ lo ≤ 9223372036854775807 := by omega
  obtain ⟨p1, k1, rfl, _, _, _, _⟩ := hv.open (n := l.length) (by simp [bgv])
  generalize mkW lo hi (l.take 50) = W at *
  have hsm : Sm 1000000 1000000 W := HW.out.sm.mono (by decide) (by decide)
  clear hv hl hmay hbd
  generalize l.length = nl at *
  have HWD := hid (fun w' => rwide_c lo hi w')
  have HAW := hid (fun w' => awake_w w')
  have HSS := hid hs
  obtain ⟨qs, cs, rfl, hcs, hms, _⟩ := hs.open
  unfold maxLen at hms
  clear hs
  obtain ⟨hw0, hw2⟩ := hw1
  have hPl := HW.out.pl
  have hsW : Sm 900000 900000 W := HW.out.sm.mono (by decide) (by decide)
  unfold span at *
  by_cases hbig : 100 < s.length
  · have hdb : decide ((100 : Int) < (s.length : Int)) = true := decide_eq_true (by omega)
    clear hbig
    go_enter Try.func12, Try.ntmps12
    go_wp2_with (first
      | (go_at_call 18; refine (HAW.out _).mono ?_; rintro e w2 ⟨rfl, hn2⟩)
      | fail)
    go_ret
    exact ⟨rfl, (by repeat (first | assumption | exact Nw.refl _ | refine Nw.alloc ?_ _ | refine Nw.drew ?_ | refine Nw.drewN2 ?_ _ | (refine Nw.trans ?_ (by assumption))))⟩
  · have hdb : decide ((100 : Int) < (s.length : Int)) = false := decide_eq_false (by omega)
    have hsl : s.length ≤ 900000 := by omega
    have HT := hid (fun cc v w' (h : Bks w' v W) (h2 : Words.Set w' (.slice qs s.length cs) s) => tells_w lo hi d cc v (.slice qs s.length cs) W s w' h hsW h2 hsl hlo hd)
    have HT2 := hid (fun (V : Bs) (hV : Sm 900000 900000 V) v w' (h : Bks w' v V) (h2 : Words.Set w' (.slice qs s.length cs) s) => tells_w lo hi d c v (.slice qs s.length cs) V s w' h hV h2 hsl hlo hd)
    have HMY := hid (fun v w' (h : Bks w' v W) => show Calls Try.prog 33 #[span lo hi, v] w' (Gives (.bool true) w') by
      have := may_w lo hi v W w' h hsm
      rwa [hPl.mayW] at this)
    have hWn := HW.out.sm.n
    have hW1 := HW.out.sm.m
    clear hbig hsl
    unfold span at *
    go_enter Try.func12, Try.ntmps12
    go_upto_region 4 with (first
      | (go_at_call 14; refine (HSP.out _).mono ?_; rintro e w1 ⟨rfl, hn1⟩)
      | fail)
    obtain ⟨x0, x1⟩ := box2 w1 (.int .i64 lo) (.int .i64 hi) 26
    have hn := hn1.alloc (.cells #[.int .i64 lo, .int .i64 hi] 26)
    clear hn1
    generalize w1.alloc (.cells #[.int .i64 lo, .int .i64 hi] 26) = w2 at *
    generalize w1.heap.size = gs at *
    go_upto_region 5 with (first
      | (go_at_call 15; refine (HMK.out _ hn).mono ?_; rintro e w3 ⟨v3, rfl, ho3, hn3⟩; obtain ⟨q3, c3, rfl⟩ := ho3.shape rfl)
      | fail)
    have x0 := hn3.cell x0
    have x1 := hn3.cell x1
    have HBO := hid (ho3.mono hn.size)
    have HO := hid ho3.bks
    have hw3 := hn.trans hn3
    have HSS := hid (HSS.out.nw hw3)
    have HW2 := hid (Nw.refl w3)
    clear ho3 hn hn3
    have g0 := World.block_lt_of_cell? w3 _ x0
    simp only at g0
    clear HMK HSP
    generalize wide lo hi = Wd at *
    obtain ⟨U, hU, hU1, hU2⟩ : ∃ U, IntKind.u64.wrap c = U ∧ 0 ≤ U ∧ U ≤ 18446744073709551615 := ⟨_, rfl, by rw [IntKind.wrap_u64]; omega, by rw [IntKind.wrap_u64]; omega⟩
    have hm0 : 0 ≤ U % Wd := Int.emod_nonneg _ (by omega)
    have hm1 : U % Wd < Wd := Int.emod_lt_of_pos _ (by omega)
    have hm2 : U % Wd ≤ 10000 := by omega
    refine wp_region_stairs (by kernel_rfl) (by kernel_rfl) (by kernel_rfl) ?_
    iterate 18
      refine Stairs.is ?_ ?_ ?_
      rotate_left 1
      · intro x wR hR hd K hK
        simp only [Act.put, List.setIfInBounds_toArray, List.set_cons_zero, List.set_cons_succ, Nat.reduceAdd, List.length_nil, List.length_cons, List.nil_append, List.cons_append, Say.ok] at hK ⊢
        clear hd
        change Hid _ at hK
        obtain ⟨hcR, hfR, hzR⟩ := nwc hR
        first | (refine wanted_yes ?_ ?_; rfl) | (refine wanted_no ?_ ?_; rfl)
        first | (refine hK.out _ _ ?_ ?_ <;> first | (solve | (repeat (first | assumption | exact Nw.refl _ | refine Nw.alloc ?_ _ | refine Nw.drew ?_ | refine Nw.drewN2 ?_ _ | (refine Nw.trans ?_ (by assumption))))) | ((conv => lhs; whnf) <;> exact rfl) | exact rfl | exact congrArg (Value.int .u64) hU | exact congrArg Value.bool (by simp)) | (go_step; first | (refine hK.out _ _ ?_ ?_ <;> first | (solve | (repeat (first | assumption | exact Nw.refl _ | refine Nw.alloc ?_ _ | refine Nw.drew ?_ | refine Nw.drewN2 ?_ _ | (refine Nw.trans ?_ (by assumption))))) | ((conv => lhs; whnf) <;> exact rfl) | exact rfl | exact congrArg (Value.int .u64) hU | exact congrArg Value.bool (by simp)) | ((first  | (go_at_call 33; refine (HMY.out _ _ (HO.out.nw (by repeat (first | assumption | exact Nw.refl _ | refine Nw.alloc ?_ _ | refine Nw.drew ?_ | refine Nw.drewN2 ?_ _ | (refine Nw.trans ?_ (by assumption)))))).mono ?_; rintro e w6 ⟨rfl, hn6⟩) | (go_at_call 41; refine (HT.out _ _ _ (HO.out.nw (by repeat (first | assumption | exact Nw.refl _ | refine Nw.alloc ?_ _ | refine Nw.drew ?_ | refine Nw.drewN2 ?_ _ | (refine Nw.trans ?_ (by assumption))))) (HSS.out.nw (by repeat (first | assumption | exact Nw.refl _ | refine Nw.alloc ?_ _ | refine Nw.drew ?_ | refine Nw.drewN2 ?_ _ | (refine Nw.trans ?_ (by assumption)))))).mono ?_; rintro e w6 ⟨rfl, hn6⟩) | (go_at_call 42; refine (HWD.out _).mono ?_; rintro e w6 ⟨rfl, hn6⟩)); (refine hK.out _ _ ?_ ?_ <;> first | (solve | (repeat (first | assumption | exact Nw.refl _ | refine Nw.alloc ?_ _ | refine Nw.drew ?_ | refine Nw.drewN2 ?_ _ | (refine Nw.trans ?_ (by assumption))))) | ((conv => lhs; whnf) <;> exact rfl) | exact rfl | exact congrArg (Value.int .u64) hU | exact congrArg Value.bool (by simp))))
      try simp only [Act.put, List.setIfInBounds_toArray, List.set_cons_zero, List.set_cons_succ, Nat.reduceAdd, List.length_nil, List.length_cons, List.nil_append, List.cons_append]
    iterate 1
      refine Stairs.is (.int .u64 U) ?_ ?_
      · intro x wR hR hd K hK
        simp only [Act.put, List.setIfInBounds_toArray, List.set_cons_zero, List.set_cons_succ, Nat.reduceAdd, List.length_nil, List.length_cons, List.nil_append, List.cons_append, Say.ok] at hK ⊢
        clear hd
        change Hid _ at hK
        obtain ⟨hcR, hfR, hzR⟩ := nwc hR
        first | (refine wanted_yes ?_ ?_; rfl) | (refine wanted_no ?_ ?_; rfl)
        first | (refine hK.out _ _ ?_ ?_ <;> first | (solve | (repeat (first | assumption | exact Nw.refl _ | refine Nw.alloc ?_ _ | refine Nw.drew ?_ | refine Nw.drewN2 ?_ _ | (refine Nw.trans ?_ (by assumption))))) | ((conv => lhs; whnf) <;> exact rfl) | exact rfl | exact congrArg (Value.int .u64) hU | exact congrArg Value.bool (by simp)) | (go_step; first | (refine hK.out _ _ ?_ ?_ <;> first | (solve | (repeat (first | assumption | exact Nw.refl _ | refine Nw.alloc ?_ _ | refine Nw.drew ?_ | refine Nw.drewN2 ?_ _ | (refine Nw.trans ?_ (by assumption))))) | ((conv => lhs; whnf) <;> exact rfl) | exact rfl | exact congrArg (Value.int .u64) hU | exact congrArg Value.bool (by simp)) | ((first  | (go_at_call 33; refine (HMY.out _ _ (HO.out.nw (by repeat (first | assumption | exact Nw.refl _ | refine Nw.alloc ?_ _ | refine Nw.drew ?_ | refine Nw.drewN2 ?_ _ | (refine Nw.trans ?_ (by assumption)))))).mono ?_; rintro e w6 ⟨rfl, hn6⟩) | (go_at_call 41; refine (HT.out _ _ _ (HO.out.nw (by repeat (first | assumption | exact Nw.refl _ | refine Nw.alloc ?_ _ | refine Nw.drew ?_ | refine Nw.drewN2 ?_ _ | (refine Nw.trans ?_ (by assumption))))) (HSS.out.nw (by repeat (first | assumption | exact Nw.refl _ | refine Nw.alloc ?_ _ | refine Nw.drew ?_ | refine Nw.drewN2 ?_ _ | (refine Nw.trans ?_ (by assumption)))))).mono ?_; rintro e w6 ⟨rfl, hn6⟩) | (go_at_call 42; refine (HWD.out _).mono ?_; rintro e w6 ⟨rfl, hn6⟩)); (refine hK.out _ _ ?_ ?_ <;> first | (solve | (repeat (first | assumption | exact Nw.refl _ | refine Nw.alloc ?_ _ | refine Nw.drew ?_ | refine Nw.drewN2 ?_ _ | (refine Nw.trans ?_ (by assumption))))) | ((conv => lhs; whnf) <;> exact rfl) | exact rfl | exact congrArg (Value.int .u64) hU | exact congrArg Value.bool (by simp))))
      try simp only [Act.put, List.setIfInBounds_toArray, List.set_cons_zero, List.set_cons_succ, Nat.reduceAdd, List.length_nil, List.length_cons, List.nil_append, List.cons_append]
    iterate 2
      refine Stairs.is ?_ ?_ ?_
      rotate_left 1
      · intro x wR hR hd K hK
        simp only [Act.put, List.setIfInBounds_toArray, List.set_cons_zero, List.set_cons_succ, Nat.reduceAdd, List.length_nil, List.length_cons, List.nil_append, List.cons_append, Say.ok] at hK ⊢
        clear hd
        change Hid _ at hK
        obtain ⟨hcR, hfR, hzR⟩ := nwc hR
        first | (refine wanted_yes ?_ ?_; rfl) | (refine wanted_no ?_ ?_; rfl)
        first | (refine hK.out _ _ ?_ ?_ <;> first | (solve | (repeat (first | assumption | exact Nw.refl _ | refine Nw.alloc ?_ _ | refine Nw.drew ?_ | refine Nw.drewN2 ?_ _ | (refine Nw.trans ?_ (by assumption))))) | ((conv => lhs; whnf) <;> exact rfl) | exact rfl | exact congrArg (Value.int .u64) hU | exact congrArg Value.bool (by simp)) | (go_step; first | (refine hK.out _ _ ?_ ?_ <;> first | (solve | (repeat (first | assumption | exact Nw.refl _ | refine Nw.alloc ?_ _ | refine Nw.drew ?_ | refine Nw.drewN2 ?_ _ | (refine Nw.trans ?_ (by assumption))))) | ((conv => lhs; whnf) <;> exact rfl) | exact rfl | exact congrArg (Value.int .u64) hU | exact congrArg Value.bool (by simp)) | ((first  | (go_at_call 33; refine (HMY.out _ _ (HO.out.nw (by repeat (first | assumption | exact Nw.refl _ | refine Nw.alloc ?_ _ | refine Nw.drew ?_ | refine Nw.drewN2 ?_ _ | (refine Nw.trans ?_ (by assumption)))))).mono ?_; rintro e w6 ⟨rfl, hn6⟩) | (go_at_call 41; refine (HT.out _ _ _ (HO.out.nw (by repeat (first | assumption | exact Nw.refl _ | refine Nw.alloc ?_ _ | refine Nw.drew ?_ | refine Nw.drewN2 ?_ _ | (refine Nw.trans ?_ (by assumption))))) (HSS.out.nw (by repeat (first | assumption | exact Nw.refl _ | refine Nw.alloc ?_ _ | refine Nw.drew ?_ | refine Nw.drewN2 ?_ _ | (refine Nw.trans ?_ (by assumption)))))).mono ?_; rintro e w6 ⟨rfl, hn6⟩) | (go_at_call 42; refine (HWD.out _).mono ?_; rintro e w6 ⟨rfl, hn6⟩)); (refine hK.out _ _ ?_ ?_ <;> first | (solve | (repeat (first | assumption | exact Nw.refl _ | refine Nw.alloc ?_ _ | refine Nw.drew ?_ | refine Nw.drewN2 ?_ _ | (refine Nw.trans ?_ (by assumption))))) | ((conv => lhs; whnf) <;> exact rfl) | exact rfl | exact congrArg (Value.int .u64) hU | exact congrArg Value.bool (by simp))))
      try simp only [Act.put, List.setIfInBounds_toArray, List.set_cons_zero, List.set_cons_succ, Nat.reduceAdd, List.length_nil, List.length_cons, List.nil_append, List.cons_append]
    iterate 1
      refine Stairs.is (.int .u64 Wd) ?_ ?_
      · intro x wR hR hd K hK
        simp only [Act.put, List.setIfInBounds_toArray, List.set_cons_zero, List.set_cons_succ, Nat.reduceAdd, List.length_nil, List.length_cons, List.nil_append, List.cons_append, Say.ok] at hK ⊢
        clear hd
        change Hid _ at hK
        obtain ⟨hcR, hfR, hzR⟩ := nwc hR
        first | (refine wanted_yes ?_ ?_; rfl) | (refine wanted_no ?_ ?_; rfl)
        first | (refine hK.out _ _ ?_ ?_ <;> first | (solve | (repeat (first | assumption | exact Nw.refl _ | refine Nw.alloc ?_ _ | refine Nw.drew ?_ | refine Nw.drewN2 ?_ _ | (refine Nw.trans ?_ (by assumption))))) | ((conv => lhs; whnf) <;> exact rfl) | exact rfl | exact congrArg (Value.int .u64) hU | exact congrArg Value.bool (by simp)) | (go_step; first | (refine hK.out _ _ ?_ ?_ <;> first | (solve | (repeat (first | assumption | exact Nw.refl _ | refine Nw.alloc ?_ _ | refine Nw.drew ?_ | refine Nw.drewN2 ?_ _ | (refine Nw.trans ?_ (by assumption))))) | ((conv => lhs; whnf) <;> exact rfl) | exact rfl | exact congrArg (Value.int .u64) hU | exact congrArg Value.bool (by simp)) | ((first  | (go_at_call 33; refine (HMY.out _ _ (HO.out.nw (by repeat (first | assumption | exact Nw.refl _ | refine Nw.alloc ?_ _ | refine Nw.drew ?_ | refine Nw.drewN2 ?_ _ | (refine Nw.trans ?_ (by assumption)))))).mono ?_; rintro e w6 ⟨rfl, hn6⟩) | (go_at_call 41; refine (HT.out _ _ _ (HO.out.nw (by repeat (first | assumption | exact Nw.refl _ | refine Nw.alloc ?_ _ | refine Nw.drew ?_ | refine Nw.drewN2 ?_ _ | (refine Nw.trans ?_ (by assumption))))) (HSS.out.nw (by repeat (first | assumption | exact Nw.refl _ | refine Nw.alloc ?_ _ | refine Nw.drew ?_ | refine Nw.drewN2 ?_ _ | (refine Nw.trans ?_ (by assumption)))))).mono ?_; rintro e w6 ⟨rfl, hn6⟩) | (go_at_call 42; refine (HWD.out _).mono ?_; rintro e w6 ⟨rfl, hn6⟩)); (refine hK.out _ _ ?_ ?_ <;> first | (solve | (repeat (first | assumption | exact Nw.refl _ | refine Nw.alloc ?_ _ | refine Nw.drew ?_ | refine Nw.drewN2 ?_ _ | (refine Nw.trans ?_ (by assumption))))) | ((conv => lhs; whnf) <;> exact rfl) | exact rfl | exact congrArg (Value.int .u64) hU | exact congrArg Value.bool (by simp))))
      try simp only [Act.put, List.setIfInBounds_toArray, List.set_cons_zero, List.set_cons_succ, Nat.reduceAdd, List.length_nil, List.length_cons, List.nil_append, List.cons_append]
    iterate 1
      refine Stairs.is (.int .u64 (U % Wd)) ?_ ?_
      · intro x wR hR hd K hK
        simp only [Act.put, List.setIfInBounds_toArray, List.set_cons_zero, List.set_cons_succ, Nat.reduceAdd, List.length_nil, List.length_cons, List.nil_append, List.cons_append, Say.ok] at hK ⊢
        clear hd
        change Hid _ at hK
        obtain ⟨hcR, hfR, hzR⟩ := nwc hR
        first | (refine wanted_yes ?_ ?_; rfl) | (refine wanted_no ?_ ?_; rfl)
        first | (refine hK.out _ _ ?_ ?_ <;> first | (solve | (repeat (first | assumption | exact Nw.refl _ | refine Nw.alloc ?_ _ | refine Nw.drew ?_ | refine Nw.drewN2 ?_ _ | (refine Nw.trans ?_ (by assumption))))) | ((conv => lhs; whnf) <;> exact rfl) | exact rfl | exact congrArg (Value.int .u64) hU | exact congrArg Value.bool (by simp)) | (go_step; first | (refine hK.out _ _ ?_ ?_ <;> first | (solve | (repeat (first | assumption | exact Nw.refl _ | refine Nw.alloc ?_ _ | refine Nw.drew ?_ | refine Nw.drewN2 ?_ _ | (refine Nw.trans ?_ (by assumption))))) | ((conv => lhs; whnf) <;> exact rfl) | exact rfl | exact congrArg (Value.int .u64) hU | exact congrArg Value.bool (by simp)) | ((first  | (go_at_call 33; refine (HMY.out _ _ (HO.out.nw (by repeat (first | assumption | exact Nw.refl _ | refine Nw.alloc ?_ _ | refine Nw.drew ?_ | refine Nw.drewN2 ?_ _ | (refine Nw.trans ?_ (by assumption)))))).mono ?_; rintro e w6 ⟨rfl, hn6⟩) | (go_at_call 41; refine (HT.out _ _ _ (HO.out.nw (by repeat (first | assumption | exact Nw.refl _ | refine Nw.alloc ?_ _ | refine Nw.drew ?_ | refine Nw.drewN2 ?_ _ | (refine Nw.trans ?_ (by assumption))))) (HSS.out.nw (by repeat (first | assumption | exact Nw.refl _ | refine Nw.alloc ?_ _ | refine Nw.drew ?_ | refine Nw.drewN2 ?_ _ | (refine Nw.trans ?_ (by assumption)))))).mono ?_; rintro e w6 ⟨rfl, hn6⟩) | (go_at_call 42; refine (HWD.out _).mono ?_; rintro e w6 ⟨rfl, hn6⟩)); (refine hK.out _ _ ?_ ?_ <;> first | (solve | (repeat (first | assumption | exact Nw.refl _ | refine Nw.alloc ?_ _ | refine Nw.drew ?_ | refine Nw.drewN2 ?_ _ | (refine Nw.trans ?_ (by assumption))))) | ((conv => lhs; whnf) <;> exact rfl) | exact rfl | exact congrArg (Value.int .u64) hU | exact congrArg Value.bool (by simp))))
      try simp only [Act.put, List.setIfInBounds_toArray, List.set_cons_zero, List.set_cons_succ, Nat.reduceAdd, List.length_nil, List.length_cons, List.nil_append, List.cons_append]
    iterate 1
      refine Stairs.is (.int .i64 (U % Wd)) ?_ ?_
      · intro x wR hR hd K hK
        simp only [Act.put, List.setIfInBounds_toArray, List.set_cons_zero, List.set_cons_succ, Nat.reduceAdd, List.length_nil, List.length_cons, List.nil_append, List.cons_append, Say.ok] at hK ⊢
        clear hd
        change Hid _ at hK
        obtain ⟨hcR, hfR, hzR⟩ := nwc hR
        first | (refine wanted_yes ?_ ?_; rfl) | (refine wanted_no ?_ ?_; rfl)
        first | (refine hK.out _ _ ?_ ?_ <;> first | (solve | (repeat (first | assumption | exact Nw.refl _ | refine Nw.alloc ?_ _ | refine Nw.drew ?_ | refine Nw.drewN2 ?_ _ | (refine Nw.trans ?_ (by assumption))))) | ((conv => lhs; whnf) <;> exact rfl) | exact rfl | exact congrArg (Value.int .u64) hU | exact congrArg Value.bool (by simp)) | (go_step; first | (refine hK.out _ _ ?_ ?_ <;> first | (solve | (repeat (first | assumption | exact Nw.refl _ | refine Nw.alloc ?_ _ | refine Nw.drew ?_ | refine Nw.drewN2 ?_ _ | (refine Nw.trans ?_ (by assumption))))) | ((conv => lhs; whnf) <;> exact rfl) | exact rfl | exact congrArg (Value.int .u64) hU | exact congrArg Value.bool (by simp)) | ((first  | (go_at_call 33; refine (HMY.out _ _ (HO.out.nw (by repeat (first | assumption | exact Nw.refl _ | refine Nw.alloc ?_ _ | refine Nw.drew ?_ | refine Nw.drewN2 ?_ _ | (refine Nw.trans ?_ (by assumption)))))).mono ?_; rintro e w6 ⟨rfl, hn6⟩) | (go_at_call 41; refine (HT.out _ _ _ (HO.out.nw (by repeat (first | assumption | exact Nw.refl _ | refine Nw.alloc ?_ _ | refine Nw.drew ?_ | refine Nw.drewN2 ?_ _ | (refine Nw.trans ?_ (by assumption))))) (HSS.out.nw (by repeat (first | assumption | exact Nw.refl _ | refine Nw.alloc ?_ _ | refine Nw.drew ?_ | refine Nw.drewN2 ?_ _ | (refine Nw.trans ?_ (by assumption)))))).mono ?_; rintro e w6 ⟨rfl, hn6⟩) | (go_at_call 42; refine (HWD.out _).mono ?_; rintro e w6 ⟨rfl, hn6⟩)); (refine hK.out _ _ ?_ ?_ <;> first | (solve | (repeat (first | assumption | exact Nw.refl _ | refine Nw.alloc ?_ _ | refine Nw.drew ?_ | refine Nw.drewN2 ?_ _ | (refine Nw.trans ?_ (by assumption))))) | ((conv => lhs; whnf) <;> exact rfl) | exact rfl | exact congrArg (Value.int .u64) hU | exact congrArg Value.bool (by simp))))
      try simp only [Act.put, List.setIfInBounds_toArray, List.set_cons_zero, List.set_cons_succ, Nat.reduceAdd, List.length_nil, List.length_cons, List.nil_append, List.cons_append]
    iterate 4
      refine Stairs.is ?_ ?_ ?_
      rotate_left 1
      · intro x wR hR hd K hK
        simp only [Act.put, List.setIfInBounds_toArray, List.set_cons_zero, List.set_cons_succ, Nat.reduceAdd, List.length_nil, List.length_cons, List.nil_append, List.cons_append, Say.ok] at hK ⊢
        clear hd
        change Hid _ at hK
        obtain ⟨hcR, hfR, hzR⟩ := nwc hR
        first | (refine wanted_yes ?_ ?_; rfl) | (refine wanted_no ?_ ?_; rfl)
        first | (refine hK.out _ _ ?_ ?_ <;> first | (solve | (repeat (first | assumption | exact Nw.refl _ | refine Nw.alloc ?_ _ | refine Nw.drew ?_ | refine Nw.drewN2 ?_ _ | (refine Nw.trans ?_ (by assumption))))) | ((conv => lhs; whnf) <;> exact rfl) | exact rfl | exact congrArg (Value.int .u64) hU | exact congrArg Value.bool (by simp)) | (go_step; first | (refine hK.out _ _ ?_ ?_ <;> first | (solve | (repeat (first | assumption | exact Nw.refl _ | refine Nw.alloc ?_ _ | refine Nw.drew ?_ | refine Nw.drewN2 ?_ _ | (refine Nw.trans ?_ (by assumption))))) | ((conv => lhs; whnf) <;> exact rfl) | exact rfl | exact congrArg (Value.int .u64) hU | exact congrArg Value.bool (by simp)) | ((first  | (go_at_call 33; refine (HMY.out _ _ (HO.out.nw (by repeat (first | assumption | exact Nw.refl _ | refine Nw.alloc ?_ _ | refine Nw.drew ?_ | refine Nw.drewN2 ?_ _ | (refine Nw.trans ?_ (by assumption)))))).mono ?_; rintro e w6 ⟨rfl, hn6⟩) | (go_at_call 41; refine (HT.out _ _ _ (HO.out.nw (by repeat (first | assumption | exact Nw.refl _ | refine Nw.alloc ?_ _ | refine Nw.drew ?_ | refine Nw.drewN2 ?_ _ | (refine Nw.trans ?_ (by assumption))))) (HSS.out.nw (by repeat (first | assumption | exact Nw.refl _ | refine Nw.alloc ?_ _ | refine Nw.drew ?_ | refine Nw.drewN2 ?_ _ | (refine Nw.trans ?_ (by assumption)))))).mono ?_; rintro e w6 ⟨rfl, hn6⟩) | (go_at_call 42; refine (HWD.out _).mono ?_; rintro e w6 ⟨rfl, hn6⟩)); (refine hK.out _ _ ?_ ?_ <;> first | (solve | (repeat (first | assumption | exact Nw.refl _ | refine Nw.alloc ?_ _ | refine Nw.drew ?_ | refine Nw.drewN2 ?_ _ | (refine Nw.trans ?_ (by assumption))))) | ((conv => lhs; whnf) <;> exact rfl) | exact rfl | exact congrArg (Value.int .u64) hU | exact congrArg Value.bool (by simp))))
      try simp only [Act.put, List.setIfInBounds_toArray, List.set_cons_zero, List.set_cons_succ, Nat.reduceAdd, List.length_nil, List.length_cons, List.nil_append, List.cons_append]
    refine Stairs.nil ?_
    intro x wR hR hx
    clear hx
    obtain ⟨hcR, hfR, hzR⟩ := nwc hR
    have x0 := hR.cell x0
    have x1 := hR.cell x1
    have HBO := hid (HBO.out.nw hR)
    have HSS := hid (HSS.out.nw hR)
    have hw4 := hw3.trans hR
    clear hcR hfR hzR hR HT HMY HWD hU hU1 hU2 hm0 hm1 hm2 HW2 hw3 HO g0
    by_cases hW0 : 0 < W.length
    · have hdw : decide ((0 : Int) < (W.length : Int)) = true := decide_eq_true (by omega)
      have hdw2 : decide (0 < W.length) = true := decide_eq_true hW0
      obtain ⟨g, c4, e4, hgB, hgl⟩ := HBO.out.opened rfl hW0
      cases e4
      obtain ⟨vs, hvl, hrow, hall⟩ := id HBO.out
      have hcells : Cells wR (some ⟨g, 0, none⟩) (bkc W vs) := fun j hj => ⟨g, 0, rfl, by
        have := hrow.cells (g := g) rfl j _ (List.getElem?_eq_getElem hj)
        rw [addr_add] at this
        exact this⟩
      have HCE := hid hcells
      have HAL := hid hall
      have HVL := hid hvl
      clear hcells hall hvl hrow
      go_upto_region 8 with fail
      generalize wR = w5 at *
      have hnE := (Nw.refl w5).alloc (.cells #[] 60)
      have hE : (w5.alloc (.cells #[] 60)).ownsRow w5.heap.size 60 2 (.slice (some ⟨w5.heap.size, 0, none⟩) 0 0) 0 [] := ⟨rfl, .inr ⟨w5.heap.size, 0, #[], rfl, Nat.le_refl _, heap_new w5 _, Nat.le_refl _, Nat.zero_le _, rfl, rfl⟩⟩
      go_upto_region 9 with (first
        | (at_builtin; refine appl0 rfl _ _ _ rfl _ _ _ _ Try.underlying28 info_bucket rfl (by decide) (by decide) hnE.size hE rfl rfl (bkc_len W vs HVL.out) (HCE.out.nw hnE) ?_ (by omega); intro v6 w6 hown6 hn6 hat6)
        | fail)
      have hn56 : Nw w5 w6 := hnE.trans hn6
      have ho6 : BkOwn w6 w5.heap.size v6 W := ⟨vs, HVL.out, hown6, fun j hj => ⟨(HAL.out j hj).1.nw hn56, fun h0 k hk q => by
        have h1 := Sl.lt (HAL.out j hj).1 (set_ne' h0) k hk
        have h2 := hnE.size
        rcases hat6 with h3 | h3
        · omega
        · rw [h3] at q
          simp only [Option.some.injEq] at q
          omega⟩⟩
      obtain ⟨g6, c6, e6, hgB6, hgl6⟩ := ho6.opened rfl hW0
      subst e6
      have hi6 : at_ % W.length < W.length := Nat.mod_lt _ hW0
      obtain ⟨q7, d7, k0, _, _, hfz⟩ := ho6.cell rfl (at_ % W.length) hi6
      have hf0 := hfz (at_ % W.length * 2)
      have hmv := ho6.moved rfl (at_ % W.length) hi6 o
      have x0 := hn56.cell x0
      have x1 := hn56.cell x1
      have hSS := HSS.out.nw hn56
      have hSlt := hid (fun h0 k hk => Sl.lt HSS.out (set_ne' h0) k hk)
      have hw4s := hw4.size
      have hw6 := hw4.trans hn56
      have hgs := World.block_lt_of_cell? w5 _ (by first | assumption | exact (show w5.cell? ⟨gs, 0, none⟩ = some (.int .i64 lo) from by assumption))
      simp only at hgs
      have hsV : Sm 900000 900000 (W.set (at_ % W.length) (o, st W (at_ % W.length))) := ⟨by rw [List.length_set]; exact Nat.le_trans hWn (by decide), fun b hb => by
        rcases List.mem_or_eq_of_mem_set hb with h | h
        · exact Nat.le_trans (hW1 b h) (by decide)
        · rw [h]; exact Nat.le_trans (HW.out.sm.at _ hi6) (by decide)⟩
      have HT3 := hid (HT2.out _ hsV)
      have hx1 : ((at_ : Int) % (W.length : Int)).toNat = at_ % W.length := rfl
      have hx0 : (0 : Int) ≤ (at_ : Int) % (W.length : Int) := Int.natCast_nonneg _
      have hx2 : (at_ : Int) % (W.length : Int) < (W.length : Int) := by have e : (at_ : Int) % (W.length : Int) = ((at_ % W.length : Nat) : Int) := rfl; omega
      clear hfz HAL HCE HVL hown6 hat6 hnE hE HT2 hsV hWn hW1 HW hPl hsW hsm ho6 HSS hn56 hn6 HBO
      generalize at_ % W.length = i at *
      generalize st W i = si at *
      generalize off W i = oi at *
      go_upto_region 10 with fail
      have hgB5 : w5.heap.size ≤ g6 := hgB6
      have hm : Mods (fun k => k = g6) w6 (w6.setCell ⟨g6, i * 2, none⟩ (.int .i64 o)) := Mods.setCell (S := fun k => k = g6) (Mods.refl _ w6) (p := ⟨g6, i * 2, none⟩) rfl _
      have hSS2 := set_mods hSS hm (fun h0 k hk q => by have := hSlt.out h0 k hk; omega)
      have x0 := hm.cell x0 (by omega)
      have x1 := hm.cell x1 (by omega)
      have hw7 := hw6.ofMods hm (fun k q => by omega)
      have hB7 := hmv.bks
      clear hmv hSS hm k0 hf0 hx0 hx1 hx2 hi6 hSlt
      generalize w6.setCell ⟨g6, i * 2, none⟩ (.int .i64 o) = w7 at *
      go_wp2_with (first
        | (go_at_call 41; refine (HT3.out _ _ hB7 hSS2).mono ?_; rintro e w8 ⟨rfl, hn8⟩)
        | (go_at_call 18; refine (HAW.out _).mono ?_; rintro e w9 ⟨rfl, hn9⟩)
        | fail)
      go_ret
      exact ⟨rfl, hw7.trans (hn8.trans hn9)⟩
    · have hdw : decide ((0 : Int) < (W.length : Int)) = false := decide_eq_false (by omega)
      have hdw2 : decide (0 < W.length) = false := decide_eq_false hW0
      go_wp2_with (first
        | (go_at_call 18; refine (HAW.out _).mono ?_; rintro e w6 ⟨rfl, hn6⟩)
        | fail)
      go_ret
      exact ⟨rfl, hw4.trans hn6⟩
end Wn
end Go.Proofs.Ythellicimicieaa
