/- The contracts of the laws' Span and Make; windows by what was begun that come in. No condition. -/
import Derived.Test.YthellicimicieaaWinI
import Derived.Test.YthellicimicieaaSeqS
set_option linter.unusedSimpArgs false
set_option linter.unusedVariables false
namespace Go.Proofs.Ythellicimicieaa
open Go.ChangeShapes Go.WideShapes Go.ChangeAt Go.RowKit
namespace Wn
open Ival Words
def spLo (n : Nat) : Int := if 2600 ≤ n then n else (n : Int) % 3
def spHi (n : Nat) : Int := if n / 3 % 2 = 1 then spLo n + (n : Int) / 6 % 3 else -1
theorem sp_bd {n : Nat} (h : n < 2700) : 0 ≤ spLo n ∧ spLo n ≤ 2699 ∧ (spHi n = -1 ∨ spLo n ≤ spHi n ∧ spHi n ≤ 2701) := by
  unfold spHi spLo
  split <;> split <;> omega
theorem sp_may {n : Nat} (h : n < 2700) : may (spLo n) (spHi n) = true := by
  have := sp_bd h
  unfold may
  exact decide_eq_true (by omega)
theorem sp_wide {n : Nat} (h : n < 2700) : 1 ≤ wide (spLo n) (spHi n) ∧ wide (spLo n) (spHi n) ≤ 2702 := by
  have := sp_bd h
  rw [wide_yes (sp_may h)]
  unfold last
  split <;> omega
set_option maxHeartbeats 800000 in
theorem span_w (n : Nat) (w : World) (h : n < 2700) : Calls Try.prog 14 #[.int .i64 (n : Int)] w (Gives (span (spLo n) (spHi n)) w) := by
  by_cases h1 : 2600 ≤ n
  · have e1 : decide ((2600 : Int) ≤ (n : Int)) = true := decide_eq_true (by omega)
    have L1 := hid (show spLo n = n from if_pos h1)
    by_cases h2 : n / 3 % 2 = 1
    · have e2 : ((n : Int) / 3 % 2 == 1) = true := by rw [beq_iff_eq]; omega
      have L2 := hid (show spHi n = (n : Int) + (n : Int) / 6 % 3 by unfold spHi; rw [if_pos h2, L1.out])
      clear h2 h1
      go_enter Try.func14, Try.ntmps14
      go_wp2
      ((try simp only [Exit.inBlock, Exit.then]); refine bodyPost_ret (results_cell_row rfl _ _ _ _ _ _ _ rfl (((Nw.refl _).alloc _).heap (heap_new w _)) Try.underlying26 rfl (by kernel_rfl)) rfl ?_)
      exact ⟨by rw [L1.out, L2.out]; rfl, ((Nw.refl w).alloc _).alloc _⟩
    · have e2 : ((n : Int) / 3 % 2 == 1) = false := beq_eq_false_iff_ne.2 (by omega)
      have L2 := hid (show spHi n = -1 by unfold spHi; rw [if_neg h2])
      clear h2 h1
      go_enter Try.func14, Try.ntmps14
      go_wp2
      ((try simp only [Exit.inBlock, Exit.then]); refine bodyPost_ret (results_cell_row rfl _ _ _ _ _ _ _ rfl (((Nw.refl _).alloc _).heap (heap_new w _)) Try.underlying26 rfl (by kernel_rfl)) rfl ?_)
      exact ⟨by rw [L1.out, L2.out]; rfl, ((Nw.refl w).alloc _).alloc _⟩
  · have e1 : decide ((2600 : Int) ≤ (n : Int)) = false := decide_eq_false (by omega)
    have L1 := hid (show spLo n = (n : Int) % 3 from if_neg h1)
    by_cases h2 : n / 3 % 2 = 1
    · have e2 : ((n : Int) / 3 % 2 == 1) = true := by rw [beq_iff_eq]; omega
      have L2 := hid (show spHi n = (n : Int) % 3 + (n : Int) / 6 % 3 by unfold spHi; rw [if_pos h2, L1.out])
      clear h2 h1
      go_enter Try.func14, Try.ntmps14
      go_wp2
      ((try simp only [Exit.inBlock, Exit.then]); refine bodyPost_ret (results_cell_row rfl _ _ _ _ _ _ _ rfl (((Nw.refl _).alloc _).heap (heap_new w _)) Try.underlying26 rfl (by kernel_rfl)) rfl ?_)
      exact ⟨by rw [L1.out, L2.out]; rfl, ((Nw.refl w).alloc _).alloc _⟩
    · have e2 : ((n : Int) / 3 % 2 == 1) = false := beq_eq_false_iff_ne.2 (by omega)
      have L2 := hid (show spHi n = -1 by unfold spHi; rw [if_neg h2])
      clear h2 h1
      go_enter Try.func14, Try.ntmps14
      go_wp2
      ((try simp only [Exit.inBlock, Exit.then]); refine bodyPost_ret (results_cell_row rfl _ _ _ _ _ _ _ rfl (((Nw.refl _).alloc _).heap (heap_new w _)) Try.underlying26 rfl (by kernel_rfl)) rfl ?_)
      exact ⟨by rw [L1.out, L2.out]; rfl, ((Nw.refl w).alloc _).alloc _⟩
/-! ### Make -/
abbrev Bg := List (Nat × Wd)
def bgv (l : Bg) : List (Value × Value) := l.map fun x => (.int .u16 (x.1 : Int), .int .u64 (x.2.toNat : Int))
def mk1 (lo hi : Int) (out : Bs) (x : Nat × Wd) : Bs := addP lo hi out ((x.1 : Int) % wide lo hi) [x.2]
def mkW (lo hi : Int) (l : Bg) : Bs := l.foldl (mk1 lo hi) []
theorem mkW_snoc (lo hi : Int) (l : Bg) (k : Nat) (h : k < l.length) : mkW lo hi (l.take (k + 1)) = mk1 lo hi (mkW lo hi (l.take k)) (l.getD k (0, 0)) := by
  unfold mkW
  rw [List.take_add_one, List.getElem?_eq_getElem h, List.foldl_append]
  simp [List.getD_eq_getElem?_getD, h]
theorem mkW_pl {lo hi : Int} (h : may lo hi = true) (l : Bg) : Pl lo hi (mkW lo hi l) := by
  have : ∀ (l : Bg) (out : Bs), Pl lo hi out → Pl lo hi (l.foldl (mk1 lo hi) out) := by
    intro l
    induction l with
    | nil => intro out h; exact h
    | cons x r ih => intro out h; exact ih _ (add_pl h.ok _ _)
  exact this l [] (Pl.nil h)
theorem mkW_sm (lo hi : Int) (l : Bg) : Sm l.length 1 (mkW lo hi l) := by
  have : ∀ (l : Bg) (out : Bs) (n : Nat), Sm n 1 out → Sm (n + l.length) 1 (l.foldl (mk1 lo hi) out) := by
    intro l
    induction l with
    | nil => intro out n h; exact h
    | cons x r ih =>
      intro out n h
      have := ih _ (n + 1) (add_sm h lo hi ((x.1 : Int) % wide lo hi) (s := [x.2]) (Nat.le_refl _))
      exact this.mono (by rw [List.length_cons]; omega) (Nat.le_refl _)
  have := this l [] 0 (Sm.nil _ _)
  rwa [Nat.zero_add] at this
theorem mk_sm (lo hi : Int) (l : Bg) : Sm 50 1 (mkW lo hi (l.take 50)) := (mkW_sm lo hi _).mono (by rw [List.length_take]; omega) (Nat.le_refl _)
theorem SetS.set {s : List Wd} {w : World} {v : Value} (h : SetS s w v) : Words.Set w v s := by
  obtain ⟨q, c, rfl, h⟩ := h
  exact h
def BkS (B : Nat) (bs : Bs) : Says := fun w v => BkOwn w B v bs
theorem BkS.stab (B : Nat) (bs : Bs) : Stab (BkS B bs) := fun _ _ _ h hn => BkOwn.nw h hn
theorem one_set (w : World) (x : Wd) : Words.Set (w.alloc (.cells #[.int .u64 (x.toNat : Int)] 24)) (.slice (some ⟨w.heap.size, 0, none⟩) 1 1) [x] :=
  Sl.new w [.int .u64 (x.toNat : Int)] 24 (0, 0) (by simp [maxLen])
theorem bg_cell {w : World} {p : Option Addr} {l : Bg} (h : Cells2 w p (bgv l)) (k : Nat) (hk : k < l.length) : ∃ b oo, p = some ⟨b, oo, none⟩ ∧ w.cell? ⟨b, oo + k * 2, none⟩ = some (.int .u16 ((l.getD k (0, 0)).1 : Int)) ∧ w.cell? ⟨b, oo + k * 2 + 1, none⟩ = some (.int .u64 ((l.getD k (0, 0)).2.toNat : Int)) := by
  obtain ⟨b, oo, e, h1, h2⟩ := h k (by rw [bgv, List.length_map]; exact hk)
  refine ⟨b, oo, e, ?_, ?_⟩
  · rw [h1]; simp [bgv, List.getD_eq_getElem?_getD, hk]
  · rw [h2]; simp [bgv, List.getD_eq_getElem?_getD, hk]
set_option maxRecDepth 20000 in
set_option maxHeartbeats 3200000 in
theorem make_w (lo hi : Int) (vl : Value) (l : Bg) (w : World) (hv : Sl2 w vl (bgv l)) (hl : ∀ x ∈ l, x.1 ≤ 65535) (hm : may lo hi = true) :
    Calls Try.prog 15 #[span lo hi, vl] w (HandsB w (mkW lo hi (l.take 50))) := by
  obtain ⟨p, cap, rfl, hcap, hmx, hp0, hc⟩ := hv.open (n := l.length) (by simp [bgv])
  unfold maxLen at hmx
  have HC := hid hc
  have HL := hid hl
  have HWD := hid (fun w' => rwide_c lo hi w')
  have hwb := wide_bd lo hi
  have hw1 : 1 ≤ wide lo hi := by have := last_bd hm; rw [wide_yes hm]; omega
  clear hc hl
  go_enter Try.func15, Try.ntmps15
  unfold span at *
  go_wp2
  obtain ⟨x0, x1⟩ := box2 w (.int .i64 lo) (.int .i64 hi) 26
  have hn := (Nw.refl w).alloc (.cells #[.int .i64 lo, .int .i64 hi] 26)
  generalize w.alloc (.cells #[.int .i64 lo, .int .i64 hi] 26) = w1 at *
  have hzw := World.block_lt_of_cell? w1 _ x0
  simp only at hzw
  go_loopw [5, 6, 7, 10] (fun v _ _ i wr => ∃ k : Nat, k ≤ l.length ∧ k ≤ 50 ∧ i = .int .i64 k ∧ BkOwn wr w1.heap.size v (mkW lo hi (l.take k)) ∧ Nw w1 wr) (fun _ _ _ i _ => l.length - (intOf i).toNat)
  case atStart => exact ⟨0, Nat.zero_le _, Nat.zero_le _, rfl, BkOwn.nil _ _, Nw.refl _⟩
  case round =>
    obtain ⟨k, hk, hk50, rfl, ho, hnr⟩ := hrel
    have y0 := hnr.cell x0
    have y1 := hnr.cell x1
    have hz := World.block_lt_of_cell? wr _ y0
    simp only at hz
    by_cases hlt : k < l.length ∧ ¬ k = 50
    · have hdk : decide (k < l.length) = true := decide_eq_true hlt.1
      have hd50 : ((k : Int) == 50) = false := beq_eq_false_iff_ne.2 (by have := hlt.2; omega)
      obtain ⟨b1, o1, rfl, d0, d1⟩ := bg_cell (HC.out.nw (hn.trans hnr)) k hlt.1
      have hkk := hlt.1
      have hk51 : k + 1 ≤ 50 := by have := hlt.2; omega
      have hx : (l.getD k (0, 0)).1 ≤ 65535 := HL.out _ (by rw [List.getD_eq_getElem?_getD, List.getElem?_eq_getElem hlt.1]; exact List.getElem_mem hlt.1)
      have HT := hid (mkW_snoc lo hi l k hlt.1)
      have hso := ((mkW_sm lo hi (l.take k)).mono (n' := 1000000) (m' := 1000000) (by rw [List.length_take]; omega) (by omega))
      clear hlt
      generalize l.getD k (0, 0) = x at *
      obtain ⟨cx, sx⟩ := x
      dsimp only at *
      unfold mk1 at HT
      dsimp only at HT
      have HAD := hid (fun v vs w' (h : Nw wr w') (hv : BkOwn wr w1.heap.size v (mkW lo hi (l.take k))) (hs : Words.Set w' vs [sx]) => radd_w lo hi ((cx : Int) % wide lo hi) v vs _ [sx] w' (hv.bks.nw h) hso hs (by simp))
      generalize mkW lo hi (l.take k) = out at *
      obtain ⟨qo, co, rfl⟩ := ho.shape rfl
      generalize wide lo hi = W at *
      go_upto_region 6 with fail
      generalize hg2 : addP lo hi out ((cx : Int) % W) [sx] = out2 at *
      have hnz := (Nw.refl wr).alloc (.cells #[.int .u16 (cx : Int), .int .u64 (sx.toNat : Int)] 70)
      obtain ⟨z0, z1⟩ := box2 wr (.int .u16 (cx : Int)) (.int .u64 (sx.toNat : Int)) 70
      have y0 := hnz.cell y0
      have y1 := hnz.cell y1
      have HG2 := hid hg2
      clear d0 d1 hg2
      generalize wr.alloc (.cells #[.int .u16 (cx : Int), .int .u64 (sx.toNat : Int)] 70) = wz at *
      have g0 := World.block_lt_of_cell? wz _ y0
      have g1 := World.block_lt_of_cell? wz _ z0
      simp only at g0 g1
      have st10 := SetS.stab [sx]
      have st11 := BkS.stab wz.heap.size out2
      refine wp_region_set rfl (by kernel_rfl) (by kernel_rfl) (by kernel_rfl) (by kernel_rfl) (by kernel_rfl) ?_
      dsimp only [List.dropLast]
      iterate 10
        refine Stairs.is ?_ ?_ ?_
        rotate_left 1
        · intro x wR hR hd K hK
          simp only [Act.put, List.setIfInBounds_toArray, List.set_cons_zero, List.set_cons_succ, Nat.reduceAdd, List.length_nil, List.length_cons, List.nil_append, List.cons_append, Say.ok] at hK ⊢
          clear hd
          change Hid _ at hK
          obtain ⟨hcR, hfR, hzR⟩ := nwc hR
          first | (refine wanted_yes ?_ ?_; rfl) | (refine wanted_no ?_ ?_; rfl)
          go_wp2_with (first 
        | (go_at_call 42; refine (HWD.out _).mono ?_; rintro e w5 ⟨rfl, hn5⟩)
        | (go_at_call 45; have hS : SetS [sx] wR (x 10) := (by clear hK; simp_all); refine (HAD.out _ _ _ (hnz.trans (by repeat (first | assumption | exact Nw.refl _ | refine Nw.alloc ?_ _ | refine Nw.drew ?_ | refine Nw.drewN2 ?_ _ | (refine Nw.trans ?_ (by assumption))))) ho hS.set).mono ?_; rintro e w6 ⟨v6, rfl, ho6, hn6⟩))
          all_goals (refine hK.out _ _ ?_ ?_ <;> first | (solve | (repeat (first | assumption | exact Nw.refl _ | refine Nw.alloc ?_ _ | refine Nw.drew ?_ | refine Nw.drewN2 ?_ _ | (refine Nw.trans ?_ (by assumption))))) | exact rfl | exact ⟨_, _, rfl, one_set _ _⟩ | exact BkOwn.mono ho6 hR.size)
        try simp only [Act.put, List.setIfInBounds_toArray, List.set_cons_zero, List.set_cons_succ, Nat.reduceAdd, List.length_nil, List.length_cons, List.nil_append, List.cons_append]
      iterate 1
        refine Stairs.that (SetS [sx]) (by first | assumption | simp) ?_ ?_
        · intro x wR hR hd K hK
          simp only [Act.put, List.setIfInBounds_toArray, List.set_cons_zero, List.set_cons_succ, Nat.reduceAdd, List.length_nil, List.length_cons, List.nil_append, List.cons_append, Say.ok] at hK ⊢
          clear hd
          change Hid _ at hK
          obtain ⟨hcR, hfR, hzR⟩ := nwc hR
          first | (refine wanted_yes ?_ ?_; rfl) | (refine wanted_no ?_ ?_; rfl)
          go_wp2_with (first 
        | (go_at_call 42; refine (HWD.out _).mono ?_; rintro e w5 ⟨rfl, hn5⟩)
        | (go_at_call 45; have hS : SetS [sx] wR (x 10) := (by clear hK; simp_all); refine (HAD.out _ _ _ (hnz.trans (by repeat (first | assumption | exact Nw.refl _ | refine Nw.alloc ?_ _ | refine Nw.drew ?_ | refine Nw.drewN2 ?_ _ | (refine Nw.trans ?_ (by assumption))))) ho hS.set).mono ?_; rintro e w6 ⟨v6, rfl, ho6, hn6⟩))
          all_goals (refine hK.out _ _ ?_ ?_ <;> first | (solve | (repeat (first | assumption | exact Nw.refl _ | refine Nw.alloc ?_ _ | refine Nw.drew ?_ | refine Nw.drewN2 ?_ _ | (refine Nw.trans ?_ (by assumption))))) | exact rfl | exact ⟨_, _, rfl, one_set _ _⟩ | exact BkOwn.mono ho6 hR.size)
        try simp only [Act.put, List.setIfInBounds_toArray, List.set_cons_zero, List.set_cons_succ, Nat.reduceAdd, List.length_nil, List.length_cons, List.nil_append, List.cons_append]
      iterate 1
        refine Stairs.that (BkS wz.heap.size out2) (by first | assumption | simp) ?_ ?_
        · intro x wR hR hd K hK
          simp only [Act.put, List.setIfInBounds_toArray, List.set_cons_zero, List.set_cons_succ, Nat.reduceAdd, List.length_nil, List.length_cons, List.nil_append, List.cons_append, Say.ok] at hK ⊢
          try simp [Region.binds, sayAt, List.getD_cons_zero, List.getD_cons_succ, Say.ok, Vl] at hd
          change Hid _ at hK
          obtain ⟨hcR, hfR, hzR⟩ := nwc hR
          first | (refine wanted_yes ?_ ?_; rfl) | (refine wanted_no ?_ ?_; rfl)
          go_wp2_with (first 
        | (go_at_call 42; refine (HWD.out _).mono ?_; rintro e w5 ⟨rfl, hn5⟩)
        | (go_at_call 45; have hS : SetS [sx] wR (x 10) := (by clear hK; simp_all); refine (HAD.out _ _ _ (hnz.trans (by repeat (first | assumption | exact Nw.refl _ | refine Nw.alloc ?_ _ | refine Nw.drew ?_ | refine Nw.drewN2 ?_ _ | (refine Nw.trans ?_ (by assumption))))) ho hS.set).mono ?_; rintro e w6 ⟨v6, rfl, ho6, hn6⟩))
          all_goals (refine hK.out _ _ ?_ ?_ <;> first | (solve | (repeat (first | assumption | exact Nw.refl _ | refine Nw.alloc ?_ _ | refine Nw.drew ?_ | refine Nw.drewN2 ?_ _ | (refine Nw.trans ?_ (by assumption))))) | exact rfl | exact ⟨_, _, rfl, one_set _ _⟩ | exact BkOwn.mono ho6 hR.size)
        try simp only [Act.put, List.setIfInBounds_toArray, List.set_cons_zero, List.set_cons_succ, Nat.reduceAdd, List.length_nil, List.length_cons, List.nil_append, List.cons_append]
      refine Stairs.nil ?_
      intro x wR hR hx
      have h10 := hx 10 (by decide)
      simp only [sayAt, List.getD_cons_zero, List.getD_cons_succ, Say.ok, Vl] at h10
      have h11 := hx 11 (by decide)
      simp only [sayAt, List.getD_cons_zero, List.getD_cons_succ, Say.ok, Vl] at h11
      clear hx
      obtain ⟨hcR, hfR, hzR⟩ := nwc hR
      try dsimp only
      go_wp2
      go_roundw
      case rel => exact ⟨k + 1, by omega, by omega, by go_num, by rw [HT.out]; exact BkOwn.mono h11 (Nat.le_trans hnr.size hnz.size), hnr.trans (hnz.trans hR)⟩
      case measure => simp [intOf]; omega
    · have HT := hid (show mkW lo hi (l.take k) = mkW lo hi (l.take 50) by
        rcases (show k = l.length ∨ k = 50 by omega) with rfl | rfl
        · rw [List.take_length, List.take_of_length_le hk50]
        · rfl)
      rw [HT.out] at ho
      rcases (show k = l.length ∨ (k < l.length ∧ k = 50) by omega) with rfl | ⟨hkl, rfl⟩
      · have hdk : decide (l.length < l.length) = false := decide_eq_false (by omega)
        clear hlt
        go_wp2
        go_ret
        exact ⟨_, rfl, ho.mono hn.size, hn.trans hnr⟩
      · have hdk : decide (50 < l.length) = true := decide_eq_true hkl
        have hdk2 : decide ((50 : Int) < l.length) = true := decide_eq_true (by omega)
        obtain ⟨b1, o1, rfl, d0, d1⟩ := bg_cell (HC.out.nw (hn.trans hnr)) 50 hkl
        clear hlt
        go_wp2
        go_ret
        exact ⟨_, rfl, (ho.nw ((Nw.refl wr).alloc _)).mono hn.size, (hn.trans hnr).alloc _⟩
end Wn
end Go.Proofs.Ythellicimicieaa
