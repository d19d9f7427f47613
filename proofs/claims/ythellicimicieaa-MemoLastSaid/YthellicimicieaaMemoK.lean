/- The laws' awake of layer 21; MemoNil walked. No condition. -/
import Derived.Test.YthellicimicieaaMemoJ
set_option linter.unusedSimpArgs false
set_option linter.unusedVariables false
namespace Go.Proofs.Ythellicimicieaa
open Go.ChangeShapes Go.WideShapes Go.ChangeAt Go.RowKit
namespace Mm
open Go.Proofs.Ythellicimicieaa.Words (Wd wd trim Set ws ws_one ws_length same same_c samewords_c rtrim_c HandsW)
theorem one_set (w : World) (n : Nat) (z : Int) (hz : z = (n : Int)) (h : n < 18446744073709551616) (t : TypeId) : Set (w.alloc (.cells #[.int .u64 z] t)) (.slice (some ⟨w.heap.size, 0, none⟩) 1 1) [w_ n] := by
  have := Sl.new w (ws [w_ n]) t (0, 0) (by simp [ws, maxLen])
  have e : ws [w_ n] = [.int .u64 z] := by
    show [Value.int .u64 ((w_ n).toNat : Int)] = _
    rw [w_nat h, hz]
  unfold Words.Set
  rw [e] at this ⊢
  exact this
theorem hands_open {x : (List Wd × Bool) × Bool} {en : Ending} {w : World} {l : List Wd} {e o : Bool} (h : HandsM x en w) (hx : x = ((l, e), o)) : ∃ p c, en = .returned (.tuple #[.agg #[.slice p l.length c, .bool e], .bool o]) ∧ Set w (.slice p l.length c) l := by
  subst hx
  obtain ⟨u, rfl, hs⟩ := h
  obtain ⟨p, c, rfl, _⟩ := id hs.open
  exact ⟨p, c, rfl, hs⟩
def aw0 : Me := ⟨1, [], 0⟩
def aw1 : Me := putM aw0 [w_ 1] [] [] true
def aw2 : Me := putM aw1 [w_ 2] [] [w_ 4] false
def aw3 : Me := getM aw2 [w_ 1] []
def aw4 : Me := getM aw3 [w_ 2] []
theorem aw_a : getP aw2 [w_ 1] [] = (([], false), false) := by decide +kernel
theorem aw_b : getP aw3 [w_ 2] [] = (([w_ 4], false), true) := by decide +kernel
theorem aw_c : aw4.l.length = 1 := by decide +kernel
theorem aw_d : cells aw4.l = 3 := by decide +kernel
set_option maxRecDepth 20000 in
set_option maxHeartbeats 1600000 in
theorem awake_c (w : World) : Calls Try.prog 20 #[] w (Gives (.bool true) w) := by
  have HN := hid (new_st w w 1 (Nw.refl w))
  go_enter Try.func20, Try.ntmps20
  go_upto_region 2 with (first
    | (go_at_call 21; refine HN.out.mono ?_; rintro en w1 ⟨a, rfl, hs1⟩)
    | fail)
  change St w a aw0 w1 at hs1
  have n1 := (Nw.refl w1).alloc (.cells #[.int .u64 1] 24)
  have HP1 := hid (put_st _ _ _ _ _ _ true (hs1.nw n1) (one_set w1 1 1 rfl (by decide) 24) (Set.nil _) (Set.nil _) (by simp) (by simp) (by simp))
  go_upto_region 5 with (first
    | (go_at_call 24; refine HP1.out.mono ?_; rintro en w2 ⟨rfl, hs2⟩)
    | fail)
  change St w a aw1 w2 at hs2
  have n2 := (Nw.refl w2).alloc (.cells #[.int .u64 2] 24)
  have g2 : (w2.alloc (.cells #[.int .u64 2] 24)).heap.size = w2.heap.size + 1 := by show (w2.heap.push _).size = _; rw [Array.size_push]
  have k2 := one_set w2 2 2 rfl (by decide) 24
  have k3 := one_set (w2.alloc (.cells #[.int .u64 2] 24)) 4 4 rfl (by decide) 24
  rw [g2] at k3
  have n3 := (Nw.refl (w2.alloc (.cells #[.int .u64 2] 24))).alloc (.cells #[.int .u64 4] 24)
  have HP2 := hid (put_st _ _ _ _ _ _ false ((hs2.nw n2).nw n3) (k2.nw n3) (Set.nil _) k3 (by simp) (by simp) (by simp))
  clear k2 k3 n2 n3 g2 n1
  go_upto_region 6 with (first
    | (go_at_call 24; refine HP2.out.mono ?_; rintro en w3 ⟨rfl, hs3⟩)
    | fail)
  change St w a aw2 w3 at hs3
  have HG1 := hid (get_st _ _ _ _ (hs3.nw ((Nw.refl w3).alloc (.cells #[.int .u64 1] 24))) (one_set w3 1 1 rfl (by decide) 24) (Set.nil _))
  go_upto_region 7 with (first
    | (go_at_call 25; refine HG1.out.mono ?_; rintro en w4 ⟨h4, hs4⟩; obtain ⟨q4, c4, rfl, _⟩ := hands_open h4 aw_a)
    | fail)
  change St w a aw3 w4 at hs4
  clear HG1 h4
  have n5 := (Nw.refl w4).alloc (.cells #[.slice q4 0 c4, .bool false] 47)
  replace hs4 := hs4.nw n5
  clear n5
  change Code.wp _ _ _ _ (w4.alloc (.cells #[.slice q4 0 c4, .bool false] 47))
  generalize w4.alloc (.cells #[.slice q4 0 c4, .bool false] 47) = w5 at *
  have HG2 := hid (get_st _ _ _ _ (hs4.nw ((Nw.refl w5).alloc (.cells #[.int .u64 2] 24))) (one_set w5 2 2 rfl (by decide) 24) (Set.nil _))
  go_upto_region 8 with (first
    | (go_at_call 25; refine HG2.out.mono ?_; rintro en w6 ⟨h6, hs6⟩; obtain ⟨q6, c6, rfl, hq6⟩ := hands_open h6 aw_b)
    | fail)
  change St w a aw4 w6 at hs6
  change Set w6 (.slice q6 1 c6) [w_ 4] at hq6
  clear HG2 h6
  have n7 := (Nw.refl w6).alloc (.cells #[.slice q6 1 c6, .bool false] 47)
  have y7 := heap_new w6 (.cells #[.slice q6 1 c6, .bool false] 47)
  have x0 := heap_cell y7 0
  have x1 := heap_cell y7 1
  have g7 := lt_of_heap y7
  simp only [List.getElem?_toArray, List.getElem?_cons_succ, List.getElem?_cons_zero] at x0 x1
  replace hs6 := hs6.nw n7
  replace hq6 := hq6.nw n7
  clear n7 y7
  change Code.wp _ _ _ _ (w6.alloc (.cells #[.slice q6 1 c6, .bool false] 47))
  generalize w6.alloc (.cells #[.slice q6 1 c6, .bool false] 47) = w7 at *
  generalize w6.heap.size = g6 at *
  have n8 := (Nw.refl w7).alloc (.cells #[.int .u64 4] 24)
  have HSW := hid (samewords_c _ _ _ _ _ (hq6.nw n8) (one_set w7 4 4 rfl (by decide) 24))
  rw [decide_eq_true rfl] at HSW
  have x1a := n8.cell x1
  have HLN := hid (fun w' (h : Nw w7 w') => len_st (hs6.nw h))
  have HCE := hid (fun w' (h : Nw w7 w') => cells_st (hs6.nw h))
  rw [aw_c] at HLN
  rw [aw_d] at HCE
  clear hq6
  go_wp2_with (first
    | (go_at_call 26; refine HSW.out.mono ?_; rintro en w8 ⟨rfl, hn8⟩; have x1b := hn8.cell x1a; have g8 := Nat.lt_of_lt_of_le (Nat.lt_of_lt_of_le g7 n8.size) hn8.size; have hn8' := n8.trans hn8)
    | (go_at_call 28; refine (HLN.out _ hn8').mono ?_; rintro en w9 ⟨rfl, hn9⟩; have hn9' := hn8'.trans hn9)
    | (go_at_call 30; refine (HCE.out _ hn9').mono ?_; rintro en w10 ⟨rfl, hn10⟩)
    | fail)
  go_ret
  exact Gives.b rfl (hs6.base.trans (hn9'.trans hn10))
/-! ### A memory that is none -/
set_option maxRecDepth 20000 in
theorem put_nil (us uv ux : Value) (s v x : List Wd) (e : Bool) (w : World) (k1 : Set w us s) (k2 : Set w uv v) (k3 : Set w ux x) :
    Calls Try.prog 24 #[.pointer none, us, uv, .agg #[ux, .bool e]] w fun en w' => en = .returned (.tuple #[]) ∧ Nw w w' := by
  obtain ⟨p1, c1v, rfl, _⟩ := k1.open
  obtain ⟨p2, c2v, rfl, _⟩ := k2.open
  obtain ⟨p3, c3v, rfl, _⟩ := k3.open
  go_enter Try.func24, Try.ntmps24
  go_wp2
  ((try simp only [Exit.inBlock, Exit.then]); refine bodyPost_ret (results_none rfl _ _ _) rfl ?_)
  exact ⟨rfl, (Nw.refl w).alloc _⟩
set_option maxRecDepth 20000 in
theorem get_nil (us uv : Value) (s v : List Wd) (w : World) (k1 : Set w us s) (k2 : Set w uv v) :
    Calls Try.prog 25 #[.pointer none, us, uv] w fun en w' => en = .returned (.tuple #[.agg #[.slice none 0 0, .bool false], .bool false]) ∧ Nw w w' := by
  obtain ⟨p1, c1v, rfl, _⟩ := k1.open
  obtain ⟨p2, c2v, rfl, _⟩ := k2.open
  go_enter Try.func25, Try.ntmps25
  go_upto_region 1 with fail
  have y6 := heap_new w (.cells #[.slice none 0 0, .bool false] 47)
  have hnA := (Nw.refl w).alloc (.cells #[.slice none 0 0, .bool false] 47)
  generalize w.alloc (.cells #[.slice none 0 0, .bool false] 47) = w0 at *
  have b0 := heap_cell y6 0
  have b1 := heap_cell y6 1
  have f0 := heap_frozen y6 0
  have f1 := heap_frozen y6 1
  have gb := lt_of_heap y6
  simp only [List.getElem?_toArray, List.getElem?_cons_succ, List.getElem?_cons_zero] at b0 b1
  go_wp2
  ((try simp only [Exit.inBlock, Exit.then]); refine bodyPost_ret (results_cell2 rfl _ _ _ _ _ _ _ rfl (heap_set (heap_set y6 0 (.slice none 0 0)) 1 (.bool false)) Try.underlying47 rfl (by kernel_rfl)) rfl ?_)
  exact ⟨rfl, hnA.ofMods (mods_box2 w0 w.heap.size _ _) (fun k e => by omega)⟩
set_option maxRecDepth 20000 in
theorem len_nil (w : World) : Calls Try.prog 28 #[.pointer none] w (Gives (.int .i64 0) w) := by
  go_enter Try.func28, Try.ntmps28
  go_wp2
  go_ret
  exact ⟨rfl, Nw.refl _⟩
set_option maxRecDepth 20000 in
theorem cells_nil (w : World) : Calls Try.prog 30 #[.pointer none] w (Gives (.int .i64 0) w) := by
  go_enter Try.func30, Try.ntmps30
  go_wp2
  go_ret
  exact ⟨rfl, Nw.refl _⟩
set_option maxRecDepth 20000 in
theorem copy_nil (w : World) : Calls Try.prog 29 #[.pointer none] w (Gives (.pointer none) w) := by
  go_enter Try.func29, Try.ntmps29
  go_wp2
  go_ret
  exact ⟨rfl, Nw.refl _⟩
set_option maxRecDepth 20000 in
set_option maxHeartbeats 1600000 in
theorem nil_walk (us uv : Value) (s v : List Wd) (e : Bool) (w : World) (k1 : Set w us s) (k2 : Set w uv v) : Calls Try.prog 9 #[us, uv, .bool e] w fun en w' => en = .returned (.bool true) ∧ Nw w w' := by
  have HP := hid (put_nil us uv (.slice none 0 0) s v [] e w k1 k2 (Set.nil w))
  have HG := hid (fun w' (h : Nw w w') => get_nil us uv s v w' (k1.nw h) (k2.nw h))
  obtain ⟨p1, c1v, rfl, _⟩ := k1.open
  obtain ⟨p2, c2v, rfl, _⟩ := k2.open
  clear k1 k2
  go_enter Try.func9, Try.ntmps9
  go_upto_region 3 with (first
    | (go_at_call 24; refine HP.out.mono ?_; rintro en w1 ⟨rfl, hn1⟩)
    | fail)
  go_upto_region 4 with (first
    | (go_at_call 25; refine (HG.out _ hn1).mono ?_; rintro en w2 ⟨rfl, hn2⟩)
    | fail)
  have y7 := heap_new w2 (.cells #[.slice none 0 0, .bool false] 47)
  have n7 := (Nw.refl w2).alloc (.cells #[.slice none 0 0, .bool false] 47)
  have x0 := heap_cell y7 0
  have x1 := heap_cell y7 1
  have g7 := lt_of_heap y7
  simp only [List.getElem?_toArray, List.getElem?_cons_succ, List.getElem?_cons_zero] at x0 x1
  have hn3 := (hn1.trans hn2).trans n7
  clear n7 y7
  generalize w2.alloc (.cells #[.slice none 0 0, .bool false] 47) = w3 at *
  go_wp2_with (first
    | (go_at_call 28; refine (len_nil _).mono ?_; rintro en w4 ⟨rfl, hn4⟩)
    | (go_at_call 30; refine (cells_nil _).mono ?_; rintro en w5 ⟨rfl, hn5⟩)
    | (go_at_call 29; refine (copy_nil _).mono ?_; rintro en w6 ⟨rfl, hn6⟩)
    | (go_at_call 20; refine (awake_c _).mono ?_; rintro en w8 ⟨rfl, hn8⟩)
    | fail)
  go_ret
  exact ⟨rfl, hn3.trans (hn4.trans (hn5.trans (hn6.trans hn8)))⟩
end Mm
end Go.Proofs.Ythellicimicieaa
