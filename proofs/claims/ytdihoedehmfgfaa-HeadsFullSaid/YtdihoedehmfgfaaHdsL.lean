/- The laws' awake of layer 13; HeadsNil walked. No condition. -/
import Derived.Test.YtdihoedehmfgfaaHdsK
import Derived.Test.YtdihoedehmfgfaaLogC
set_option linter.unusedSimpArgs false
set_option linter.unusedVariables false
namespace Go.Proofs.Ytdihoedehmfgfaa
open Go.ChangeShapes Go.WideShapes Go.ChangeAt Go.RowKit
namespace Hp
open Go.Proofs.Ytdihoedehmfgfaa.Rec (none_ get i64s_open)
open Go.Proofs.Ytdihoedehmfgfaa.Sc (recP SI Ok miss)
open Go.Proofs.Ytdihoedehmfgfaa.Sum (Hands8)
open Go.Proofs.Ytdihoedehmfgfaa.Tr (T Es Evs EC Small box2 lt_alloc same_c)
open Go.Proofs.Ytdihoedehmfgfaa.Lg (Hd headR encP encode_c)
open Go.Proofs.Ytdihoedehmfgfaa.Src (rt)
def ez : T := ⟨[], []⟩
def ezB : List UInt8 := encP ez
theorem ez_small : Small ez := ⟨by decide, by decide, (fun i hi => by cases hi), (fun s hs => by cases hs)⟩
theorem ez_len : ezB.length = 9 := by decide +kernel
theorem ez_head : headR ezB 5 = ([], 9, 0) := by decide +kernel
theorem ez_rt : rt ezB.length (-1) = 9 := by rw [ez_len]; rfl
theorem ez_evs (w : World) : Evs w (.slice none 0 0) ez.evs := ⟨_, _, rfl, by decide, by decide, (fun _ => rfl), fun i hi => by cases hi⟩
set_option maxRecDepth 20000 in
set_option maxHeartbeats 1600000 in
theorem awake_c (w : World) : Calls Try.prog 33 #[] w (Gives (.bool true) w) := by
  have HEN := hid (show Calls Try.prog 20 #[.agg #[.slice none 0 0, .slice none 0 0]] w (Hands8 w ezB) from encode_c _ _ ez w (Sl.nil w) (ez_evs w) ez_small (by decide) (fun i hi => by cases hi))
  have HNE := hid (fun (v : Value) w' (hv : Bytes w' v ezB) => show Calls Try.prog 25 #[v, .slice none 0 0, .int .i64 (-1), .int .i64 1] w' (Made w' ezB [] 9 [] 9 1) by
    have := poolnew_c v (.slice none 0 0) ezB [] (-1) 1 w' hv (Sl.nil w') (by rw [ez_len]; decide) (by decide) (by decide)
    rw [ez_rt] at this
    refine this.mono fun e w1 h => ?_
    unfold NewO at h
    rw [if_neg (by decide), List.take_of_length_le (by rw [ez_len]; decide), show miss ezB 9 = 5 by unfold miss; rw [ez_len]; rfl, ez_head] at h
    exact h)
  have HL := hid ez_len
  generalize ezB = Bt at *
  go_enter Try.func33, Try.ntmps33
  go_upto_region 2 with (first
    | (go_at_call 20; refine HEN.out.mono ?_; rintro e' w1 ⟨v1, rfl, hown1, hn1⟩; obtain ⟨p1, c1, rfl, _⟩ := hown1.sl.open (n := 9) ((u8s_length _).trans HL.out))
    | (go_at_call 25; refine (HNE.out _ _ hown1.sl).mono ?_; rintro e' w2 hmk; obtain ⟨c, rfl, hst, _, _, _, _, cf, cs⟩ := made_st hmk)
    | fail)
  have h1 := hid (hst.open (by decide) (hs' := [some (hs0 c.first)]) (peak' := 3) (id := 0) (er := 0) (by rw [cs]; rfl))
  clear hmk hst HNE HEN hown1
  go_upto_region 5 with (first
    | (go_at_call 26; refine h1.out.mono ?_; rintro e' w3 ⟨rfl, hst⟩)
    | fail)
  have h2 := hid (hst.open (by simp) (hs' := [some (hs0 c.first)]) (peak' := 3) (id := 0) (er := 12) (by rw [cs]; rfl))
  clear hst h1
  go_upto_region 6 with (first
    | (go_at_call 26; refine h2.out.mono ?_; rintro e' w4 ⟨rfl, hst⟩)
    | fail)
  have h3 := hid (hst.count (q := 1) rfl)
  have h4 := hid (hst.cells (by simp) (q := 3) rfl)
  have h5 := hid (hst.close (j := 0) (hs' := [none]) (q := true) rfl)
  clear h2 hst
  go_wp2_with (first
    | (go_at_call 29; refine h3.out.mono ?_; rintro e' w5 ⟨rfl, rfl⟩)
    | (go_at_call 30; refine h4.out.mono ?_; rintro e' w5 ⟨rfl, rfl⟩)
    | (go_at_call 27; refine h5.out.mono ?_; rintro e' w6 ⟨rfl, hst⟩)
    | (go_at_call 32; refine hst.peaks.mono ?_; rintro e' w5 ⟨rfl, rfl⟩)
    | fail)
  go_ret
  exact Gives.b rfl (hn1.trans hst.base)
/-! ### A pool that is none -/
section
variable (w : World)
set_option maxRecDepth 20000 in
theorem nil_open : Calls Try.prog 26 #[.pointer none] w fun e w' => e = .returned (.tuple #[.int .i64 0, .int .i64 1]) ∧ w = w' := by
  go_enter Try.func26, Try.ntmps26
  go_wp2
  go_ret2
  exact ⟨rfl, rfl⟩

set_option maxRecDepth 20000 in
theorem nil_names : Calls Try.prog 39 #[.pointer none] w fun e w' => e = .returned (.slice none 0 0) ∧ w = w' := by
  go_enter Try.func39, Try.ntmps39
  go_wp2
  go_ret
  exact ⟨rfl, rfl⟩

set_option maxRecDepth 20000 in
theorem nil_count : Calls Try.prog 29 #[.pointer none] w fun e w' => e = .returned (.int .i64 0) ∧ w = w' := by
  go_enter Try.func29, Try.ntmps29
  go_wp2
  go_ret
  exact ⟨rfl, rfl⟩

set_option maxRecDepth 20000 in
theorem nil_cells : Calls Try.prog 30 #[.pointer none] w fun e w' => e = .returned (.int .i64 0) ∧ w = w' := by
  go_enter Try.func30, Try.ntmps30
  go_wp2
  go_ret
  exact ⟨rfl, rfl⟩

set_option maxRecDepth 20000 in
theorem nil_peak : Calls Try.prog 32 #[.pointer none] w fun e w' => e = .returned (.int .i64 0) ∧ w = w' := by
  go_enter Try.func32, Try.ntmps32
  go_wp2
  go_ret
  exact ⟨rfl, rfl⟩

set_option maxRecDepth 20000 in
theorem nil_find (id : Int) : Calls Try.prog 63 #[.pointer none, .int .i64 id] w fun e w' => e = .returned (.tuple #[.pointer none, .int .i64 1]) ∧ w = w' := by
  go_enter Try.func63, Try.ntmps63
  go_wp2
  go_ret2
  exact ⟨rfl, rfl⟩

set_option maxRecDepth 20000 in
theorem nil_clone (id : Int) : Calls Try.prog 28 #[.pointer none, .int .i64 id] w fun e w' => e = .returned (.tuple #[.int .i64 0, .int .i64 1]) ∧ w = w' := by
  have HF := hid (nil_find w id)
  go_enter Try.func28, Try.ntmps28
  go_wp2_with (first
    | (go_at_call 63; refine HF.out.mono ?_; rintro e' w5 ⟨rfl, rfl⟩)
    | fail)
  go_ret2
  exact ⟨rfl, rfl⟩

set_option maxRecDepth 20000 in
theorem nil_index (id : Int) : Calls Try.prog 31 #[.pointer none, .int .i64 id] w fun e w' => e = .returned (.tuple #[.int .i64 0, .bool false]) ∧ w = w' := by
  have HF := hid (nil_find w id)
  go_enter Try.func31, Try.ntmps31
  go_wp2_with (first
    | (go_at_call 63; refine HF.out.mono ?_; rintro e' w5 ⟨rfl, rfl⟩)
    | fail)
  go_ret2
  exact ⟨rfl, rfl⟩

set_option maxRecDepth 20000 in
theorem nil_close (id : Int) : Calls Try.prog 27 #[.pointer none, .int .i64 id] w fun e w' => e = .returned (.bool false) ∧ w = w' := by
  have HF := hid (nil_find w id)
  go_enter Try.func27, Try.ntmps27
  go_wp2_with (first
    | (go_at_call 63; refine HF.out.mono ?_; rintro e' w5 ⟨rfl, rfl⟩)
    | fail)
  go_ret
  exact ⟨rfl, rfl⟩

set_option maxRecDepth 20000 in
theorem nil_seek (id k : Int) : Calls Try.prog 37 #[.pointer none, .int .i64 id, .int .i64 k] w fun e w' => e = .returned (.int .i64 1) ∧ w = w' := by
  have HF := hid (nil_find w id)
  go_enter Try.func37, Try.ntmps37
  go_wp2_with (first
    | (go_at_call 63; refine HF.out.mono ?_; rintro e' w5 ⟨rfl, rfl⟩)
    | fail)
  go_ret
  exact ⟨rfl, rfl⟩
theorem results_cell2 {P : Program} {fn : Func} {p u : Tmp} {ty : TypeId} (h : fn.results = #[.cell p ty, .tmp u]) (tmps : Array Value) (w : World) (g : Nat) (t : TypeId) (cs : Array Value) (fr : Nat × Nat) (d : TypeDesc)
    (hp : tmps.getD p undef = .pointer (some ⟨g, 0, none⟩)) (hg : w.heap[g]? = some (.cells cs t fr))
    (hu : P.underlying ty = some d) (hd : (match d with | .struct _ | .array _ _ => true | _ => false) = true) (hi : (P.info? ty).map (·.size) = some cs.size) :
    (results fn tmps).run P w = .ok (.tuple #[.agg cs, tmps.getD u undef]) w := by
  have hp' : tmps[p]?.getD undef = .pointer (some ⟨g, 0, none⟩) := by simpa using hp
  simp [results, h, hp', asAddr, run_loadVar_row w g t ty cs fr d hg hu hd hi]
set_option maxRecDepth 20000 in
theorem nil_next (id : Int) : Calls Try.prog 36 #[.pointer none, .int .i64 id] w fun e w' => e = .returned (.tuple #[.agg #[.int .u64 0, .slice none 0 0], .int .i64 1]) ∧ Nw w w' := by
  go_enter Try.func36, Try.ntmps36
  go_upto_region 1 with fail
  have y2 := heap_new w (.cells #[.int .u64 0, .slice none 0 0] 38)
  have hn := (Nw.refl w).alloc (.cells #[.int .u64 0, .slice none 0 0] 38)
  generalize w.alloc (.cells #[.int .u64 0, .slice none 0 0] 38) = wE at *
  have HF := hid (nil_find wE id)
  have d0 := heap_cell y2 0
  have d1 := heap_cell y2 1
  have f0 := heap_frozen y2 0
  have f1 := heap_frozen y2 1
  have g2 := lt_of_heap y2
  simp only [List.getElem?_toArray, List.getElem?_cons_succ, List.getElem?_cons_zero] at d0 d1
  obtain ⟨gE, hge⟩ : ∃ gE, gE = w.heap.size := ⟨_, rfl⟩
  rw [← hge] at y2 d0 d1 f0 f1 g2
  rw [← hge]
  have HG := hid hge
  clear hge
  go_wp2_with (first
    | (go_at_call 63; refine HF.out.mono ?_; rintro e' w5 ⟨rfl, rfl⟩)
    | fail)
  ((try simp only [Exit.inBlock, Exit.then]); refine bodyPost_ret (results_cell2 rfl _ _ _ _ _ _ _ rfl (heap_set (heap_set y2 0 (.int .u64 0)) 1 (.slice none 0 0)) Try.underlying38 rfl (by kernel_rfl)) rfl ?_)
  exact ⟨rfl, (hn.setCell (p := ⟨gE, 0, none⟩) (by rw [HG.out]; exact Nat.le_refl _) _).setCell (p := ⟨gE, 1, none⟩) (by rw [HG.out]; exact Nat.le_refl _) _⟩
end
set_option maxRecDepth 20000 in
set_option maxHeartbeats 1600000 in
theorem nil_walk (id k : Int) (w : World) : Calls Try.prog 13 #[.int .i64 id, .int .i64 k] w fun e w' => e = .returned (.bool true) ∧ Nw w w' := by
  go_enter Try.func13, Try.ntmps13
  go_upto_region 5 with (first
    | (go_at_call 26; refine (nil_open _).mono ?_; rintro e' w5 ⟨rfl, rfl⟩)
    | (go_at_call 28; refine (nil_clone _ _).mono ?_; rintro e' w5 ⟨rfl, rfl⟩)
    | (go_at_call 36; refine (nil_next _ _).mono ?_; rintro e' w1 ⟨rfl, hn1⟩)
    | fail)
  obtain ⟨x0, x1⟩ := box2 w1 (.int .u64 0) (.slice none 0 0) 38
  have hn2 := hn1.alloc (.cells #[.int .u64 0, .slice none 0 0] 38)
  have g2 := lt_alloc w1 (.cells #[.int .u64 0, .slice none 0 0] 38)
  generalize w1.alloc (.cells #[.int .u64 0, .slice none 0 0] 38) = w2 at *
  have HSM := hid (show Calls Try.prog 24 #[.agg #[.int .u64 0, .slice none 0 0], .agg #[.int .u64 0, .slice none 0 0]] w2 (Gives (.bool true) w2) by
    have := same_c (.slice none 0 0) (.slice none 0 0) 0 0 [] [] w2 (Sl.nil w2) (Sl.nil w2)
    rwa [decide_eq_true ⟨rfl, rfl⟩] at this)
  go_wp2_with (first
    | (go_at_call 31; refine (nil_index _ _).mono ?_; rintro e' w5 ⟨rfl, rfl⟩)
    | (go_at_call 39; refine (nil_names _).mono ?_; rintro e' w5 ⟨rfl, rfl⟩)
    | (go_at_call 24; refine HSM.out.mono ?_; rintro e' w6 ⟨rfl, hn6⟩)
    | (go_at_call 37; refine (nil_seek _ _ _).mono ?_; rintro e' w5 ⟨rfl, rfl⟩)
    | (go_at_call 27; refine (nil_close _ _).mono ?_; rintro e' w5 ⟨rfl, rfl⟩)
    | (go_at_call 29; refine (nil_count _).mono ?_; rintro e' w5 ⟨rfl, rfl⟩)
    | (go_at_call 30; refine (nil_cells _).mono ?_; rintro e' w5 ⟨rfl, rfl⟩)
    | (go_at_call 32; refine (nil_peak _).mono ?_; rintro e' w5 ⟨rfl, rfl⟩)
    | (go_at_call 33; refine (awake_c _).mono ?_; rintro e' w8 ⟨rfl, hn8⟩)
    | fail)
  go_ret
  exact ⟨rfl, (by repeat (first | assumption | exact Nw.refl _ | refine Nw.alloc ?_ _ | refine Nw.drew ?_ | refine Nw.drewN2 ?_ _ | (refine Nw.trans ?_ (by assumption))))⟩
end Hp
end Go.Proofs.Ytdihoedehmfgfaa
