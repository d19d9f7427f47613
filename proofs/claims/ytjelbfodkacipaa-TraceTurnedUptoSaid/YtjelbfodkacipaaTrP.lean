/- The contract of Add where the trace may be and the event fits; copied, its events' row owned. No condition but lengths. -/
import Derived.Test.YtjelbfodkacipaaJTs
set_option linter.unusedSimpArgs false
set_option linter.unusedVariables false
namespace Go.Proofs.Ytjelbfodkacipaa
open Go.ChangeShapes Go.WideShapes Go.ChangeAt Go.RowKit
namespace Tr
open Go.Proofs.Ytjelbfodkacipaa.Lx (isIn nameB strs_open strs_cell contains_c)
open Go.Proofs.Ytjelbfodkacipaa.Rec (rises i64s_open i64_cell)
theorem EvOwn.mono {w : World} {B B' : Nat} {v : Value} {es : Es} (h : EvOwn w B v es) (hb : B' ≤ B) : EvOwn w B' v es := by
  obtain ⟨vs, h1, h2, h3⟩ := h
  refine ⟨vs, h1, ⟨h2.1, ?_⟩, h3⟩
  rcases h2.2 with h4 | ⟨g, cap, cur, hv, hg, hh, r⟩
  · exact Or.inl h4
  · exact Or.inr ⟨g, cap, cur, hv, by omega, hh, r⟩
/-- A call hands back a trace whose events' row is the caller's. -/
def HandsO (w : World) (t : T) (e : Ending) (w' : World) : Prop :=
  ∃ vn ve, e = .returned (.agg #[vn, ve]) ∧ Sl w' vn (Lx.strs t.names) ∧ EvOwn w' w.heap.size ve t.evs ∧ (∀ k, vn.ownBlock = some k → ve.ownBlock ≠ some k) ∧ Nw w w'
set_option maxRecDepth 20000 in
set_option maxHeartbeats 1600000 in
theorem copied_o (vn ve : Value) (t : T) (n : Nat) (w : World) (hvn : Sl w vn (Lx.strs t.names)) (hve : Evs w ve t.evs) (hnl : n ≤ t.evs.length) (hsm : Small t) :
    Calls Try.prog 49 #[.agg #[vn, ve], .int .i64 (n : Int)] w (HandsO w ⟨t.names, t.evs.take n⟩) := by
  obtain ⟨names, es⟩ := t
  obtain ⟨sm1, sm2, sm3, sm4⟩ := hsm
  dsimp only at hvn hve hnl sm1 sm2 sm3 sm4 ⊢
  obtain ⟨pn, capn, rfl, hcapn, hmxn, _, hcn⟩ := strs_open hvn
  obtain ⟨p, cap, rfl, hcap, hmx, hp0, hec⟩ := hve
  unfold maxLen at hmx hmxn
  have HE := hid hec
  have HI := hid sm3
  clear hec hcn sm3 sm4
  go_enter Try.func49, Try.ntmps49
  go_upto_region 1 with fail
  obtain ⟨x0, x1, y4, hn, hz4⟩ := boxes w (.slice pn names.length capn) (.slice p es.length cap) (.slice none 0 0) (.slice none 0 0) 26 26
  generalize ((w.alloc (.cells #[.slice pn names.length capn, .slice p es.length cap] 26)).alloc (.cells #[.slice none 0 0, .slice none 0 0] 26)) = w0 at *
  have hz0 : w.heap.size < w0.heap.size := by omega
  go_wp2_with (first
    | (go_at_call 73; refine (clones_c _ _ _ (hvn.nw (by repeat (first | assumption | exact Nw.refl _ | refine Nw.alloc ?_ _ | refine Nw.drew ?_ | refine Nw.drewN2 ?_ _ | (refine Nw.trans ?_ (by assumption))))) (strs_one _) (by rw [Lx.strs_length]; omega)).mono ?_; rintro e w1 ⟨v1, rfl, hown1, hn1⟩; obtain ⟨q1, c1, rfl⟩ := strs_shape hown1; have x1 := hn1.cell x1; have hz1 : w.heap.size < w1.heap.size := Nat.lt_of_lt_of_le hz0 hn1.size)
    | fail)
  have x1w := x1
  have y5 := heap_new w1 (.cells #[.slice q1 names.length c1, .slice none 0 0] 26)
  have hnL : Nw w0 (w1.alloc (.cells #[.slice q1 names.length c1, .slice none 0 0] 26)) := hn1.alloc _
  have s1 := hown1.sl.nw ((Nw.refl w1).alloc (.cells #[.slice q1 names.length c1, .slice none 0 0] 26))
  have hg5 := lt_alloc w1 (.cells #[.slice q1 names.length c1, .slice none 0 0] 26)
  have hg50 := hn1.size
  have hnb := hid (fun k (hk : (Value.slice q1 names.length c1).ownBlock = some k) => Nat.lt_trans (World.ownsRow.lt hown1 k hk).2 (lt_alloc w1 (.cells #[.slice q1 names.length c1, .slice none 0 0] 26)))
  clear x1 x1w hown1 hn1
  generalize w1.alloc (.cells #[.slice q1 names.length c1, .slice none 0 0] 26) = wL at *
  generalize w1.heap.size = g5 at *
  go_loopw [7, 17] (fun _ i wr => ∃ (k : Nat) (v : Value), k ≤ n ∧ i = .int .i64 k ∧ CpSt wL g5 (.slice q1 names.length c1) v (es.take k) wr) (fun _ i _ => n - (intOf i).toNat)
  case atStart => exact ⟨0, _, Nat.zero_le _, rfl, y5, EvOwn.nil _ _, Mods.refl _ _⟩
  case round =>
    obtain ⟨k, v, hk, rfl, hst⟩ := hrel
    have hnr : Nw w0 wr := hnL.ofMods hst.2.2 (fun j e => by omega)
    have hnw := hn.trans hnr
    by_cases hlt : k < n
    · have hdk : decide (k < n) = true := decide_eq_true hlt
      have hke : k < es.length := by omega
      obtain ⟨b1, o1, vi, rfl, c0, c1', hsl⟩ := (HE.out.nw hnw) k hke
      obtain ⟨q, c, rfl, hcq, hmq, _, _⟩ := i64s_open hsl
      unfold maxLen at hmq
      have hlen := HI.out k hke
      have HT := hid (take_snoc es k hke)
      have HL := hid (show (es.take k).length = k by rw [List.length_take]; omega)
      generalize ids es k = l at *
      generalize tm es k = tk at *
      generalize es.take k = et at *
      obtain ⟨qv, cv, rfl⟩ := hst.2.1.shape HL.out
      go_upto_region 5 with fail
      have hnz := (Nw.refl wr).alloc (.cells #[.int .u64 tk, .slice q l.length c] 39)
      obtain ⟨z0, z1⟩ := box2 wr (.int .u64 tk) (.slice q l.length c) 39
      have hstz := hst.nw hnz
      clear c0 c1'
      generalize wr.alloc (.cells #[.int .u64 tk, .slice q l.length c] 39) = wz at *
      have e1 := heap_cell hstz.1 1
      simp only [List.getElem?_toArray, List.getElem?_cons_succ, List.getElem?_cons_zero] at e1
      have g1 := World.block_lt_of_cell? wz _ z0
      have g2 := lt_of_heap hstz.1
      simp only at g1
      have st6 := CloneS.stab wz.heap.size l
      have st7 := EvS.stab wz.heap.size tk l
      have st8 := OneS.stab wz.heap.size tk l
      refine wp_region_tail 9 (by kernel_rfl) (by kernel_rfl) (by kernel_rfl) (by kernel_rfl) (by kernel_rfl) ?_
      dsimp only [List.take, List.drop]
      iterate 6
        refine Stairs.is ?_ ?_ ?_
        rotate_left 1
        · intro x wR hR hd K hK
          simp only [Act.put, List.setIfInBounds_toArray, List.set_cons_zero, List.set_cons_succ, Say.ok] at hK ⊢
          clear hd
          change Hid _ at hK
          obtain ⟨hcR, hfR, hzR⟩ := nwc hR
          first | (refine wanted_yes ?_ ?_; rfl) | (refine wanted_no ?_ ?_; rfl)
          go_wp2_with (first | (go_at_call 52; refine (clonei_c _ _ _ (hsl.nw (hnz.trans (by repeat (first | assumption | exact Nw.refl _ | refine Nw.alloc ?_ _ | refine Nw.drew ?_ | refine Nw.drewN2 ?_ _ | (refine Nw.trans ?_ (by assumption)))))) (i64s_one _) (by rw [i64s_length]; omega)).mono ?_; rintro e w5 ⟨u5, rfl, hown5, hn5⟩))
          all_goals (refine hK.out _ _ ?_ ?_ <;> first | (solve | (repeat (first | assumption | exact Nw.refl _ | refine Nw.alloc ?_ _ | refine Nw.drew ?_ | refine Nw.drewN2 ?_ _ | (refine Nw.trans ?_ (by assumption))))) | exact rfl)
        try simp only [Act.put, List.setIfInBounds_toArray, List.set_cons_zero, List.set_cons_succ]
      iterate 1
        refine Stairs.that (CloneS wz.heap.size l) (by first | assumption | simp) ?_ ?_
        · intro x wR hR hd K hK
          simp only [Act.put, List.setIfInBounds_toArray, List.set_cons_zero, List.set_cons_succ, Say.ok] at hK ⊢
          clear hd
          change Hid _ at hK
          obtain ⟨hcR, hfR, hzR⟩ := nwc hR
          first | (refine wanted_yes ?_ ?_; rfl) | (refine wanted_no ?_ ?_; rfl)
          go_wp2_with (first | (go_at_call 52; refine (clonei_c _ _ _ (hsl.nw (hnz.trans (by repeat (first | assumption | exact Nw.refl _ | refine Nw.alloc ?_ _ | refine Nw.drew ?_ | refine Nw.drewN2 ?_ _ | (refine Nw.trans ?_ (by assumption)))))) (i64s_one _) (by rw [i64s_length]; omega)).mono ?_; rintro e w5 ⟨u5, rfl, hown5, hn5⟩))
          all_goals (refine hK.out _ _ ?_ ?_ <;> first | (solve | (repeat (first | assumption | exact Nw.refl _ | refine Nw.alloc ?_ _ | refine Nw.drew ?_ | refine Nw.drewN2 ?_ _ | (refine Nw.trans ?_ (by assumption))))) | exact rfl | exact hown5.mono hR.size)
        try simp only [Act.put, List.setIfInBounds_toArray, List.set_cons_zero, List.set_cons_succ, List.length_nil, List.length_cons, List.nil_append, List.cons_append, Nat.reduceAdd]
      iterate 1
        refine Stairs.that (EvS wz.heap.size tk l) (by first | assumption | simp) ?_ ?_
        · intro x wR hR hd K hK
          simp only [Act.put, List.setIfInBounds_toArray, List.set_cons_zero, List.set_cons_succ, Say.ok] at hK ⊢
          try simp [Region.binds, sayAt, Say.ok] at hd
          change Hid _ at hK
          obtain ⟨hcR, hfR, hzR⟩ := nwc hR
          have hu6 : CloneS wz.heap.size l wR (x 6) := (by first | exact hd | exact hd.2 | exact hd.1); obtain ⟨q6, c6, e6⟩ := ints_shape hu6; rw [e6] at hK hu6 ⊢
          first | (refine wanted_yes ?_ ?_; rfl) | (refine wanted_no ?_ ?_; rfl)
          go_wp2_with (first | (go_at_call 52; refine (clonei_c _ _ _ (hsl.nw (hnz.trans (by repeat (first | assumption | exact Nw.refl _ | refine Nw.alloc ?_ _ | refine Nw.drew ?_ | refine Nw.drewN2 ?_ _ | (refine Nw.trans ?_ (by assumption)))))) (i64s_one _) (by rw [i64s_length]; omega)).mono ?_; rintro e w5 ⟨u5, rfl, hown5, hn5⟩))
          all_goals (refine hK.out _ _ ?_ ?_ <;> first | (solve | (repeat (first | assumption | exact Nw.refl _ | refine Nw.alloc ?_ _ | refine Nw.drew ?_ | refine Nw.drewN2 ?_ _ | (refine Nw.trans ?_ (by assumption))))) | exact rfl | exact ⟨_, rfl, hu6⟩)
        try simp only [Act.put, List.setIfInBounds_toArray, List.set_cons_zero, List.set_cons_succ, List.length_nil, List.length_cons, List.nil_append, List.cons_append, Nat.reduceAdd]
      iterate 1
        refine Stairs.that (OneS wz.heap.size tk l) (by first | assumption | simp) ?_ ?_
        · intro x wR hR hd K hK
          simp only [Act.put, List.setIfInBounds_toArray, List.set_cons_zero, List.set_cons_succ, Say.ok] at hK ⊢
          try simp [Region.binds, sayAt, Say.ok] at hd
          change Hid _ at hK
          obtain ⟨hcR, hfR, hzR⟩ := nwc hR
          obtain ⟨u7, e7, hu7⟩ := hd; obtain ⟨q7, c7, rfl⟩ := ints_shape hu7; rw [e7] at hK ⊢
          first | (refine wanted_yes ?_ ?_; rfl) | (refine wanted_no ?_ ?_; rfl)
          go_wp2_with (first | (go_at_call 52; refine (clonei_c _ _ _ (hsl.nw (hnz.trans (by repeat (first | assumption | exact Nw.refl _ | refine Nw.alloc ?_ _ | refine Nw.drew ?_ | refine Nw.drewN2 ?_ _ | (refine Nw.trans ?_ (by assumption)))))) (i64s_one _) (by rw [i64s_length]; omega)).mono ?_; rintro e w5 ⟨u5, rfl, hown5, hn5⟩))
          all_goals (refine hK.out _ _ ?_ ?_ <;> first | (solve | (repeat (first | assumption | exact Nw.refl _ | refine Nw.alloc ?_ _ | refine Nw.drew ?_ | refine Nw.drewN2 ?_ _ | (refine Nw.trans ?_ (by assumption))))) | exact rfl | exact ⟨_, _, rfl, cells_newAt _ [_, _] _ _ _ rfl, Own.nw hu7 ((Nw.refl _).alloc _)⟩)
        try simp only [Act.put, List.setIfInBounds_toArray, List.set_cons_zero, List.set_cons_succ, List.length_nil, List.length_cons, List.nil_append, List.cons_append, Nat.reduceAdd]
      refine Stairs.nil ?_
      intro x wR hR hx yR
      have h6 := hx 6 (by decide)
      simp only [sayAt, Say.ok] at h6
      have h7 := hx 7 (by decide)
      simp only [sayAt, Say.ok] at h7
      have h8 := hx 8 (by decide)
      simp only [sayAt, Say.ok] at h8
      clear hx
      simp only [fill, Act.put, List.setIfInBounds_toArray, List.set_cons_zero, List.set_cons_succ]
      obtain ⟨hcR, hfR, hzR⟩ := nwc hR
      obtain ⟨g8, u8, e8, hcs8, hu8⟩ := h8
      obtain ⟨q8, c8, rfl⟩ := ints_shape hu8
      rw [e8]
      obtain ⟨vs, hvl, hrow, hall⟩ := hstz.2.1
      have hB : wL.heap.size ≤ wR.heap.size := Nat.le_trans hst.2.2.size (Nat.le_trans hnz.size hR.size)
      go_wp2_with (first
        | (at_builtin; refine appat rfl _ _ _ rfl _ _ _ _ Try.underlying24 info_event rfl (by decide) (by decide) hB (hR.ownsRow hrow) rfl rfl (show [Value.int .u64 tk, Value.slice q8 l.length c8].length = 2 from rfl) hcs8 (by simp [Value.oneCell']) ?_ ?_; rotate_left; (have := HL.out; omega); intro v2 w2 hown2 hg2 hat2; obtain ⟨⟨q9, c9, rfl⟩, y2, hst2⟩ := CpSt.step hstz hR hg5 HL.out hvl hrow hall hu8 hown2 hg2 hat2; have y21 := heap_cell y2 1; have y2f := heap_frozen y2 1; simp only [List.getElem?_toArray, List.getElem?_cons_succ, List.getElem?_cons_zero] at y21)
        | fail)
      go_roundw
      case rel => exact ⟨k + 1, _, by omega, by go_num, by rw [HT.out]; exact hst2⟩
      case measure => simp [intOf]; omega
    · obtain rfl : k = n := by omega
      have hdk : decide (k < k) = false := decide_eq_false (by omega)
      have y4r := hnr.heap y4
      have e0 := heap_cell hst.1 0
      have e1 := heap_cell hst.1 1
      have d0 := heap_cell y4r 0
      have d1 := heap_cell y4r 1
      simp only [List.getElem?_toArray, List.getElem?_cons_succ, List.getElem?_cons_zero] at e0 e1 d0 d1
      have HL := hid (show (es.take k).length = k by rw [List.length_take]; omega)
      generalize es.take k = et at *
      obtain ⟨qv, cv, rfl⟩ := hst.2.1.shape HL.out
      have f0 := heap_frozen y4r 0
      have f1 := heap_frozen y4r 1
      have s1r := Sl.mods s1 hst.2.2 (fun h0 j hj e => by subst e; exact absurd rfl (Sl.apart (s1.nw (Nw.refl _)) y5 strs_not h0 _ hj))
      have hev := hst.2.1
      have hz49 : w.heap.size + 1 < wL.heap.size := by have := hnL.size; omega
      go_wp2
      ((try simp only [Exit.inBlock, Exit.then]); refine bodyPost_ret (results_cell_row rfl _ _ _ _ _ _ _ rfl (heap_set (heap_set y4r 0 (.slice q1 names.length c1)) 1 (.slice qv k cv)) Try.underlying26 rfl (by kernel_rfl)) rfl ?_)
      refine ⟨_, _, rfl, ?_, ?_, ?_, ?_⟩
      · exact Sl.set2 (a := .slice q1 names.length c1) (b := .slice none 0 0) (Sl.set2 s1r y4r strs_not) (heap_set y4r 0 _) strs_not
      · exact EvOwn.mono (EvOwn.set (a := .slice q1 names.length c1) (b := .slice none 0 0) (EvOwn.set hev hz49 y4r (fun _ => nofun) (fun _ => nofun)) hz49 (heap_set y4r 0 _) (fun _ => nofun) (fun _ => nofun)) (Nat.le_trans hn.size hnL.size)
      · intro k hk e2
        have h1 := hnb.out k hk
        obtain ⟨vs, _, ho, _⟩ := hev
        have h2 := (World.ownsRow.lt ho k e2).1
        omega
      · exact (hnw.setCell (p := ⟨w.heap.size + 1, 0, none⟩) (by simp) _).setCell (p := ⟨w.heap.size + 1, 1, none⟩) (by simp) _
/-! ### Add -/
theorem results_cell2 {P : Program} {fn : Func} {p u : Tmp} {ty : TypeId} (h : fn.results = #[.cell p ty, .tmp u]) (tmps : Array Value) (w : World) (g : Nat) (t : TypeId) (cs : Array Value) (fr : Nat × Nat) (d : TypeDesc)
    (hp : tmps.getD p undef = .pointer (some ⟨g, 0, none⟩)) (hg : w.heap[g]? = some (.cells cs t fr))
    (hu : P.underlying ty = some d) (hd : (match d with | .struct _ | .array _ _ => true | _ => false) = true) (hi : (P.info? ty).map (·.size) = some cs.size) :
    (results fn tmps).run P w = .ok (.tuple #[.agg cs, tmps.getD u undef]) w := by
  have hp' : tmps[p]?.getD undef = .pointer (some ⟨g, 0, none⟩) := by simpa using hp
  simp [results, h, hp', asAddr, run_loadVar_row w g t ty cs fr d hg hu hd hi]
/-- Three new blocks of two cells each. -/
theorem boxes3 (w : World) (a b c d x y : Value) (e f g : TypeId) : (((w.alloc (.cells #[a, b] e)).alloc (.cells #[c, d] f)).alloc (.cells #[x, y] g)).cell? ⟨w.heap.size, 0, none⟩ = some a ∧ (((w.alloc (.cells #[a, b] e)).alloc (.cells #[c, d] f)).alloc (.cells #[x, y] g)).cell? ⟨w.heap.size, 1, none⟩ = some b ∧
    (((w.alloc (.cells #[a, b] e)).alloc (.cells #[c, d] f)).alloc (.cells #[x, y] g)).cell? ⟨w.heap.size + 1, 0, none⟩ = some c ∧ (((w.alloc (.cells #[a, b] e)).alloc (.cells #[c, d] f)).alloc (.cells #[x, y] g)).cell? ⟨w.heap.size + 1, 1, none⟩ = some d ∧
    (((w.alloc (.cells #[a, b] e)).alloc (.cells #[c, d] f)).alloc (.cells #[x, y] g)).heap[w.heap.size + 1 + 1]? = some (.cells #[x, y] g (0, 0)) ∧ Nw w (((w.alloc (.cells #[a, b] e)).alloc (.cells #[c, d] f)).alloc (.cells #[x, y] g)) ∧
    (((w.alloc (.cells #[a, b] e)).alloc (.cells #[c, d] f)).alloc (.cells #[x, y] g)).heap.size = w.heap.size + 1 + 1 + 1 := by
  obtain ⟨h1, h2, h3, h4, h5⟩ := boxes w a b c d e f
  have hn := (Nw.refl ((w.alloc (.cells #[a, b] e)).alloc (.cells #[c, d] f))).alloc (.cells #[x, y] g)
  have hz := size_alloc ((w.alloc (.cells #[a, b] e)).alloc (.cells #[c, d] f)) (.cells #[x, y] g)
  have hw := heap_new ((w.alloc (.cells #[a, b] e)).alloc (.cells #[c, d] f)) (.cells #[x, y] g)
  rw [h5] at hz hw
  exact ⟨hn.cell h1, hn.cell h2, hn.cell (heap_cell h3 0), hn.cell (heap_cell h3 1), hw, h4.trans hn, hz⟩
def HandsTE (w : World) (r : T × Int) (e : Ending) (w' : World) : Prop := ∃ v, e = .returned (.tuple #[v, .int .i64 r.2]) ∧ TrR w' v r.1 ∧ Nw w w'
set_option maxRecDepth 20000 in
set_option maxHeartbeats 3200000 in
theorem add_ok (vn ve vi : Value) (t : T) (tk : Int) (l : List Int) (w : World) (hvn : Sl w vn (Lx.strs t.names)) (hve : Evs w ve t.evs) (hvi : Sl w vi (i64s l)) (hsm : Small t) (hll : l.length ≤ 1000000000) (hM : mayP t = true) (hr : rises l t.names.length = true) (ht : t.evs.length = 0 ∨ ¬ tk < tm t.evs (t.evs.length - 1)) :
    Calls Try.prog 29 #[.agg #[vn, ve], .agg #[.int .u64 tk, vi]] w (HandsTE w (⟨t.names, t.evs ++ [(tk, l)]⟩, 0)) := by
  have HMY := hid (fun w' (h : Nw w w') => show Calls Try.prog 24 #[.agg #[vn, ve]] w' (Gives (.bool true) w') by
    have := may_c vn ve t w' (hvn.nw h) (hve.nw h) hsm.s
    rwa [hM] at this)
  have HID := hid (fun w' (h : Nw w w') => show Calls Try.prog 20 #[vi, .int .i64 (t.names.length : Int)] w' (Gives (.bool true) w') by
    have := Rec.tids_c vi l t.names.length w' (hvi.nw h)
    rwa [hr] at this)
  have HCP := hid (fun w' (h : Nw w w') => show Calls Try.prog 49 #[.agg #[vn, ve], .int .i64 (t.evs.length : Int)] w' (HandsO w' t) by
    have := copied_o vn ve t t.evs.length w' (hvn.nw h) (hve.nw h) (Nat.le_refl _) hsm
    rwa [List.take_of_length_le (Nat.le_refl _)] at this)
  obtain ⟨names, es⟩ := t
  have hle := hsm.e
  dsimp only at *
  obtain ⟨pn, kn, rfl, _, _, _, _⟩ := strs_open hvn
  obtain ⟨p, cap, rfl, hcap, hmx, _, hec⟩ := hve
  obtain ⟨q, c, rfl, hcq, hmq, _, _⟩ := i64s_open hvi
  have HE := hid hec
  unfold maxLen at hmx hmq
  clear hec hvn hsm hM hr
  go_enter Try.func29, Try.ntmps29
  go_upto_region 1 with fail
  obtain ⟨x0, x1, b0, b1, y4, hn, hsz⟩ := boxes3 w (.slice pn names.length kn) (.slice p es.length cap) (.int .u64 tk) (.slice q l.length c) (.slice none 0 0) (.slice none 0 0) 26 39 26
  generalize (((w.alloc (.cells #[.slice pn names.length kn, .slice p es.length cap] 26)).alloc (.cells #[.int .u64 tk, .slice q l.length c] 39)).alloc (.cells #[.slice none 0 0, .slice none 0 0] 26)) = w0 at *
  have hz0 : w.heap.size < w0.heap.size := by omega
  have hz1 : w.heap.size + 1 < w0.heap.size := by omega
  have hzr : w.heap.size + 1 + 1 < w0.heap.size := by omega
  have hw0 : Nw w0 w0 := Nw.refl _
  clear hsz
  by_cases hpos : 0 < es.length
  · have hd2 : decide ((0 : Int) < es.length) = true := decide_eq_true (by omega)
    have hd2n : decide (0 < es.length) = true := decide_eq_true hpos
    obtain ⟨b7, o7, vj, rfl, d0, _, _⟩ := HE.out (es.length - 1) (by omega)
    have ek : ((es.length : Int) - 1).toNat = es.length - 1 := by omega
    have hd3 : decide (tk < tm es (es.length - 1)) = false := decide_eq_false (by rcases ht with h | h; omega; exact h)
    clear ht
    generalize tm es (es.length - 1) = tj at *
    go_upto_region 6 with (first
      | (go_at_call 24; refine (HMY.out _ (by repeat (first | assumption | exact Nw.refl _ | refine Nw.alloc ?_ _ | refine Nw.drew ?_ | refine Nw.drewN2 ?_ _ | (refine Nw.trans ?_ (by assumption))))).mono ?_; rintro e w1 ⟨rfl, hn1⟩; have x0 := hn1.cell x0; have x1 := hn1.cell x1; have b0 := hn1.cell b0; have b1 := hn1.cell b1; have hz0 := Nat.lt_of_lt_of_le hz0 hn1.size; have hz1 := Nat.lt_of_lt_of_le hz1 hn1.size; have hw0 := hw0.trans hn1)
      | (go_at_call 20; refine (HID.out _ (by repeat (first | assumption | exact Nw.refl _ | refine Nw.alloc ?_ _ | refine Nw.drew ?_ | refine Nw.drewN2 ?_ _ | (refine Nw.trans ?_ (by assumption))))).mono ?_; rintro e w1 ⟨rfl, hn1⟩; have x0 := hn1.cell x0; have x1 := hn1.cell x1; have b0 := hn1.cell b0; have b1 := hn1.cell b1; have hz0 := Nat.lt_of_lt_of_le hz0 hn1.size; have hz1 := Nat.lt_of_lt_of_le hz1 hn1.size; have hw0 := hw0.trans hn1)
      | fail)
    have d0 := (hn.trans hw0).cell d0
    have gd := World.block_lt_of_cell? w1 _ d0
    simp only at gd
    refine wp_region_stairs (by kernel_rfl) (by kernel_rfl) (by kernel_rfl) ?_
    iterate 15
      refine Stairs.is ?_ ?_ ?_
      rotate_left 1
      · intro x wR hR hd K hK
        simp only [Act.put, List.setIfInBounds_toArray, List.set_cons_zero, List.set_cons_succ, Nat.reduceAdd, List.length_nil, List.length_cons, List.nil_append, List.cons_append, Say.ok] at hK ⊢
        clear hd
        change Hid _ at hK
        obtain ⟨hcR, hfR, hzR⟩ := nwc hR
        first | (refine wanted_yes ?_ ?_; rfl) | (refine wanted_no ?_ ?_; rfl)
        go_wp2_with (first | fail)
        all_goals (refine hK.out _ _ ?_ ?_ <;> first | (solve | (repeat (first | assumption | exact Nw.refl _ | refine Nw.alloc ?_ _ | refine Nw.drew ?_ | refine Nw.drewN2 ?_ _ | (refine Nw.trans ?_ (by assumption))))) | exact rfl)
      try simp only [Act.put, List.setIfInBounds_toArray, List.set_cons_zero, List.set_cons_succ, Nat.reduceAdd, List.length_nil, List.length_cons, List.nil_append, List.cons_append]
    refine Stairs.nil ?_
    intro x wR hR hx
    clear hx
    obtain ⟨hcR, hfR, hzR⟩ := nwc hR
    have x0 := hR.cell x0
    have x1 := hR.cell x1
    have b0 := hR.cell b0
    have b1 := hR.cell b1
    have hz0 := Nat.lt_of_lt_of_le hz0 hR.size
    have hz1 := Nat.lt_of_lt_of_le hz1 hR.size
    have hw0 := hw0.trans hR
    obtain ⟨B, hBd⟩ : ∃ B, B = wR.heap.size := ⟨_, rfl⟩
    have hBZ : w.heap.size + 1 + 1 < B := by have := hw0.size; omega
    go_upto_region 9 with (first
      | (go_at_call 49; refine (HCP.out _ (hn.trans (by repeat (first | assumption | exact Nw.refl _ | refine Nw.alloc ?_ _ | refine Nw.drew ?_ | refine Nw.drewN2 ?_ _ | (refine Nw.trans ?_ (by assumption)))))).mono ?_; rintro e w4 ⟨vn4, ve4, rfl, hs4, he4, hap, hn4⟩; rw [← hBd] at he4; obtain ⟨q4, c4, rfl, _, _, _, _⟩ := strs_open hs4; obtain ⟨q5, c5, rfl⟩ := he4.shape rfl)
      | fail)
    have HLT := hid (show ∀ k, (Value.slice q5 es.length c5).ownBlock = some k → B ≤ k ∧ k < w4.heap.size from fun k hk => by
      obtain ⟨vs, _, ho, _⟩ := he4
      exact World.ownsRow.lt ho k hk)
    have hw4 := hw0.trans hn4
    have hnz := (Nw.refl w4).alloc (.cells #[.slice q4 names.length c4, .slice q5 es.length c5] 26)
    obtain ⟨g0, g1⟩ := box2 w4 (.slice q4 names.length c4) (.slice q5 es.length c5) 26
    have y7 := heap_new w4 (.cells #[.slice q4 names.length c4, .slice q5 es.length c5] 26)
    have g7z := lt_alloc w4 (.cells #[.slice q4 names.length c4, .slice q5 es.length c5] 26)
    have he5 := he4.nw hnz
    have hs5 := hs4.nw hnz
    have e0 := hnz.cell (hn4.cell b0)
    have e1 := hnz.cell (hn4.cell b1)
    have hwz := hw4.trans hnz
    have gz1 : w.heap.size + 1 < (w4.alloc (.cells #[.slice q4 names.length c4, .slice q5 es.length c5] 26)).heap.size := by have := hn4.size; have := hnz.size; omega
    have hBw : B ≤ (w4.alloc (.cells #[.slice q4 names.length c4, .slice q5 es.length c5] 26)).heap.size := by have := hn4.size; have := hnz.size; omega
    have gBg : B ≤ w4.heap.size := by have := hn4.size; omega
    clear he4 hs4 hnz hw4 hn4 x0 x1 b0 b1 hz0 hz1 hBd
    generalize w4.alloc (.cells #[.slice q4 names.length c4, .slice q5 es.length c5] 26) = wz at *
    generalize w4.heap.size = g7 at *
    have y4z := hwz.heap y4
    have HVZ := hid (hvi.nw (hn.trans hwz))
    have st6 := CloneS.stab wz.heap.size l
    have st7 := EvS.stab wz.heap.size tk l
    have st8 := OneS.stab wz.heap.size tk l
    refine wp_region_tail 9 (by kernel_rfl) (by kernel_rfl) (by kernel_rfl) (by kernel_rfl) (by kernel_rfl) ?_
    dsimp only [List.take, List.drop]
    iterate 6
      refine Stairs.is ?_ ?_ ?_
      rotate_left 1
      · intro x wR hR hd K hK
        simp only [Act.put, List.setIfInBounds_toArray, List.set_cons_zero, List.set_cons_succ, Say.ok] at hK ⊢
        clear hd
        change Hid _ at hK
        obtain ⟨hcR, hfR, hzR⟩ := nwc hR
        first | (refine wanted_yes ?_ ?_; rfl) | (refine wanted_no ?_ ?_; rfl)
        go_wp2_with (first | (go_at_call 52; refine (clonei_c _ _ _ (HVZ.out.nw (by repeat (first | assumption | exact Nw.refl _ | refine Nw.alloc ?_ _ | refine Nw.drew ?_ | refine Nw.drewN2 ?_ _ | (refine Nw.trans ?_ (by assumption))))) (i64s_one _) (by rw [i64s_length]; omega)).mono ?_; rintro e w5 ⟨u5, rfl, hown5, hn5⟩))
        all_goals (refine hK.out _ _ ?_ ?_ <;> first | (solve | (repeat (first | assumption | exact Nw.refl _ | refine Nw.alloc ?_ _ | refine Nw.drew ?_ | refine Nw.drewN2 ?_ _ | (refine Nw.trans ?_ (by assumption))))) | exact rfl)
      try simp only [Act.put, List.setIfInBounds_toArray, List.set_cons_zero, List.set_cons_succ]
    iterate 1
      refine Stairs.that (CloneS wz.heap.size l) (by first | assumption | simp) ?_ ?_
      · intro x wR hR hd K hK
        simp only [Act.put, List.setIfInBounds_toArray, List.set_cons_zero, List.set_cons_succ, Say.ok] at hK ⊢
        clear hd
        change Hid _ at hK
        obtain ⟨hcR, hfR, hzR⟩ := nwc hR
        first | (refine wanted_yes ?_ ?_; rfl) | (refine wanted_no ?_ ?_; rfl)
        go_wp2_with (first | (go_at_call 52; refine (clonei_c _ _ _ (HVZ.out.nw (by repeat (first | assumption | exact Nw.refl _ | refine Nw.alloc ?_ _ | refine Nw.drew ?_ | refine Nw.drewN2 ?_ _ | (refine Nw.trans ?_ (by assumption))))) (i64s_one _) (by rw [i64s_length]; omega)).mono ?_; rintro e w5 ⟨u5, rfl, hown5, hn5⟩))
        all_goals (refine hK.out _ _ ?_ ?_ <;> first | (solve | (repeat (first | assumption | exact Nw.refl _ | refine Nw.alloc ?_ _ | refine Nw.drew ?_ | refine Nw.drewN2 ?_ _ | (refine Nw.trans ?_ (by assumption))))) | exact rfl | exact hown5.mono hR.size)
      try simp only [Act.put, List.setIfInBounds_toArray, List.set_cons_zero, List.set_cons_succ, List.length_nil, List.length_cons, List.nil_append, List.cons_append, Nat.reduceAdd]
    iterate 1
      refine Stairs.that (EvS wz.heap.size tk l) (by first | assumption | simp) ?_ ?_
      · intro x wR hR hd K hK
        simp only [Act.put, List.setIfInBounds_toArray, List.set_cons_zero, List.set_cons_succ, Say.ok] at hK ⊢
        try simp [Region.binds, sayAt, Say.ok] at hd
        change Hid _ at hK
        obtain ⟨hcR, hfR, hzR⟩ := nwc hR
        have hu6 : CloneS wz.heap.size l wR (x 6) := (by first | exact hd | exact hd.2 | exact hd.1); obtain ⟨q6, c6, e6⟩ := ints_shape hu6; rw [e6] at hK hu6 ⊢
        first | (refine wanted_yes ?_ ?_; rfl) | (refine wanted_no ?_ ?_; rfl)
        go_wp2_with (first | (go_at_call 52; refine (clonei_c _ _ _ (HVZ.out.nw (by repeat (first | assumption | exact Nw.refl _ | refine Nw.alloc ?_ _ | refine Nw.drew ?_ | refine Nw.drewN2 ?_ _ | (refine Nw.trans ?_ (by assumption))))) (i64s_one _) (by rw [i64s_length]; omega)).mono ?_; rintro e w5 ⟨u5, rfl, hown5, hn5⟩))
        all_goals (refine hK.out _ _ ?_ ?_ <;> first | (solve | (repeat (first | assumption | exact Nw.refl _ | refine Nw.alloc ?_ _ | refine Nw.drew ?_ | refine Nw.drewN2 ?_ _ | (refine Nw.trans ?_ (by assumption))))) | exact rfl | exact ⟨_, rfl, hu6⟩)
      try simp only [Act.put, List.setIfInBounds_toArray, List.set_cons_zero, List.set_cons_succ, List.length_nil, List.length_cons, List.nil_append, List.cons_append, Nat.reduceAdd]
    iterate 1
      refine Stairs.that (OneS wz.heap.size tk l) (by first | assumption | simp) ?_ ?_
      · intro x wR hR hd K hK
        simp only [Act.put, List.setIfInBounds_toArray, List.set_cons_zero, List.set_cons_succ, Say.ok] at hK ⊢
        try simp [Region.binds, sayAt, Say.ok] at hd
        change Hid _ at hK
        obtain ⟨hcR, hfR, hzR⟩ := nwc hR
        obtain ⟨u7, e7, hu7⟩ := hd; obtain ⟨q7, c7, rfl⟩ := ints_shape hu7; rw [e7] at hK ⊢
        first | (refine wanted_yes ?_ ?_; rfl) | (refine wanted_no ?_ ?_; rfl)
        go_wp2_with (first | (go_at_call 52; refine (clonei_c _ _ _ (HVZ.out.nw (by repeat (first | assumption | exact Nw.refl _ | refine Nw.alloc ?_ _ | refine Nw.drew ?_ | refine Nw.drewN2 ?_ _ | (refine Nw.trans ?_ (by assumption))))) (i64s_one _) (by rw [i64s_length]; omega)).mono ?_; rintro e w5 ⟨u5, rfl, hown5, hn5⟩))
        all_goals (refine hK.out _ _ ?_ ?_ <;> first | (solve | (repeat (first | assumption | exact Nw.refl _ | refine Nw.alloc ?_ _ | refine Nw.drew ?_ | refine Nw.drewN2 ?_ _ | (refine Nw.trans ?_ (by assumption))))) | exact rfl | exact ⟨_, _, rfl, cells_newAt _ [_, _] _ _ _ rfl, Own.nw hu7 ((Nw.refl _).alloc _)⟩)
      try simp only [Act.put, List.setIfInBounds_toArray, List.set_cons_zero, List.set_cons_succ, List.length_nil, List.length_cons, List.nil_append, List.cons_append, Nat.reduceAdd]
    refine Stairs.nil ?_
    intro x wR hR hx yR
    have h6 := hx 6 (by decide)
    simp only [sayAt, Say.ok] at h6
    have h7 := hx 7 (by decide)
    simp only [sayAt, Say.ok] at h7
    have h8 := hx 8 (by decide)
    simp only [sayAt, Say.ok] at h8
    clear hx
    simp only [fill, Act.put, List.setIfInBounds_toArray, List.set_cons_zero, List.set_cons_succ]
    obtain ⟨hcR, hfR, hzR⟩ := nwc hR
    obtain ⟨g8, u8, e8, hcs8, hu8⟩ := h8
    obtain ⟨q8, c8, rfl⟩ := ints_shape hu8
    rw [e8]
    obtain ⟨vs, hvl, hrow, hall⟩ := he5
    have hB : B ≤ wR.heap.size := Nat.le_trans hBw hR.size
    go_upto_region 10 with (first
      | (at_builtin; refine appat rfl _ _ _ rfl _ _ _ _ Try.underlying24 info_event rfl (by decide) (by decide) hB (hR.ownsRow hrow) rfl rfl (show [Value.int .u64 tk, Value.slice q8 l.length c8].length = 2 from rfl) hcs8 (by simp [Value.oneCell']) ?_ ?_; rotate_left; omega; intro v2 w2 hown2 hg2 hat2; have hev2 := EvOwn.add hvl (fun i hi => ⟨(hall i hi).1.nw hR, (hall i hi).2⟩) (Own.sl hu8) (fun _ => own_apart hrow hu8) hown2 hg2 hat2; obtain ⟨q9, c9, rfl⟩ := hev2.shape (n := es.length + 1) (by simp); have y72 : w2.heap[g7]? = some (.cells #[.slice q4 names.length c4, .slice q5 es.length c5] 26 (0, 0)) := (by have h5 := hR.heap y7; rw [hg2.block g7 (lt_of_heap h5) (fun e => by have := (HLT.out g7 e.symm).2; omega)]; exact h5); have y42 : w2.heap[w.heap.size + 1 + 1]? = some (.cells #[.slice none 0 0, .slice none 0 0] 26 (0, 0)) := (by have h5 := hR.heap y4z; rw [hg2.block _ (lt_of_heap h5) (fun e => by have := (HLT.out _ e.symm).1; omega)]; exact h5); have y21 := heap_cell y72 1; have y2f := heap_frozen y72 1; simp only [List.getElem?_toArray, List.getElem?_cons_succ, List.getElem?_cons_zero] at y21)
      | fail)
    have y76 := heap_set y72 1 (.slice q9 (es.length + 1) c9)
    have y46 := (Mods.setCell (Mods.refl (fun k => k = g7) w2) (p := ⟨g7, 1, none⟩) rfl (.slice q9 (es.length + 1) c9)).heap y42 (by omega)
    have hs6 := Sl.set2 (j := 1) (x := .slice q9 (es.length + 1) c9) (Sl.mono_grown (hs5.nw hR) hg2 (fun _ k hk => hap k hk)) y72 strs_not
    have he6 := Evs.set2 (j := 1) (x := .slice q9 (es.length + 1) c9) hev2.evs y72 (fun _ _ => nofun) (fun _ _ => nofun)
    have nw6 : Nw w (w2.setCell ⟨g7, 1, none⟩ (.slice q9 (es.length + 1) c9)) := ((hn.trans (hwz.trans hR)).grown hg2 (fun k hk => by have := (HLT.out k hk).1; omega)).setCell (p := ⟨g7, 1, none⟩) (show w.heap.size ≤ g7 by omega) _
    clear y72 y42 hev2 hg2 hown2 hall hrow hs5
    generalize w2.setCell ⟨g7, 1, none⟩ (.slice q9 (es.length + 1) c9) = w6 at *
    have e0 := heap_cell y76 0
    have e1 := heap_cell y76 1
    have d0 := heap_cell y46 0
    have d1 := heap_cell y46 1
    simp at e0 e1 d0 d1
    have f0 := heap_frozen y46 0
    have f1 := heap_frozen y46 1
    go_wp2
    ((try simp only [Exit.inBlock, Exit.then]); refine bodyPost_ret (results_cell2 rfl _ _ _ _ _ _ _ rfl (heap_set (heap_set y46 0 _) 1 _) Try.underlying26 rfl (by kernel_rfl)) rfl ?_)
    refine ⟨_, rfl, ⟨_, _, rfl, ?_, ?_⟩, ?_⟩
    · exact Sl.set2 (a := .slice q4 names.length c4) (b := .slice none 0 0) (Sl.set2 hs6 y46 strs_not) (heap_set y46 0 _) strs_not
    · exact Evs.set2 (a := .slice q4 names.length c4) (b := .slice none 0 0) (Evs.set2 he6 y46 (fun _ _ => nofun) (fun _ _ => nofun)) (heap_set y46 0 _) (fun _ _ => nofun) (fun _ _ => nofun)
    · exact (nw6.setCell (p := ⟨w.heap.size + 1 + 1, 0, none⟩) (show w.heap.size ≤ w.heap.size + 1 + 1 by omega) _).setCell (p := ⟨w.heap.size + 1 + 1, 1, none⟩) (show w.heap.size ≤ w.heap.size + 1 + 1 by omega) _
  · have hd2 : decide ((0 : Int) < es.length) = false := decide_eq_false (by omega)
    have hd2n : decide (0 < es.length) = false := decide_eq_false hpos
    clear ht hpos
    go_upto_region 6 with (first
      | (go_at_call 24; refine (HMY.out _ (by repeat (first | assumption | exact Nw.refl _ | refine Nw.alloc ?_ _ | refine Nw.drew ?_ | refine Nw.drewN2 ?_ _ | (refine Nw.trans ?_ (by assumption))))).mono ?_; rintro e w1 ⟨rfl, hn1⟩; have x0 := hn1.cell x0; have x1 := hn1.cell x1; have b0 := hn1.cell b0; have b1 := hn1.cell b1; have hz0 := Nat.lt_of_lt_of_le hz0 hn1.size; have hz1 := Nat.lt_of_lt_of_le hz1 hn1.size; have hw0 := hw0.trans hn1)
      | (go_at_call 20; refine (HID.out _ (by repeat (first | assumption | exact Nw.refl _ | refine Nw.alloc ?_ _ | refine Nw.drew ?_ | refine Nw.drewN2 ?_ _ | (refine Nw.trans ?_ (by assumption))))).mono ?_; rintro e w1 ⟨rfl, hn1⟩; have x0 := hn1.cell x0; have x1 := hn1.cell x1; have b0 := hn1.cell b0; have b1 := hn1.cell b1; have hz0 := Nat.lt_of_lt_of_le hz0 hn1.size; have hz1 := Nat.lt_of_lt_of_le hz1 hn1.size; have hw0 := hw0.trans hn1)
      | fail)
    refine wp_region_stairs (by kernel_rfl) (by kernel_rfl) (by kernel_rfl) ?_
    iterate 15
      refine Stairs.is ?_ ?_ ?_
      rotate_left 1
      · intro x wR hR hd K hK
        simp only [Act.put, List.setIfInBounds_toArray, List.set_cons_zero, List.set_cons_succ, Nat.reduceAdd, List.length_nil, List.length_cons, List.nil_append, List.cons_append, Say.ok] at hK ⊢
        clear hd
        change Hid _ at hK
        obtain ⟨hcR, hfR, hzR⟩ := nwc hR
        first | (refine wanted_yes ?_ ?_; rfl) | (refine wanted_no ?_ ?_; rfl)
        go_wp2_with (first | fail)
        all_goals (refine hK.out _ _ ?_ ?_ <;> first | (solve | (repeat (first | assumption | exact Nw.refl _ | refine Nw.alloc ?_ _ | refine Nw.drew ?_ | refine Nw.drewN2 ?_ _ | (refine Nw.trans ?_ (by assumption))))) | exact rfl)
      try simp only [Act.put, List.setIfInBounds_toArray, List.set_cons_zero, List.set_cons_succ, Nat.reduceAdd, List.length_nil, List.length_cons, List.nil_append, List.cons_append]
    refine Stairs.nil ?_
    intro x wR hR hx
    clear hx
    obtain ⟨hcR, hfR, hzR⟩ := nwc hR
    have x0 := hR.cell x0
    have x1 := hR.cell x1
    have b0 := hR.cell b0
    have b1 := hR.cell b1
    have hz0 := Nat.lt_of_lt_of_le hz0 hR.size
    have hz1 := Nat.lt_of_lt_of_le hz1 hR.size
    have hw0 := hw0.trans hR
    obtain ⟨B, hBd⟩ : ∃ B, B = wR.heap.size := ⟨_, rfl⟩
    have hBZ : w.heap.size + 1 + 1 < B := by have := hw0.size; omega
    go_upto_region 9 with (first
      | (go_at_call 49; refine (HCP.out _ (hn.trans (by repeat (first | assumption | exact Nw.refl _ | refine Nw.alloc ?_ _ | refine Nw.drew ?_ | refine Nw.drewN2 ?_ _ | (refine Nw.trans ?_ (by assumption)))))).mono ?_; rintro e w4 ⟨vn4, ve4, rfl, hs4, he4, hap, hn4⟩; rw [← hBd] at he4; obtain ⟨q4, c4, rfl, _, _, _, _⟩ := strs_open hs4; obtain ⟨q5, c5, rfl⟩ := he4.shape rfl)
      | fail)
    have HLT := hid (show ∀ k, (Value.slice q5 es.length c5).ownBlock = some k → B ≤ k ∧ k < w4.heap.size from fun k hk => by
      obtain ⟨vs, _, ho, _⟩ := he4
      exact World.ownsRow.lt ho k hk)
    have hw4 := hw0.trans hn4
    have hnz := (Nw.refl w4).alloc (.cells #[.slice q4 names.length c4, .slice q5 es.length c5] 26)
    obtain ⟨g0, g1⟩ := box2 w4 (.slice q4 names.length c4) (.slice q5 es.length c5) 26
    have y7 := heap_new w4 (.cells #[.slice q4 names.length c4, .slice q5 es.length c5] 26)
    have g7z := lt_alloc w4 (.cells #[.slice q4 names.length c4, .slice q5 es.length c5] 26)
    have he5 := he4.nw hnz
    have hs5 := hs4.nw hnz
    have e0 := hnz.cell (hn4.cell b0)
    have e1 := hnz.cell (hn4.cell b1)
    have hwz := hw4.trans hnz
    have gz1 : w.heap.size + 1 < (w4.alloc (.cells #[.slice q4 names.length c4, .slice q5 es.length c5] 26)).heap.size := by have := hn4.size; have := hnz.size; omega
    have hBw : B ≤ (w4.alloc (.cells #[.slice q4 names.length c4, .slice q5 es.length c5] 26)).heap.size := by have := hn4.size; have := hnz.size; omega
    have gBg : B ≤ w4.heap.size := by have := hn4.size; omega
    clear he4 hs4 hnz hw4 hn4 x0 x1 b0 b1 hz0 hz1 hBd
    generalize w4.alloc (.cells #[.slice q4 names.length c4, .slice q5 es.length c5] 26) = wz at *
    generalize w4.heap.size = g7 at *
    have y4z := hwz.heap y4
    have HVZ := hid (hvi.nw (hn.trans hwz))
    have st6 := CloneS.stab wz.heap.size l
    have st7 := EvS.stab wz.heap.size tk l
    have st8 := OneS.stab wz.heap.size tk l
    refine wp_region_tail 9 (by kernel_rfl) (by kernel_rfl) (by kernel_rfl) (by kernel_rfl) (by kernel_rfl) ?_
    dsimp only [List.take, List.drop]
    iterate 6
      refine Stairs.is ?_ ?_ ?_
      rotate_left 1
      · intro x wR hR hd K hK
        simp only [Act.put, List.setIfInBounds_toArray, List.set_cons_zero, List.set_cons_succ, Say.ok] at hK ⊢
        clear hd
        change Hid _ at hK
        obtain ⟨hcR, hfR, hzR⟩ := nwc hR
        first | (refine wanted_yes ?_ ?_; rfl) | (refine wanted_no ?_ ?_; rfl)
        go_wp2_with (first | (go_at_call 52; refine (clonei_c _ _ _ (HVZ.out.nw (by repeat (first | assumption | exact Nw.refl _ | refine Nw.alloc ?_ _ | refine Nw.drew ?_ | refine Nw.drewN2 ?_ _ | (refine Nw.trans ?_ (by assumption))))) (i64s_one _) (by rw [i64s_length]; omega)).mono ?_; rintro e w5 ⟨u5, rfl, hown5, hn5⟩))
        all_goals (refine hK.out _ _ ?_ ?_ <;> first | (solve | (repeat (first | assumption | exact Nw.refl _ | refine Nw.alloc ?_ _ | refine Nw.drew ?_ | refine Nw.drewN2 ?_ _ | (refine Nw.trans ?_ (by assumption))))) | exact rfl)
      try simp only [Act.put, List.setIfInBounds_toArray, List.set_cons_zero, List.set_cons_succ]
    iterate 1
      refine Stairs.that (CloneS wz.heap.size l) (by first | assumption | simp) ?_ ?_
      · intro x wR hR hd K hK
        simp only [Act.put, List.setIfInBounds_toArray, List.set_cons_zero, List.set_cons_succ, Say.ok] at hK ⊢
        clear hd
        change Hid _ at hK
        obtain ⟨hcR, hfR, hzR⟩ := nwc hR
        first | (refine wanted_yes ?_ ?_; rfl) | (refine wanted_no ?_ ?_; rfl)
        go_wp2_with (first | (go_at_call 52; refine (clonei_c _ _ _ (HVZ.out.nw (by repeat (first | assumption | exact Nw.refl _ | refine Nw.alloc ?_ _ | refine Nw.drew ?_ | refine Nw.drewN2 ?_ _ | (refine Nw.trans ?_ (by assumption))))) (i64s_one _) (by rw [i64s_length]; omega)).mono ?_; rintro e w5 ⟨u5, rfl, hown5, hn5⟩))
        all_goals (refine hK.out _ _ ?_ ?_ <;> first | (solve | (repeat (first | assumption | exact Nw.refl _ | refine Nw.alloc ?_ _ | refine Nw.drew ?_ | refine Nw.drewN2 ?_ _ | (refine Nw.trans ?_ (by assumption))))) | exact rfl | exact hown5.mono hR.size)
      try simp only [Act.put, List.setIfInBounds_toArray, List.set_cons_zero, List.set_cons_succ, List.length_nil, List.length_cons, List.nil_append, List.cons_append, Nat.reduceAdd]
    iterate 1
      refine Stairs.that (EvS wz.heap.size tk l) (by first | assumption | simp) ?_ ?_
      · intro x wR hR hd K hK
        simp only [Act.put, List.setIfInBounds_toArray, List.set_cons_zero, List.set_cons_succ, Say.ok] at hK ⊢
        try simp [Region.binds, sayAt, Say.ok] at hd
        change Hid _ at hK
        obtain ⟨hcR, hfR, hzR⟩ := nwc hR
        have hu6 : CloneS wz.heap.size l wR (x 6) := (by first | exact hd | exact hd.2 | exact hd.1); obtain ⟨q6, c6, e6⟩ := ints_shape hu6; rw [e6] at hK hu6 ⊢
        first | (refine wanted_yes ?_ ?_; rfl) | (refine wanted_no ?_ ?_; rfl)
        go_wp2_with (first | (go_at_call 52; refine (clonei_c _ _ _ (HVZ.out.nw (by repeat (first | assumption | exact Nw.refl _ | refine Nw.alloc ?_ _ | refine Nw.drew ?_ | refine Nw.drewN2 ?_ _ | (refine Nw.trans ?_ (by assumption))))) (i64s_one _) (by rw [i64s_length]; omega)).mono ?_; rintro e w5 ⟨u5, rfl, hown5, hn5⟩))
        all_goals (refine hK.out _ _ ?_ ?_ <;> first | (solve | (repeat (first | assumption | exact Nw.refl _ | refine Nw.alloc ?_ _ | refine Nw.drew ?_ | refine Nw.drewN2 ?_ _ | (refine Nw.trans ?_ (by assumption))))) | exact rfl | exact ⟨_, rfl, hu6⟩)
      try simp only [Act.put, List.setIfInBounds_toArray, List.set_cons_zero, List.set_cons_succ, List.length_nil, List.length_cons, List.nil_append, List.cons_append, Nat.reduceAdd]
    iterate 1
      refine Stairs.that (OneS wz.heap.size tk l) (by first | assumption | simp) ?_ ?_
      · intro x wR hR hd K hK
        simp only [Act.put, List.setIfInBounds_toArray, List.set_cons_zero, List.set_cons_succ, Say.ok] at hK ⊢
        try simp [Region.binds, sayAt, Say.ok] at hd
        change Hid _ at hK
        obtain ⟨hcR, hfR, hzR⟩ := nwc hR
        obtain ⟨u7, e7, hu7⟩ := hd; obtain ⟨q7, c7, rfl⟩ := ints_shape hu7; rw [e7] at hK ⊢
        first | (refine wanted_yes ?_ ?_; rfl) | (refine wanted_no ?_ ?_; rfl)
        go_wp2_with (first | (go_at_call 52; refine (clonei_c _ _ _ (HVZ.out.nw (by repeat (first | assumption | exact Nw.refl _ | refine Nw.alloc ?_ _ | refine Nw.drew ?_ | refine Nw.drewN2 ?_ _ | (refine Nw.trans ?_ (by assumption))))) (i64s_one _) (by rw [i64s_length]; omega)).mono ?_; rintro e w5 ⟨u5, rfl, hown5, hn5⟩))
        all_goals (refine hK.out _ _ ?_ ?_ <;> first | (solve | (repeat (first | assumption | exact Nw.refl _ | refine Nw.alloc ?_ _ | refine Nw.drew ?_ | refine Nw.drewN2 ?_ _ | (refine Nw.trans ?_ (by assumption))))) | exact rfl | exact ⟨_, _, rfl, cells_newAt _ [_, _] _ _ _ rfl, Own.nw hu7 ((Nw.refl _).alloc _)⟩)
      try simp only [Act.put, List.setIfInBounds_toArray, List.set_cons_zero, List.set_cons_succ, List.length_nil, List.length_cons, List.nil_append, List.cons_append, Nat.reduceAdd]
    refine Stairs.nil ?_
    intro x wR hR hx yR
    have h6 := hx 6 (by decide)
    simp only [sayAt, Say.ok] at h6
    have h7 := hx 7 (by decide)
    simp only [sayAt, Say.ok] at h7
    have h8 := hx 8 (by decide)
    simp only [sayAt, Say.ok] at h8
    clear hx
    simp only [fill, Act.put, List.setIfInBounds_toArray, List.set_cons_zero, List.set_cons_succ]
    obtain ⟨hcR, hfR, hzR⟩ := nwc hR
    obtain ⟨g8, u8, e8, hcs8, hu8⟩ := h8
    obtain ⟨q8, c8, rfl⟩ := ints_shape hu8
    rw [e8]
    obtain ⟨vs, hvl, hrow, hall⟩ := he5
    have hB : B ≤ wR.heap.size := Nat.le_trans hBw hR.size
    go_upto_region 10 with (first
      | (at_builtin; refine appat rfl _ _ _ rfl _ _ _ _ Try.underlying24 info_event rfl (by decide) (by decide) hB (hR.ownsRow hrow) rfl rfl (show [Value.int .u64 tk, Value.slice q8 l.length c8].length = 2 from rfl) hcs8 (by simp [Value.oneCell']) ?_ ?_; rotate_left; omega; intro v2 w2 hown2 hg2 hat2; have hev2 := EvOwn.add hvl (fun i hi => ⟨(hall i hi).1.nw hR, (hall i hi).2⟩) (Own.sl hu8) (fun _ => own_apart hrow hu8) hown2 hg2 hat2; obtain ⟨q9, c9, rfl⟩ := hev2.shape (n := es.length + 1) (by simp); have y72 : w2.heap[g7]? = some (.cells #[.slice q4 names.length c4, .slice q5 es.length c5] 26 (0, 0)) := (by have h5 := hR.heap y7; rw [hg2.block g7 (lt_of_heap h5) (fun e => by have := (HLT.out g7 e.symm).2; omega)]; exact h5); have y42 : w2.heap[w.heap.size + 1 + 1]? = some (.cells #[.slice none 0 0, .slice none 0 0] 26 (0, 0)) := (by have h5 := hR.heap y4z; rw [hg2.block _ (lt_of_heap h5) (fun e => by have := (HLT.out _ e.symm).1; omega)]; exact h5); have y21 := heap_cell y72 1; have y2f := heap_frozen y72 1; simp only [List.getElem?_toArray, List.getElem?_cons_succ, List.getElem?_cons_zero] at y21)
      | fail)
    have y76 := heap_set y72 1 (.slice q9 (es.length + 1) c9)
    have y46 := (Mods.setCell (Mods.refl (fun k => k = g7) w2) (p := ⟨g7, 1, none⟩) rfl (.slice q9 (es.length + 1) c9)).heap y42 (by omega)
    have hs6 := Sl.set2 (j := 1) (x := .slice q9 (es.length + 1) c9) (Sl.mono_grown (hs5.nw hR) hg2 (fun _ k hk => hap k hk)) y72 strs_not
    have he6 := Evs.set2 (j := 1) (x := .slice q9 (es.length + 1) c9) hev2.evs y72 (fun _ _ => nofun) (fun _ _ => nofun)
    have nw6 : Nw w (w2.setCell ⟨g7, 1, none⟩ (.slice q9 (es.length + 1) c9)) := ((hn.trans (hwz.trans hR)).grown hg2 (fun k hk => by have := (HLT.out k hk).1; omega)).setCell (p := ⟨g7, 1, none⟩) (show w.heap.size ≤ g7 by omega) _
    clear y72 y42 hev2 hg2 hown2 hall hrow hs5
    generalize w2.setCell ⟨g7, 1, none⟩ (.slice q9 (es.length + 1) c9) = w6 at *
    have e0 := heap_cell y76 0
    have e1 := heap_cell y76 1
    have d0 := heap_cell y46 0
    have d1 := heap_cell y46 1
    simp at e0 e1 d0 d1
    have f0 := heap_frozen y46 0
    have f1 := heap_frozen y46 1
    go_wp2
    ((try simp only [Exit.inBlock, Exit.then]); refine bodyPost_ret (results_cell2 rfl _ _ _ _ _ _ _ rfl (heap_set (heap_set y46 0 _) 1 _) Try.underlying26 rfl (by kernel_rfl)) rfl ?_)
    refine ⟨_, rfl, ⟨_, _, rfl, ?_, ?_⟩, ?_⟩
    · exact Sl.set2 (a := .slice q4 names.length c4) (b := .slice none 0 0) (Sl.set2 hs6 y46 strs_not) (heap_set y46 0 _) strs_not
    · exact Evs.set2 (a := .slice q4 names.length c4) (b := .slice none 0 0) (Evs.set2 he6 y46 (fun _ _ => nofun) (fun _ _ => nofun)) (heap_set y46 0 _) (fun _ _ => nofun) (fun _ _ => nofun)
    · exact (nw6.setCell (p := ⟨w.heap.size + 1 + 1, 0, none⟩) (show w.heap.size ≤ w.heap.size + 1 + 1 by omega) _).setCell (p := ⟨w.heap.size + 1 + 1, 1, none⟩) (show w.heap.size ≤ w.heap.size + 1 + 1 by omega) _
end Tr
end Go.Proofs.Ytjelbfodkacipaa
