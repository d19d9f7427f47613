/- Joined texts.
Pools of heads: a head moves one record on. No condition but lengths.
Pools of heads: Next. No condition but lengths.
Pools of heads: Seek. No condition but lengths.
-/
import Derived.Test.YtdihoedehmfgfaaJHds
import Derived.Test.YtdihoedehmfgfaaLogH
import Derived.Deep.CutRange
set_option linter.unusedSimpArgs false
set_option linter.unusedVariables false
namespace Go.Proofs.Ytdihoedehmfgfaa
open Go.ChangeShapes Go.WideShapes Go.ChangeAt Go.RowKit
namespace Hp
open Go.Proofs.Ytdihoedehmfgfaa.Rec (none_ get i64s_open rises rises_len rec_len)
open Go.Proofs.Ytdihoedehmfgfaa.Sc (recP SI Ok record_c HandsRc)
open Go.Proofs.Ytdihoedehmfgfaa.Tr (lt_alloc box2)
theorem recP_ok {b : List UInt8} {r : Nat} {at_ p t k : Int} {l : List Int} (h0 : 0 ≤ p) (h1 : p ≤ 64) (h : recP b r at_ p = ((t, l), k, 0)) : 0 ≤ at_ ∧ at_ < k ∧ k ≤ b.length ∧ 0 ≤ t ∧ t ≤ 18446744073709551615 ∧ l.length ≤ 64 := by
  have ne : ∀ {e : Int}, e ≠ 0 → none_ e ≠ ((t, l), k, 0) := fun {e} he q => he (congrArg (fun x : Rec.Got => x.2.2) q)
  unfold recP at h
  split at h
  · exact absurd h (ne (by decide))
  split at h
  · exact absurd h (ne (by decide))
  rename_i q1 q2
  generalize hg : get ((b.take r).drop (min at_.toNat r)) p = x at h
  obtain ⟨⟨t', l'⟩, m, e⟩ := x
  dsimp only at h
  split at h
  · exact absurd h (ne (by decide))
  split at h
  · rename_i q4; exact absurd h (ne q4)
  · rename_i q3 q4
    have he : e = 0 := by
      rcases Classical.em (e = 0) with q | q
      · exact q
      · exact absurd q q4
    subst he
    obtain ⟨rest, hb, hm, hr, ht0, ht1⟩ := Lg.get_inv h0 h1 hg
    have e1 : t' = t ∧ l' = l ∧ at_ + m = k := by
      have a := congrArg (fun x : Rec.Got => x.1.1) h
      have b := congrArg (fun x : Rec.Got => x.1.2) h
      have c := congrArg (fun x : Rec.Got => x.2.1) h
      exact ⟨a, b, c⟩
    obtain ⟨rfl, rfl, rfl⟩ := e1
    have hl := rises_len h0 hr
    have hlen := congrArg List.length hb
    rw [List.length_append, rec_len, List.length_drop, List.length_take] at hlen
    omega
theorem nxt_ok {b : List UInt8} {r : Nat} {p : Int} {h : HS} (h0 : 0 ≤ p) (h1 : p ≤ 64) (hk : HOk b.length h) : HOk b.length (nxt b r p h).1 := by
  unfold nxt
  generalize hx : recP b r h.at_ p = x
  obtain ⟨⟨t, l⟩, k, e⟩ := x
  dsimp only
  split
  · exact hk
  split
  · exact hk
  · rename_i q1 q2
    have he : e = 0 := by
      rcases Classical.em (e = 0) with q | q
      · exact q
      · exact absurd q q1
    subst he
    obtain ⟨a1, a2, a3, a4, a5, a6⟩ := recP_ok h0 h1 hx
    have := hk.i0
    have := hk.i1
    exact ⟨by show 0 ≤ h.idx + 1; omega, by show h.idx + 1 ≤ k; omega, a3, a4, a5, a6⟩
def NextO (w : World) (c : Cf) (g : Nat) (u : Value) (n : Nat) (z : HS) (e : Ending) (w' : World) : Prop :=
  ∃ u' n', e = .returned (.int .i64 (nxt c.b c.r c.nm.length z).2) ∧ w'.heap[g]? = some (.cells (hcells (nxt c.b c.r c.nm.length z).1 u') 110 (0, 0)) ∧ Own w' (c.s + 1) 3 u' (i64s (nxt c.b c.r c.nm.length z).1.ids) ∧
    (u' = u ∨ ∀ k, u'.ownBlock = some k → w.heap.size ≤ k) ∧ SI w' c.B c.s c.b c.sc c.r n' ∧ n' ≤ n + 100 ∧ Mods (fun k => k = c.s ∨ k = g) w w'
theorem NextO.nw {w : World} {c : Cf} {g : Nat} {u : Value} {n : Nat} {z : HS} {e : Ending} {w' w2 : World} (h : NextO w c g u n z e w') (hn : Nw w' w2) : NextO w c g u n z e w2 := by
  obtain ⟨u', n', h1, h2, h3, h4, h5, h6, h7⟩ := h
  exact ⟨u', n', h1, hn.heap h2, h3.nw hn, h4, h5.nw hn, h6, h7.nw hn⟩
section
variable {w : World} {P : Nat → Prop} {c : Cf} {vh : Value} {rs : List (Option Hd)} {peak : Int} {n : Nat}
def st5 (w : World) (g : Nat) (a b c d e : Value) : World := ((((w.setCell ⟨g, 0, none⟩ a).setCell ⟨g, 1, none⟩ b).setCell ⟨g, 2, none⟩ c).setCell ⟨g, 3, none⟩ d).setCell ⟨g, 4, none⟩ e
theorem st5_mods (w : World) (g : Nat) (a b c d e : Value) : Mods (· = g) w (st5 w g a b c d e) :=
  Mods.setCell (S := (· = g)) (p := ⟨g, 4, none⟩) (Mods.setCell (S := (· = g)) (p := ⟨g, 3, none⟩) (Mods.setCell (S := (· = g)) (p := ⟨g, 2, none⟩) (Mods.setCell (S := (· = g)) (p := ⟨g, 1, none⟩) (Mods.setCell (S := (· = g)) (p := ⟨g, 0, none⟩) (Mods.refl _ w) rfl _) rfl _) rfl _) rfl _) rfl _
theorem st5_heap {w : World} {g : Nat} {a0 b0 c0 d0 e0 : Value} {t : TypeId} (h : w.heap[g]? = some (.cells #[a0, b0, c0, d0, e0] t (0, 0))) (a b c d e : Value) : (st5 w g a b c d e).heap[g]? = some (.cells #[a, b, c, d, e] t (0, 0)) :=
  heap_set (heap_set (heap_set (heap_set (heap_set h 0 a) 1 b) 2 c) 3 d) 4 e
/-- What the region leaves that asks for a record. -/
def EvR (w : World) (c : Cf) (n : Nat) (t k e : Int) (l : List Int) (v5 v6 v7 : Value) (wx : World) : Prop :=
  v6 = .int .i64 k ∧ v7 = .int .i64 e ∧ ∃ g5 p2 c2 n2, v5 = .pointer (some ⟨g5, 0, none⟩) ∧ w.heap.size ≤ g5 ∧ wx.heap[g5]? = some (.cells #[.int .u64 t, .slice p2 l.length c2] 38 (0, 0)) ∧ Own wx (c.s + 1) 3 (.slice p2 l.length c2) (i64s l) ∧ (∀ k, (Value.slice p2 l.length c2).ownBlock = some k → w.heap.size ≤ k) ∧ SI wx c.B c.s c.b c.sc c.r n2 ∧ n2 ≤ n + 100 ∧ Mods (· = c.s) w wx
theorem EvR.box {w w2 : World} {c : Cf} {n n2 c2 : Nat} {t k e : Int} {l : List Int} {p2 : Option Addr} (ho : Own w2 (c.s + 1) 3 (.slice p2 l.length c2) (i64s l)) (hb : ∀ k, (Value.slice p2 l.length c2).ownBlock = some k → w.heap.size ≤ k) (hs : SI w2 c.B c.s c.b c.sc c.r n2) (hn : n2 ≤ n + 100) (hm : Mods (· = c.s) w w2) :
    EvR w c n t k e l (.pointer (some ⟨w2.heap.size, 0, none⟩)) (.int .i64 k) (.int .i64 e) (w2.alloc (.cells #[.int .u64 t, .slice p2 l.length c2] 38)) :=
  ⟨rfl, rfl, _, p2, c2, n2, rfl, hm.size, heap_new _ _, ho.nw ((Nw.refl _).alloc _), hb, hs.nw ((Nw.refl _).alloc _), hn, hm.nw ((Nw.refl _).alloc _)⟩
theorem EvR.set {w w2 : World} {c : Cf} {n n2 c2 : Nat} {t k e : Int} {l : List Int} {p2 : Option Addr} (hns : c.s < w.heap.size) (y5 : w2.heap[w.heap.size]? = some (.cells #[.int .u64 0, .slice none 0 0] 38 (0, 0))) (ho : Own w2 (c.s + 1) 3 (.slice p2 l.length c2) (i64s l)) (hb : ∀ k, (Value.slice p2 l.length c2).ownBlock = some k → w.heap.size ≤ k) (hs : SI w2 c.B c.s c.b c.sc c.r n2) (hn : n2 ≤ n + 100) (hm : Mods (· = c.s) w w2) :
    EvR w c n t k e l (.pointer (some ⟨w.heap.size, 0, none⟩)) (.int .i64 k) (.int .i64 e) ((w2.setCell ⟨w.heap.size, 0, none⟩ (.int .u64 t)).setCell ⟨w.heap.size, 1, none⟩ (.slice p2 l.length c2)) := by
  have hms : Mods (· = w.heap.size) w2 ((w2.setCell ⟨w.heap.size, 0, none⟩ (.int .u64 t)).setCell ⟨w.heap.size, 1, none⟩ (.slice p2 l.length c2)) := Mods.setCell (S := (· = w.heap.size)) (Mods.setCell (S := (· = w.heap.size)) (Mods.refl _ w2) (p := ⟨w.heap.size, 0, none⟩) rfl _) (p := ⟨w.heap.size, 1, none⟩) rfl _
  have y6 := heap_set (heap_set y5 0 (.int .u64 t)) 1 (.slice p2 l.length c2)
  exact ⟨rfl, rfl, _, p2, c2, n2, rfl, Nat.le_refl _, y6, ho.modsR hms (fun k hk q => by
    obtain ⟨_, q1⟩ := row_block ho hk
    exact type_ne q1 y5 (by decide) q), hb, hs.mods hms (fun k q => by omega), hn, hm.absorb hms (fun k q => Or.inr (by omega))⟩
set_option maxRecDepth 20000 in
set_option maxHeartbeats 3200000 in
theorem next_c (h : PI w P c vh rs peak n) (g : Nat) (u : Value) (z : HS) (hz : w.heap[g]? = some (.cells (hcells z u) 110 (0, 0))) (hu : Own w (c.s + 1) 3 u (i64s z.ids)) (hok : HOk c.b.length z) (hgs : c.s < g) (hn : n ≤ 1000000000000) :
    Calls Try.prog 65 #[.pointer (some ⟨c.a, 0, none⟩), .pointer (some ⟨g, 0, none⟩)] w (NextO w c g u n z) := by
  have hbl := h.ok.len
  have hnl := h.nl
  have h0 := hok.i0
  have h1 := hok.i1
  have h2 := hok.i2
  have h3 := hok.t0
  have h4 := hok.t1
  have HRC := hid (fun w' (hn' : Nw w w') => record_c c.B c.s c.b c.sc c.r n z.at_ c.nm.length w' (h.src.nw hn') h.ok (by omega) (by omega) (by omega) (by omega) (by omega))
  obtain ⟨Y, hY⟩ : ∃ Y, nxt c.b c.r c.nm.length z = Y := ⟨_, rfl⟩
  have HY := hid hY
  unfold nxt at hY
  have hal := h.src.lt
  have hsa := (h.low _ h.ma)
  have hsg : g ≠ c.s := fun q => by
    obtain ⟨_, q1⟩ := h.src_blk
    exact type_ne hz q1 (by decide) q
  have hOKR := hid (fun t l k => recP_ok (b := c.b) (r := c.r) (at_ := z.at_) (p := (c.nm.length : Int)) (t := t) (k := k) (l := l) (by omega) (by omega))
  have y := h.blk
  have g0 := lt_of_heap y
  have k0 := heap_cell y 0
  have k1 := heap_cell y 1
  obtain ⟨pn, cn, en, _⟩ := h.nms.sl.open (Lx.strs_length c.nm)
  rw [en] at k1
  obtain ⟨pu, cu, rfl, _⟩ := i64s_open hu.sl
  have gz := lt_of_heap hz
  have z0 := heap_cell hz 0
  have z1 := heap_cell hz 1
  have z2 := heap_cell hz 2
  have z4 := heap_cell hz 4
  have HZ := hid hz
  have HU := hid hu
  unfold hcells at z0 z1 z2 z4
  simp only [List.getElem?_toArray, List.getElem?_cons_succ, List.getElem?_cons_zero] at k0 k1 z0 z1 z2 z4
  have HSB := hid h.src_blk
  have HGS := hid hgs
  generalize hq : recP c.b c.r z.at_ c.nm.length = x at *
  obtain ⟨⟨t, l⟩, k, e⟩ := x
  dsimp only at hY
  have HX := hid hY
  clear h hz hu y hok en hq hY
  have HNM := hid (rfl : c.nm.length = c.nm.length)
  obtain ⟨nl, hnle⟩ : ∃ nl, nl = c.nm.length := ⟨_, rfl⟩
  rw [← hnle] at HRC k1 hnl
  have HNL := hid hnle
  clear hnle HNM
  go_enter Try.func65, Try.ntmps65
  go_upto_region 1 with fail
  go_cut [5, 6, 7] from 9 to 25 (fun v5 v6 v7 wx => EvR w c n t k e l v5 v6 v7 wx)
  case first =>
    clear z1 z2 z4 HX HY HZ HU HSB HNL hbl hnl h0 h1 h2 h3 h4 hn
    have hsw : c.s + 1 ≤ w.heap.size := by omega
    have hns : ¬ w.heap.size = c.s := by omega
    clear hsa hal hsg
    go_region_with (first | (go_at_call 23; refine (HRC.out _ (by repeat (first | assumption | exact Nw.refl _ | refine Nw.alloc ?_ _ | refine Nw.drew ?_ | refine Nw.drewN2 ?_ _ | (refine Nw.trans ?_ (by assumption))))).mono ?_; rintro e' w2 ⟨v2, n2, rfl, hown2, hsi2, hn2, hm2⟩; dsimp only at hown2 ⊢; obtain ⟨p2, c2, rfl, _⟩ := i64s_open hown2.sl; have hown3 := hown2.mono (Nat.le_trans hsw (Nw.size (show Nw w _ from (by repeat (first | assumption | exact Nw.refl _ | refine Nw.alloc ?_ _ | refine Nw.drew ?_ | refine Nw.drewN2 ?_ _ | (refine Nw.trans ?_ (by assumption))))))); have hb2 : ∀ k, (Value.slice p2 l.length c2).ownBlock = some k → w.heap.size ≤ k := (fun k hk => Nat.le_trans (Nw.size (show Nw w _ from (by repeat (first | assumption | exact Nw.refl _ | refine Nw.alloc ?_ _ | refine Nw.drew ?_ | refine Nw.drewN2 ?_ _ | (refine Nw.trans ?_ (by assumption)))))) (hown2.lt k hk)); have hm3 : Mods (· = c.s) w w2 := Mods.trans ((show Nw w _ from (by repeat (first | assumption | exact Nw.refl _ | refine Nw.alloc ?_ _ | refine Nw.drew ?_ | refine Nw.drewN2 ?_ _ | (refine Nw.trans ?_ (by assumption))))).mods _) hm2; (first | (have y5 : w2.heap[w.heap.size]? = some (.cells #[.int .u64 0, .slice none 0 0] 38 (0, 0)) := hm2.heap (heap_new _ _) hns; have d50 := heap_cell y5 0; have d51 := heap_cell y5 1; have e50 := heap_frozen y5 0; have e51 := heap_frozen y5 1; have g5 := lt_of_heap y5; simp only [List.getElem?_toArray, List.getElem?_cons_succ, List.getElem?_cons_zero] at d50 d51; have Y5 := hid y5; clear y5) | skip); clear hm2 hown2) | fail)
    all_goals (go_wp2_with fail)
    all_goals go_meet
    all_goals first | exact EvR.box hown3 hb2 hsi2 hn2 hm3 | exact EvR.set hsw Y5.out hown3 hb2 hsi2 hn2 hm3
  case rest =>
    obtain ⟨rfl, rfl, g5, p2, c2, n2, rfl, hg5, y5, hown, hb2, hsi, hn2, hmd⟩ := hcut
    have hzc := hmd.heap HZ.out hsg
    have huc : Own wc (c.s + 1) 3 (.slice pu z.ids.length cu) (i64s z.ids) := HU.out.modsR hmd (fun k hk q => by
      obtain ⟨_, q1⟩ := row_block HU.out hk
      obtain ⟨_, q2⟩ := HSB.out
      exact type_ne q1 q2 (by decide) q)
    have HZC := hid hzc
    have HUC := hid huc
    have HMD := hid hmd
    have HSI := hid hsi
    have HOW := hid hown
    have HB2 := hid hb2
    have HY5 := hid y5
    have gzc := lt_of_heap hzc
    have g5c := lt_of_heap y5
    have d0 := heap_cell y5 0
    have d1 := heap_cell y5 1
    have z1 := heap_cell hzc 1
    have z2 := heap_cell hzc 2
    have z4 := heap_cell hzc 4
    unfold hcells at z1 z2 z4
    simp only [List.getElem?_toArray, List.getElem?_cons_succ, List.getElem?_cons_zero] at d0 d1 z1 z2 z4
    clear hzc huc hsi hown hb2 y5 hmd HZ HU HSB HRC k0 k1 z0
    by_cases he : e = 0
    · subst he
      obtain ⟨a1, a2, a3, a4, a5, a6⟩ := hOKR.out t l k rfl
      by_cases hlt : z.rd = true ∧ t < z.t
      · have HF := hid (HY.out.trans (HX.out.symm.trans (by rw [if_neg (by decide), if_pos hlt])))
        obtain ⟨hrd, htt⟩ := hlt
        have hdt : decide (t < z.t) = true := decide_eq_true htt
        rw [hrd] at z4
        clear HX htt hrd
        go_upto_region 4 with fail
        refine wp_region_stairs (by kernel_rfl) (by kernel_rfl) (by kernel_rfl) ?_
        iterate 12
          refine Stairs.is ?_ ?_ ?_
          rotate_left 1
          · intro x wR hR hd K hK
            simp only [Act.put, List.setIfInBounds_toArray, List.set_cons_zero, List.set_cons_succ, Nat.reduceAdd, List.length_nil, List.length_cons, List.nil_append, List.cons_append, Say.ok] at hK ⊢
            clear hd
            change Hid _ at hK
            obtain ⟨hcR, hfR, hzR⟩ := nwc hR
            first | (refine wanted_yes ?_ ?_; rfl) | (refine wanted_no ?_ ?_; rfl)
            first | (refine hK.out _ _ ?_ ?_ <;> first | (solve | (repeat (first | assumption | exact Nw.refl _ | refine Nw.alloc ?_ _ | refine Nw.drew ?_ | refine Nw.drewN2 ?_ _ | (refine Nw.trans ?_ (by assumption))))) | ((conv => lhs; whnf) <;> exact rfl) | exact rfl | exact congrArg Value.bool hdt) | (go_step; first | (refine hK.out _ _ ?_ ?_ <;> first | (solve | (repeat (first | assumption | exact Nw.refl _ | refine Nw.alloc ?_ _ | refine Nw.drew ?_ | refine Nw.drewN2 ?_ _ | (refine Nw.trans ?_ (by assumption))))) | ((conv => lhs; whnf) <;> exact rfl) | exact rfl | exact congrArg Value.bool hdt) | ((first | fail); (refine hK.out _ _ ?_ ?_ <;> first | (solve | (repeat (first | assumption | exact Nw.refl _ | refine Nw.alloc ?_ _ | refine Nw.drew ?_ | refine Nw.drewN2 ?_ _ | (refine Nw.trans ?_ (by assumption))))) | ((conv => lhs; whnf) <;> exact rfl) | exact rfl | exact congrArg Value.bool hdt)))
          try simp only [Act.put, List.setIfInBounds_toArray, List.set_cons_zero, List.set_cons_succ, Nat.reduceAdd, List.length_nil, List.length_cons, List.nil_append, List.cons_append]
        iterate 1
          refine Stairs.is (.bool true) ?_ ?_
          · intro x wR hR hd K hK
            simp only [Act.put, List.setIfInBounds_toArray, List.set_cons_zero, List.set_cons_succ, Nat.reduceAdd, List.length_nil, List.length_cons, List.nil_append, List.cons_append, Say.ok] at hK ⊢
            clear hd
            change Hid _ at hK
            obtain ⟨hcR, hfR, hzR⟩ := nwc hR
            first | (refine wanted_yes ?_ ?_; rfl) | (refine wanted_no ?_ ?_; rfl)
            first | (refine hK.out _ _ ?_ ?_ <;> first | (solve | (repeat (first | assumption | exact Nw.refl _ | refine Nw.alloc ?_ _ | refine Nw.drew ?_ | refine Nw.drewN2 ?_ _ | (refine Nw.trans ?_ (by assumption))))) | ((conv => lhs; whnf) <;> exact rfl) | exact rfl | exact congrArg Value.bool hdt) | (go_step; first | (refine hK.out _ _ ?_ ?_ <;> first | (solve | (repeat (first | assumption | exact Nw.refl _ | refine Nw.alloc ?_ _ | refine Nw.drew ?_ | refine Nw.drewN2 ?_ _ | (refine Nw.trans ?_ (by assumption))))) | ((conv => lhs; whnf) <;> exact rfl) | exact rfl | exact congrArg Value.bool hdt) | ((first | fail); (refine hK.out _ _ ?_ ?_ <;> first | (solve | (repeat (first | assumption | exact Nw.refl _ | refine Nw.alloc ?_ _ | refine Nw.drew ?_ | refine Nw.drewN2 ?_ _ | (refine Nw.trans ?_ (by assumption))))) | ((conv => lhs; whnf) <;> exact rfl) | exact rfl | exact congrArg Value.bool hdt)))
          try simp only [Act.put, List.setIfInBounds_toArray, List.set_cons_zero, List.set_cons_succ, Nat.reduceAdd, List.length_nil, List.length_cons, List.nil_append, List.cons_append]
        iterate 1
          refine Stairs.is ?_ ?_ ?_
          rotate_left 1
          · intro x wR hR hd K hK
            simp only [Act.put, List.setIfInBounds_toArray, List.set_cons_zero, List.set_cons_succ, Nat.reduceAdd, List.length_nil, List.length_cons, List.nil_append, List.cons_append, Say.ok] at hK ⊢
            clear hd
            change Hid _ at hK
            obtain ⟨hcR, hfR, hzR⟩ := nwc hR
            first | (refine wanted_yes ?_ ?_; rfl) | (refine wanted_no ?_ ?_; rfl)
            first | (refine hK.out _ _ ?_ ?_ <;> first | (solve | (repeat (first | assumption | exact Nw.refl _ | refine Nw.alloc ?_ _ | refine Nw.drew ?_ | refine Nw.drewN2 ?_ _ | (refine Nw.trans ?_ (by assumption))))) | ((conv => lhs; whnf) <;> exact rfl) | exact rfl | exact congrArg Value.bool hdt) | (go_step; first | (refine hK.out _ _ ?_ ?_ <;> first | (solve | (repeat (first | assumption | exact Nw.refl _ | refine Nw.alloc ?_ _ | refine Nw.drew ?_ | refine Nw.drewN2 ?_ _ | (refine Nw.trans ?_ (by assumption))))) | ((conv => lhs; whnf) <;> exact rfl) | exact rfl | exact congrArg Value.bool hdt) | ((first | fail); (refine hK.out _ _ ?_ ?_ <;> first | (solve | (repeat (first | assumption | exact Nw.refl _ | refine Nw.alloc ?_ _ | refine Nw.drew ?_ | refine Nw.drewN2 ?_ _ | (refine Nw.trans ?_ (by assumption))))) | ((conv => lhs; whnf) <;> exact rfl) | exact rfl | exact congrArg Value.bool hdt)))
          try simp only [Act.put, List.setIfInBounds_toArray, List.set_cons_zero, List.set_cons_succ, Nat.reduceAdd, List.length_nil, List.length_cons, List.nil_append, List.cons_append]
        refine Stairs.nil ?_
        intro x wR hR hx
        clear hx
        obtain ⟨hcR, hfR, hzR⟩ := nwc hR
        clear hcR hfR hzR
        go_wp2
        go_ret
        refine ⟨.slice pu z.ids.length cu, n2, by rw [HF.out]; rfl, by rw [HF.out]; exact hR.heap HZC.out, by rw [HF.out]; exact HUC.out.nw hR, Or.inl rfl, HSI.out.nw hR, hn2, (HMD.out.mono (fun k q => Or.inl q)).nw hR⟩
      · have HF := hid (HY.out.trans (HX.out.symm.trans (by rw [if_neg (by decide), if_neg hlt])))
        go_upto_region 4 with fail
        have HFR := hid (show ∀ wR, Nw wc wR → NextO w c g (.slice pu z.ids.length cu) n z (.returned (.int .i64 0)) (st5 wR g (.int .i64 k) (.int .i64 (z.idx + 1)) (.int .u64 t) (.slice p2 l.length c2) (.bool true)) from fun wR hR => by
          have hm5 := st5_mods wR g (.int .i64 k) (.int .i64 (z.idx + 1)) (.int .u64 t) (.slice p2 l.length c2) (.bool true)
          have hg5 := hR.heap HZC.out
          refine ⟨.slice p2 l.length c2, n2, by rw [HF.out], by rw [HF.out]; exact st5_heap hg5 _ _ _ _ _, by rw [HF.out]; exact (HOW.out.nw hR).modsR hm5 (fun j hj q => by
            obtain ⟨_, q1⟩ := row_block (HOW.out.nw hR) hj
            exact type_ne q1 hg5 (by decide) q), Or.inr HB2.out, (HSI.out.nw hR).mods hm5 (fun j q => by have := HGS.out; omega), hn2, ((HMD.out.mono (fun k q => Or.inl q)).nw hR).trans (hm5.mono (fun k q => Or.inr q))⟩)
        cases hrd : z.rd with
        | false =>
          rw [hrd] at z4
          refine wp_region_stairs (by kernel_rfl) (by kernel_rfl) (by kernel_rfl) ?_
          iterate 14
            refine Stairs.is ?_ ?_ ?_
            rotate_left 1
            · intro x wR hR hd K hK
              simp only [Act.put, List.setIfInBounds_toArray, List.set_cons_zero, List.set_cons_succ, Nat.reduceAdd, List.length_nil, List.length_cons, List.nil_append, List.cons_append, Say.ok] at hK ⊢
              clear hd
              change Hid _ at hK
              obtain ⟨hcR, hfR, hzR⟩ := nwc hR
              first | (refine wanted_yes ?_ ?_; rfl) | (refine wanted_no ?_ ?_; rfl)
              first | (refine hK.out _ _ ?_ ?_ <;> first | (solve | (repeat (first | assumption | exact Nw.refl _ | refine Nw.alloc ?_ _ | refine Nw.drew ?_ | refine Nw.drewN2 ?_ _ | (refine Nw.trans ?_ (by assumption))))) | ((conv => lhs; whnf) <;> exact rfl) | exact rfl | exact congrArg (Value.int .u8) hq2 | exact congrArg (Value.int .u8) hq2' | exact hs5 | exact congrArg Value.bool hd0 | exact congrArg Value.bool (by simp)) | (go_step; first | (refine hK.out _ _ ?_ ?_ <;> first | (solve | (repeat (first | assumption | exact Nw.refl _ | refine Nw.alloc ?_ _ | refine Nw.drew ?_ | refine Nw.drewN2 ?_ _ | (refine Nw.trans ?_ (by assumption))))) | ((conv => lhs; whnf) <;> exact rfl) | exact rfl | exact congrArg (Value.int .u8) hq2 | exact congrArg (Value.int .u8) hq2' | exact hs5 | exact congrArg Value.bool hd0 | exact congrArg Value.bool (by simp)) | ((first | fail); (refine hK.out _ _ ?_ ?_ <;> first | (solve | (repeat (first | assumption | exact Nw.refl _ | refine Nw.alloc ?_ _ | refine Nw.drew ?_ | refine Nw.drewN2 ?_ _ | (refine Nw.trans ?_ (by assumption))))) | ((conv => lhs; whnf) <;> exact rfl) | exact rfl | exact congrArg (Value.int .u8) hq2 | exact congrArg (Value.int .u8) hq2' | exact hs5 | exact congrArg Value.bool hd0 | exact congrArg Value.bool (by simp))))
            try simp only [Act.put, List.setIfInBounds_toArray, List.set_cons_zero, List.set_cons_succ, Nat.reduceAdd, List.length_nil, List.length_cons, List.nil_append, List.cons_append]
          refine Stairs.nil ?_
          intro x wR hR hx
          clear hx
          obtain ⟨hcR, hfR, hzR⟩ := nwc hR
          have ez0 := (hR.heap HZC.out)
          have fz0 := heap_frozen ez0 0
          have fz1 := heap_frozen ez0 1
          have fz2 := heap_frozen ez0 2
          have fz3 := heap_frozen ez0 3
          have fz4 := heap_frozen ez0 4
          have zz0 := heap_cell ez0 0
          have zz1 := heap_cell ez0 1
          have zz2 := heap_cell ez0 2
          have zz3 := heap_cell ez0 3
          have zz4 := heap_cell ez0 4
          unfold hcells at zz0 zz1 zz2 zz3 zz4
          simp only [List.getElem?_toArray, List.getElem?_cons_succ, List.getElem?_cons_zero] at zz0 zz1 zz2 zz3 zz4
          have gR := lt_of_heap ez0
          have d0R := hR.cell d0
          have d1R := hR.cell d1
          have g5R := Nat.lt_of_lt_of_le g5c hR.size
          clear hcR hfR hzR ez0 z1 z2 z4 d0 d1 gzc g5c
          go_upto_region 6 with fail
          go_region
          change Exit.then _ _ _ _ (st5 wR g (.int .i64 k) (.int .i64 (z.idx + 1)) (.int .u64 t) (.slice p2 l.length c2) (.bool true)).drew
          go_wp2
          go_ret
          exact (HFR.out wR hR).nw (Nw.refl _).drew
        | true =>
          rw [hrd] at z4
          have hdt : decide (t < z.t) = false := decide_eq_false (fun q => hlt ⟨hrd, q⟩)
          refine wp_region_stairs (by kernel_rfl) (by kernel_rfl) (by kernel_rfl) ?_
          iterate 12
            refine Stairs.is ?_ ?_ ?_
            rotate_left 1
            · intro x wR hR hd K hK
              simp only [Act.put, List.setIfInBounds_toArray, List.set_cons_zero, List.set_cons_succ, Nat.reduceAdd, List.length_nil, List.length_cons, List.nil_append, List.cons_append, Say.ok] at hK ⊢
              clear hd
              change Hid _ at hK
              obtain ⟨hcR, hfR, hzR⟩ := nwc hR
              first | (refine wanted_yes ?_ ?_; rfl) | (refine wanted_no ?_ ?_; rfl)
              first | (refine hK.out _ _ ?_ ?_ <;> first | (solve | (repeat (first | assumption | exact Nw.refl _ | refine Nw.alloc ?_ _ | refine Nw.drew ?_ | refine Nw.drewN2 ?_ _ | (refine Nw.trans ?_ (by assumption))))) | ((conv => lhs; whnf) <;> exact rfl) | exact rfl | exact congrArg Value.bool hdt) | (go_step; first | (refine hK.out _ _ ?_ ?_ <;> first | (solve | (repeat (first | assumption | exact Nw.refl _ | refine Nw.alloc ?_ _ | refine Nw.drew ?_ | refine Nw.drewN2 ?_ _ | (refine Nw.trans ?_ (by assumption))))) | ((conv => lhs; whnf) <;> exact rfl) | exact rfl | exact congrArg Value.bool hdt) | ((first | fail); (refine hK.out _ _ ?_ ?_ <;> first | (solve | (repeat (first | assumption | exact Nw.refl _ | refine Nw.alloc ?_ _ | refine Nw.drew ?_ | refine Nw.drewN2 ?_ _ | (refine Nw.trans ?_ (by assumption))))) | ((conv => lhs; whnf) <;> exact rfl) | exact rfl | exact congrArg Value.bool hdt)))
            try simp only [Act.put, List.setIfInBounds_toArray, List.set_cons_zero, List.set_cons_succ, Nat.reduceAdd, List.length_nil, List.length_cons, List.nil_append, List.cons_append]
          iterate 1
            refine Stairs.is (.bool false) ?_ ?_
            · intro x wR hR hd K hK
              simp only [Act.put, List.setIfInBounds_toArray, List.set_cons_zero, List.set_cons_succ, Nat.reduceAdd, List.length_nil, List.length_cons, List.nil_append, List.cons_append, Say.ok] at hK ⊢
              clear hd
              change Hid _ at hK
              obtain ⟨hcR, hfR, hzR⟩ := nwc hR
              first | (refine wanted_yes ?_ ?_; rfl) | (refine wanted_no ?_ ?_; rfl)
              first | (refine hK.out _ _ ?_ ?_ <;> first | (solve | (repeat (first | assumption | exact Nw.refl _ | refine Nw.alloc ?_ _ | refine Nw.drew ?_ | refine Nw.drewN2 ?_ _ | (refine Nw.trans ?_ (by assumption))))) | ((conv => lhs; whnf) <;> exact rfl) | exact rfl | exact congrArg Value.bool hdt) | (go_step; first | (refine hK.out _ _ ?_ ?_ <;> first | (solve | (repeat (first | assumption | exact Nw.refl _ | refine Nw.alloc ?_ _ | refine Nw.drew ?_ | refine Nw.drewN2 ?_ _ | (refine Nw.trans ?_ (by assumption))))) | ((conv => lhs; whnf) <;> exact rfl) | exact rfl | exact congrArg Value.bool hdt) | ((first | fail); (refine hK.out _ _ ?_ ?_ <;> first | (solve | (repeat (first | assumption | exact Nw.refl _ | refine Nw.alloc ?_ _ | refine Nw.drew ?_ | refine Nw.drewN2 ?_ _ | (refine Nw.trans ?_ (by assumption))))) | ((conv => lhs; whnf) <;> exact rfl) | exact rfl | exact congrArg Value.bool hdt)))
            try simp only [Act.put, List.setIfInBounds_toArray, List.set_cons_zero, List.set_cons_succ, Nat.reduceAdd, List.length_nil, List.length_cons, List.nil_append, List.cons_append]
          iterate 1
            refine Stairs.is ?_ ?_ ?_
            rotate_left 1
            · intro x wR hR hd K hK
              simp only [Act.put, List.setIfInBounds_toArray, List.set_cons_zero, List.set_cons_succ, Nat.reduceAdd, List.length_nil, List.length_cons, List.nil_append, List.cons_append, Say.ok] at hK ⊢
              clear hd
              change Hid _ at hK
              obtain ⟨hcR, hfR, hzR⟩ := nwc hR
              first | (refine wanted_yes ?_ ?_; rfl) | (refine wanted_no ?_ ?_; rfl)
              first | (refine hK.out _ _ ?_ ?_ <;> first | (solve | (repeat (first | assumption | exact Nw.refl _ | refine Nw.alloc ?_ _ | refine Nw.drew ?_ | refine Nw.drewN2 ?_ _ | (refine Nw.trans ?_ (by assumption))))) | ((conv => lhs; whnf) <;> exact rfl) | exact rfl | exact congrArg Value.bool hdt) | (go_step; first | (refine hK.out _ _ ?_ ?_ <;> first | (solve | (repeat (first | assumption | exact Nw.refl _ | refine Nw.alloc ?_ _ | refine Nw.drew ?_ | refine Nw.drewN2 ?_ _ | (refine Nw.trans ?_ (by assumption))))) | ((conv => lhs; whnf) <;> exact rfl) | exact rfl | exact congrArg Value.bool hdt) | ((first | fail); (refine hK.out _ _ ?_ ?_ <;> first | (solve | (repeat (first | assumption | exact Nw.refl _ | refine Nw.alloc ?_ _ | refine Nw.drew ?_ | refine Nw.drewN2 ?_ _ | (refine Nw.trans ?_ (by assumption))))) | ((conv => lhs; whnf) <;> exact rfl) | exact rfl | exact congrArg Value.bool hdt)))
            try simp only [Act.put, List.setIfInBounds_toArray, List.set_cons_zero, List.set_cons_succ, Nat.reduceAdd, List.length_nil, List.length_cons, List.nil_append, List.cons_append]
          refine Stairs.nil ?_
          intro x wR hR hx
          clear hx
          obtain ⟨hcR, hfR, hzR⟩ := nwc hR
          have ez0 := (hR.heap HZC.out)
          have fz0 := heap_frozen ez0 0
          have fz1 := heap_frozen ez0 1
          have fz2 := heap_frozen ez0 2
          have fz3 := heap_frozen ez0 3
          have fz4 := heap_frozen ez0 4
          have zz0 := heap_cell ez0 0
          have zz1 := heap_cell ez0 1
          have zz2 := heap_cell ez0 2
          have zz3 := heap_cell ez0 3
          have zz4 := heap_cell ez0 4
          unfold hcells at zz0 zz1 zz2 zz3 zz4
          simp only [List.getElem?_toArray, List.getElem?_cons_succ, List.getElem?_cons_zero] at zz0 zz1 zz2 zz3 zz4
          have gR := lt_of_heap ez0
          have d0R := hR.cell d0
          have d1R := hR.cell d1
          have g5R := Nat.lt_of_lt_of_le g5c hR.size
          clear hcR hfR hzR ez0 z1 z2 z4 d0 d1 gzc g5c
          go_upto_region 6 with fail
          go_region
          change Exit.then _ _ _ _ (st5 wR g (.int .i64 k) (.int .i64 (z.idx + 1)) (.int .u64 t) (.slice p2 l.length c2) (.bool true)).drew
          go_wp2
          go_ret
          exact (HFR.out wR hR).nw (Nw.refl _).drew
    · have HF := hid (HY.out.trans (HX.out.symm.trans (if_pos he)))
      have hde : (e != 0) = true := by simpa using he
      clear HX he
      go_wp2
      go_ret
      refine ⟨.slice pu z.ids.length cu, n2, by rw [HF.out]; rfl, by rw [HF.out]; exact HZC.out, by rw [HF.out]; exact HUC.out, Or.inl rfl, HSI.out, hn2, HMD.out.mono (fun k q => Or.inl q)⟩
end
end Hp
end Go.Proofs.Ytdihoedehmfgfaa
namespace Go.Proofs.Ytdihoedehmfgfaa
open Go.ChangeShapes Go.WideShapes Go.ChangeAt Go.RowKit
namespace Hp
open Go.Proofs.Ytdihoedehmfgfaa.Rec (none_ get i64s_open rises rises_len rec_len)
open Go.Proofs.Ytdihoedehmfgfaa.Sc (recP SI Ok record_c HandsRc)
open Go.Proofs.Ytdihoedehmfgfaa.Tr (lt_alloc box2 CloneS EvS ints_shape clonei_c i64s_one)
theorem results_cell2 {P : Program} {fn : Func} {p u : Tmp} {ty : TypeId} (h : fn.results = #[.cell p ty, .tmp u]) (tmps : Array Value) (w : World) (g : Nat) (t : TypeId) (cs : Array Value) (fr : Nat × Nat) (d : TypeDesc)
    (hp : tmps.getD p undef = .pointer (some ⟨g, 0, none⟩)) (hg : w.heap[g]? = some (.cells cs t fr))
    (hu : P.underlying ty = some d) (hd : (match d with | .struct _ | .array _ _ => true | _ => false) = true) (hi : (P.info? ty).map (·.size) = some cs.size) :
    (results fn tmps).run P w = .ok (.tuple #[.agg cs, tmps.getD u undef]) w := by
  have hp' : tmps[p]?.getD undef = .pointer (some ⟨g, 0, none⟩) := by simpa using hp
  simp [results, h, hp', asAddr, run_loadVar_row w g t ty cs fr d hg hu hd hi]
section
variable {w : World} {P : Nat → Prop} {c : Cf} {vh : Value} {rs : List (Option Hd)} {peak : Int} {n : Nat}
/-- A head has moved, and the source with it. -/
theorem PI.moved {w' : World} {i n' : Nat} {x : Hd} {u' : Value} {z' : HS} (h : PI w P c vh rs peak n) (hix : rs[i]? = some (some x)) (hm : Mods (fun k => k = c.s ∨ k = x.g) w w')
    (hb : w'.heap[x.g]? = some (.cells (hcells z' u') 110 (0, 0))) (hu : Own w' (c.s + 1) 3 u' (i64s z'.ids)) (hs : SI w' c.B c.s c.b c.sc c.r n') (hok : HOk c.b.length z') :
    PI w' (fun k => P k ∨ u'.ownBlock = some k) c vh (rs.set i (some ⟨x.g, u', z'⟩)) peak n' := by
  have hx := h.own x (List.mem_of_getElem? hix)
  have hi := (List.getElem?_eq_some_iff.1 hix).1
  have ne : ∀ {j : Nat} {cs : Array Value} {e : TypeId}, w.heap[j]? = some (.cells cs e (0, 0)) → e ≠ 91 → e ≠ 110 → ¬ (j = c.s ∨ j = x.g) := by
    intro j cs e hj h1 h2 q
    rcases q with rfl | rfl
    · obtain ⟨_, q1⟩ := h.src_blk
      exact type_ne hj q1 h1 rfl
    · exact type_ne hj hx.1.blk h2 rfl
  refine ⟨hm.heap h.blk (ne h.blk (by decide) (by decide)), hs, h.nms.modsR hm (fun k hk => ?_), ?_, fun y hy => ?_, ?_, Or.inl h.ma, fun k hk => Or.inl (h.mh k hk), fun k q => ?_, h.fr, h.pk, h.nl, h.ok⟩
  · obtain ⟨_, q1⟩ := row_block h.nms hk
    exact ne q1 (by decide) (by decide)
  · have hr := h.row.modsR hm (fun k hk => by
      obtain ⟨_, q1⟩ := row_block h.row hk
      exact ne q1 (by decide) (by decide))
    rw [show ptrs (rs.set i (some ⟨x.g, u', z'⟩)) = ptrs rs from ?_]
    · exact hr
    · unfold ptrs
      rw [List.map_set]
      apply List.ext_getElem?
      intro j
      rw [List.getElem?_set]
      split
      · rename_i q
        subst q
        rw [List.getElem?_map, hix, List.length_map, if_pos hi]; rfl
      · rfl
  · rcases mem_set hy with q | rfl
    · obtain ⟨j, hj⟩ := List.mem_iff_getElem?.1 hy
      by_cases hji : i = j
      · subst hji
        rw [List.getElem?_set_self hi] at hj
        cases hj
        exact ⟨⟨hb, hu, Or.inl hx.1.mg, fun k hk => Or.inr hk⟩, hok⟩
      · rw [List.getElem?_set_ne hji] at hj
        obtain ⟨hB, hO⟩ := h.own y q
        have hne : y.g ≠ x.g := fun e => hji (h.inj i j x y hix hj e.symm)
        refine ⟨(hB.mods hm (fun q => ?_) (fun k hk => ?_)).more (fun k q => Or.inl q), hO⟩
        · rcases q with q | q
          · have := (h.low _ hB.mg).1; omega
          · exact hne q
        · obtain ⟨_, q1⟩ := row_block hB.ids hk
          exact ne q1 (by decide) (by decide)
    · exact ⟨⟨hb, hu, Or.inl hx.1.mg, fun k hk => Or.inr hk⟩, hok⟩
  · intro a b y z hy hz he
    have key : ∀ (a : Nat) (y : Hd), (rs.set i (some ⟨x.g, u', z'⟩))[a]? = some (some y) → ∃ y0, rs[a]? = some (some y0) ∧ y0.g = y.g := by
      intro a y hy
      rw [List.getElem?_set] at hy
      split at hy
      · rename_i q
        subst q
        cases hy
        exact ⟨x, hix, rfl⟩
      · exact ⟨y, hy, rfl⟩
    obtain ⟨y0, h1, e1⟩ := key a y hy
    obtain ⟨z0, h2, e2⟩ := key b z hz
    exact h.inj a b y0 z0 h1 h2 (by rw [e1, e2, he])
  · rcases q with q | q
    · exact ⟨(h.low k q).1, Nat.lt_of_lt_of_le (h.low k q).2 hm.size⟩
    · have := hu.lt k q
      obtain ⟨_, q1⟩ := row_block hu q
      exact ⟨by omega, lt_of_heap q1⟩
theorem sts_set (rs : List (Option Hd)) (i : Nat) (x : Hd) : sts (rs.set i (some x)) = (sts rs).set i (some x.s) := by
  unfold sts; rw [List.map_set]; rfl
theorem set_same {α : Type} {l : List α} {i : Nat} {x : α} (h : l[i]? = some x) : l.set i x = l := by
  apply List.ext_getElem?
  intro j
  rw [List.getElem?_set]
  split
  · rename_i q
    subst q
    rw [if_pos (List.getElem?_eq_some_iff.1 h).1, h]
  · rfl
theorem sts_at {i : Nat} {x : Hd} (hix : rs[i]? = some (some x)) : (sts rs)[i]? = some (some x.s) := by
  unfold sts; rw [List.getElem?_map, hix]; rfl
/-- A pool's call seen from before a block that the call's caller keeps. -/
theorem PO.cell {wE w2 w3 : World} {hs : List (Option HS)} {N g : Nat} (h : PO wE P c hs peak N w2) (hn : Nw w wE) (hg0 : w.heap.size ≤ g) (hg1 : g < wE.heap.size) (hP : ¬ P g) (hgs : c.s < g) (hb : ∃ cs, w2.heap[g]? = some (.cells cs 38 (0, 0))) (hm : Mods (· = g) w2 w3) : PO w P c hs peak N w3 := by
  obtain ⟨P', vh', rs', n', h1, h2, h3, h4, h5, h6⟩ := h
  obtain ⟨cs, hb⟩ := hb
  refine ⟨P', vh', rs', n', h1, fun k q => ?_, h3.mods hm (fun k q => ⟨by omega, fun q' => ?_⟩) (fun k hk q => ?_), h4, h5, ?_⟩
  · rcases h2 k q with z | z
    · exact Or.inl z
    · exact Or.inr (Nat.le_trans hn.size z)
  · subst q
    rcases h2 _ q' with z | z
    · exact hP z
    · omega
  · obtain ⟨_, q1⟩ := row_block h3.nms hk
    exact type_ne q1 hb (by decide) q
  · exact ((hn.mods _).trans h6).absorb hm (fun k q => Or.inr (by omega))
def nextP (b : List UInt8) (r : Nat) (p : Int) (hs : List (Option HS)) (peak id : Int) : (List (Option HS) × Int) × ((Int × List Int) × Int) :=
  match fnd hs id with
  | none => ((hs, peak), ((0, []), 11))
  | some z => if (nxt b r p z).2 ≠ 0 then ((hs, peak), ((0, []), (nxt b r p z).2)) else
      ((hs.set id.toNat (some (nxt b r p z).1), max peak (cells (hs.set id.toNat (some (nxt b r p z).1)) : Int)), (((nxt b r p z).1.t, (nxt b r p z).1.ids), 0))
def NxO (w : World) (P : Nat → Prop) (c : Cf) (X : (List (Option HS) × Int) × ((Int × List Int) × Int)) (N : Nat) (e : Ending) (w' : World) : Prop :=
  ∃ v, e = .returned (.tuple #[.agg #[.int .u64 X.2.1.1, v], .int .i64 X.2.2]) ∧ Own w' w.heap.size 3 v (i64s X.2.1.2) ∧ PO w P c X.1.1 X.1.2 (N + 100) w'
theorem PO.more {hs : List (Option HS)} {N M : Nat} {w' : World} (h : PO w P c hs peak N w') (hM : N ≤ M) : PO w P c hs peak M w' := by
  obtain ⟨P', vh', rs', n', h1, h2, h3, h4, h5, h6⟩ := h
  exact ⟨P', vh', rs', n', h1, h2, h3, h4, Nat.le_trans h5 hM, h6⟩
set_option maxRecDepth 20000 in
set_option maxHeartbeats 1600000 in
theorem poolnext_c (h : PI w P c vh rs peak n) (id : Int) (hl : rs.length ≤ 90000) (hn : n ≤ 1000000000000) : Calls Try.prog 36 #[.pointer (some ⟨c.a, 0, none⟩), .int .i64 id] w (NxO w P c (nextP c.b c.r c.nm.length (sts rs) peak id) n) := by
  have HSF := hid (fnd_sts rs id)
  generalize hC : nextP c.b c.r c.nm.length (sts rs) peak id = X
  unfold nextP at hC
  have hlo := h.low
  go_enter Try.func36, Try.ntmps36
  go_upto_region 1 with fail
  have yE := heap_new w (.cells #[.int .u64 0, .slice none 0 0] 38)
  have hnE := (Nw.refl w).alloc (.cells #[.int .u64 0, .slice none 0 0] 38)
  have hgE1 := lt_alloc w (.cells #[.int .u64 0, .slice none 0 0] 38)
  have hE := h.nw hnE
  have HPG := hid (show ¬ P w.heap.size from fun q => by have := (hlo _ q).2; omega)
  have HGS := hid (show c.s < w.heap.size by have := hlo _ h.ma; omega)
  generalize w.alloc (.cells #[.int .u64 0, .slice none 0 0] 38) = wE at *
  have hgE : w.heap.size ≤ w.heap.size ∧ w.heap.size < wE.heap.size := ⟨Nat.le_refl _, hgE1⟩
  have HF := hid (find_c hE id)
  obtain ⟨gE, hge⟩ : ∃ gE, gE = w.heap.size := ⟨_, rfl⟩
  rw [← hge] at yE hgE hgE1 HPG HGS
  rw [← hge]
  have hgE : w.heap.size ≤ gE ∧ gE < wE.heap.size := ⟨by omega, hgE1⟩
  clear hge h hlo
  cases hx : fnd rs id with
  | none =>
    rw [hx] at HF HSF
    rw [HSF.out] at hC
    dsimp only [Option.map] at hC
    have HC := hid hC.symm
    have HPO := (PO.refl hE).more (Nat.le_add_right n 100)
    have y2 := yE
    have d0 := heap_cell yE 0
    have d1 := heap_cell yE 1
    have f0 := heap_frozen yE 0
    have f1 := heap_frozen yE 1
    simp only [List.getElem?_toArray, List.getElem?_cons_succ, List.getElem?_cons_zero] at d0 d1
    clear hE hC yE
    go_wp2_with (first
      | (go_at_call 63; refine HF.out.mono ?_; rintro e' w5 ⟨rfl, rfl⟩; simp only [ptr, errOf, Option.isSome])
      | fail)
    ((try simp only [Exit.inBlock, Exit.then]); refine bodyPost_ret (results_cell2 rfl _ _ _ _ _ _ _ rfl (heap_set (heap_set y2 0 (.int .u64 0)) 1 (.slice none 0 0)) Try.underlying38 rfl (by kernel_rfl)) rfl ?_)
    rw [HC.out]
    exact ⟨.slice none 0 0, rfl, Own.nil _ _ _, PO.cell HPO hnE hgE.1 hgE.2 HPG.out HGS.out ⟨_, y2⟩ (Mods.setCell (S := (· = gE)) (p := ⟨gE, 1, none⟩) (Mods.setCell (S := (· = gE)) (p := ⟨gE, 0, none⟩) (Mods.refl _ _) rfl _) rfl _)⟩
  | some x =>
    rw [hx] at HF HSF
    rw [HSF.out] at hC
    dsimp only [Option.map] at hC
    obtain ⟨i, rfl, hi, hix, hm⟩ := fnd_mem hx
    rw [Int.toNat_natCast] at hC
    have hxo := hE.own x hm
    have HNX := hid (next_c hE x.g x.u x.s hxo.1.blk hxo.1.ids hxo.2 (hE.low _ hxo.1.mg).1 hn)
    have HOK := hid (nxt_ok (b := c.b) (r := c.r) (p := c.nm.length) (h := x.s) (by omega) (by have := hE.nl; omega) hxo.2)
    have HE := hid hE
    have HGX := hid (show gE ≠ x.g from fun e => HPG.out (e ▸ hxo.1.mg))
    have HXM := hid hxo.1.mg
    generalize hN : nxt c.b c.r c.nm.length x.s = Y at *
    obtain ⟨z', e⟩ := Y
    dsimp only at hC HOK
    have HN := hid hN
    clear hE hxo hN
    go_upto_region 5 with (first
      | (go_at_call 63; refine HF.out.mono ?_; rintro e' w5 ⟨rfl, rfl⟩; simp only [ptr, errOf, Option.isSome])
      | (go_at_call 65; refine HNX.out.mono ?_; rintro e' w2 ⟨u', n', rfl, hb2, hu2, hf2, hs2, hn2, hm2⟩; rw [HN.out] at hb2 hu2 ⊢; dsimp only at hb2 hu2 ⊢)
      | fail)
    have HMV := hid (HE.out.moved hix hm2 hb2 hu2 hs2 HOK.out)
    have y2 := hm2.heap yE (fun q => by rcases q with q | q; have := HGS.out; omega; exact HGX.out q)
    have hmP : Mods (fun k => P k ∨ k = c.s) wE w2 := hm2.mono (fun k q => by rcases q with q | rfl; exact Or.inr q; exact Or.inl HXM.out)
    have hnew : ∀ k, u'.ownBlock = some k → P k ∨ wE.heap.size ≤ k := fun k hk => by
      rcases hf2 with rfl | q
      · exact Or.inl ((HE.out.own x hm).1.mu k hk)
      · exact Or.inr (q k hk)
    clear hb2 hs2 hm2 yE HNX HF hf2
    by_cases he : e = 0
    · subst he
      rw [if_neg (by decide)] at hC
      have hdl : (rs.set i (some (⟨x.g, u', z'⟩ : Hd))).length ≤ 100000 := by rw [List.length_set]; omega
      have HMT := hid (meter_c HMV.out hdl)
      rw [sts_set] at HMT
      go_upto_region 8 with (first
        | (go_at_call 66; refine HMT.out.mono ?_; rintro e' w3 ⟨rfl, hp3, hm3⟩)
        | fail)
      have hB := (hp3.own ⟨x.g, u', z'⟩ (List.mem_of_getElem? (List.getElem?_set_self hi))).1
      have hO := HOK.out.ids
      have SL := hid hB.ids.sl
      obtain ⟨pu, cu, rfl, _⟩ := i64s_open hu2.sl
      have yx := hB.blk
      have y3 := hm3.heap y2 (fun q => by
        have := type_ne y2 HMV.out.blk (by decide)
        exact this q)
      have gx := lt_of_heap yx
      have x2 := heap_cell yx 2
      have x3 := heap_cell yx 3
      unfold hcells at x2 x3
      simp only [List.getElem?_toArray, List.getElem?_cons_succ, List.getElem?_cons_zero] at x2 x3
      have HPO : PO wE P c ((sts rs).set i (some z')) (max peak (cells ((sts rs).set i (some z')) : Int)) (n + 100) w3 :=
        ⟨_, _, _, n', fun k q => Or.inl q, fun k q => by rcases q with q | q; exact Or.inl q; exact hnew k q, hp3, sts_set rs i ⟨x.g, .slice pu z'.ids.length cu, z'⟩, hn2, hmP.trans (hm3.mono (fun k q => Or.inl (q ▸ HE.out.ma)))⟩
      have HPH := hid HPO
      have hw03 : w.heap.size ≤ w3.heap.size := by
        obtain ⟨_, _, _, _, _, _, _, _, _, hmS⟩ := HPO
        exact Nat.le_trans hnE.size hmS.size
      have HY3 := hid y3
      clear hB HMV hp3 hm3 hmP hnew hu2 yx y2 y3 HMT HPO
      have st6 := CloneS.stab w3.heap.size z'.ids
      have st7 := EvS.stab w3.heap.size z'.t z'.ids
      refine wp_region_tail 12 (by kernel_rfl) (by kernel_rfl) (by kernel_rfl) (by kernel_rfl) (by kernel_rfl) ?_
      dsimp only [List.take, List.drop]
      iterate 10
        refine Stairs.is ?_ ?_ ?_
        rotate_left 1
        · intro x wR hR hd K hK
          simp only [Act.put, List.setIfInBounds_toArray, List.set_cons_zero, List.set_cons_succ, Say.ok] at hK ⊢
          clear hd
          change Hid _ at hK
          obtain ⟨hcR, hfR, hzR⟩ := nwc hR
          first | (refine wanted_yes ?_ ?_; rfl) | (refine wanted_no ?_ ?_; rfl)
          go_wp2_with (first | (go_at_call 52; refine (clonei_c _ _ _ (SL.out.nw (by repeat (first | assumption | exact Nw.refl _ | refine Nw.alloc ?_ _ | refine Nw.drew ?_ | refine Nw.drewN2 ?_ _ | (refine Nw.trans ?_ (by assumption))))) (i64s_one _) (by rw [i64s_length]; omega)).mono ?_; rintro e w5 ⟨u5, rfl, hown5, hn5⟩))
          all_goals (refine hK.out _ _ ?_ ?_ <;> first | (solve | (repeat (first | assumption | exact Nw.refl _ | refine Nw.alloc ?_ _ | refine Nw.drew ?_ | refine Nw.drewN2 ?_ _ | (refine Nw.trans ?_ (by assumption))))) | exact rfl)
        try simp only [Act.put, List.setIfInBounds_toArray, List.set_cons_zero, List.set_cons_succ]
      iterate 1
        refine Stairs.that (CloneS w3.heap.size z'.ids) (by first | assumption | simp) ?_ ?_
        · intro x wR hR hd K hK
          simp only [Act.put, List.setIfInBounds_toArray, List.set_cons_zero, List.set_cons_succ, Say.ok] at hK ⊢
          clear hd
          change Hid _ at hK
          obtain ⟨hcR, hfR, hzR⟩ := nwc hR
          first | (refine wanted_yes ?_ ?_; rfl) | (refine wanted_no ?_ ?_; rfl)
          go_wp2_with (first | (go_at_call 52; refine (clonei_c _ _ _ (SL.out.nw (by repeat (first | assumption | exact Nw.refl _ | refine Nw.alloc ?_ _ | refine Nw.drew ?_ | refine Nw.drewN2 ?_ _ | (refine Nw.trans ?_ (by assumption))))) (i64s_one _) (by rw [i64s_length]; omega)).mono ?_; rintro e w5 ⟨u5, rfl, hown5, hn5⟩))
          all_goals (refine hK.out _ _ ?_ ?_ <;> first | (solve | (repeat (first | assumption | exact Nw.refl _ | refine Nw.alloc ?_ _ | refine Nw.drew ?_ | refine Nw.drewN2 ?_ _ | (refine Nw.trans ?_ (by assumption))))) | exact rfl | exact hown5.mono hR.size)
        try simp only [Act.put, List.setIfInBounds_toArray, List.set_cons_zero, List.set_cons_succ, List.length_nil, List.length_cons, List.nil_append, List.cons_append, Nat.reduceAdd]
      iterate 1
        refine Stairs.that (EvS w3.heap.size z'.t z'.ids) (by first | assumption | simp) ?_ ?_
        · intro x wR hR hd K hK
          simp only [Act.put, List.setIfInBounds_toArray, List.set_cons_zero, List.set_cons_succ, Say.ok] at hK ⊢
          try simp [Region.binds, sayAt, Say.ok] at hd
          change Hid _ at hK
          obtain ⟨hcR, hfR, hzR⟩ := nwc hR
          have hu6 : CloneS w3.heap.size z'.ids wR (x 10) := (by first | exact hd | exact hd.2 | exact hd.1); obtain ⟨q6, c6, e6⟩ := ints_shape hu6; rw [e6] at hK hu6 ⊢
          first | (refine wanted_yes ?_ ?_; rfl) | (refine wanted_no ?_ ?_; rfl)
          go_wp2_with (first | (go_at_call 52; refine (clonei_c _ _ _ (SL.out.nw (by repeat (first | assumption | exact Nw.refl _ | refine Nw.alloc ?_ _ | refine Nw.drew ?_ | refine Nw.drewN2 ?_ _ | (refine Nw.trans ?_ (by assumption))))) (i64s_one _) (by rw [i64s_length]; omega)).mono ?_; rintro e w5 ⟨u5, rfl, hown5, hn5⟩))
          all_goals (refine hK.out _ _ ?_ ?_ <;> first | (solve | (repeat (first | assumption | exact Nw.refl _ | refine Nw.alloc ?_ _ | refine Nw.drew ?_ | refine Nw.drewN2 ?_ _ | (refine Nw.trans ?_ (by assumption))))) | exact rfl | exact ⟨_, rfl, hu6⟩)
        try simp only [Act.put, List.setIfInBounds_toArray, List.set_cons_zero, List.set_cons_succ, List.length_nil, List.length_cons, List.nil_append, List.cons_append, Nat.reduceAdd]
      refine Stairs.nil ?_
      intro x wR hR hx yR
      have h10 := hx 10 (by decide)
      simp only [sayAt, Say.ok] at h10
      have h11 := hx 11 (by decide)
      simp only [sayAt, Say.ok] at h11
      clear hx
      simp only [fill, Act.put, List.setIfInBounds_toArray, List.set_cons_zero, List.set_cons_succ]
      obtain ⟨hcR, hfR, hzR⟩ := nwc hR
      obtain ⟨u11, e11, hu11⟩ := h11
      obtain ⟨q11, c11, rfl⟩ := ints_shape hu11
      rw [e11]
      have y2 := hR.heap HY3.out
      have d0 := heap_cell y2 0
      have d1 := heap_cell y2 1
      have f0 := heap_frozen y2 0
      have f1 := heap_frozen y2 1
      have g2 := lt_of_heap y2
      simp only [List.getElem?_toArray, List.getElem?_cons_succ, List.getElem?_cons_zero] at d0 d1
      have HPO := HPH.out.nw hR
      have HU11 := hid hu11
      have HC := hid hC.symm
      clear hcR hfR hzR x2 x3 h10 hC
      go_wp2
      ((try simp only [Exit.inBlock, Exit.then]); refine bodyPost_ret (results_cell2 rfl _ _ _ _ _ _ _ rfl (heap_set (heap_set y2 0 (.int .u64 z'.t)) 1 (.slice q11 z'.ids.length c11)) Try.underlying38 rfl (by kernel_rfl)) rfl ?_)
      rw [HC.out]
      have hms : Mods (· = gE) wR ((wR.setCell ⟨gE, 0, none⟩ (.int .u64 z'.t)).setCell ⟨gE, 1, none⟩ (.slice q11 z'.ids.length c11)) := Mods.setCell (S := (· = gE)) (p := ⟨gE, 1, none⟩) (Mods.setCell (S := (· = gE)) (p := ⟨gE, 0, none⟩) (Mods.refl _ _) rfl _) rfl _
      exact ⟨_, rfl, Own.mono (Own.modsR HU11.out hms (fun k hk q => by
        obtain ⟨_, q1⟩ := row_block HU11.out hk
        exact type_ne q1 y2 (by decide) q)) hw03, PO.cell HPO hnE hgE.1 hgE.2 HPG.out HGS.out ⟨_, y2⟩ hms⟩
    · rw [if_pos he] at hC
      have HC := hid hC.symm
      have HPO : PO wE P c (sts rs) peak (n + 100) w2 := ⟨_, _, _, n', fun k q => Or.inl q, fun k q => by rcases q with q | q; exact Or.inl q; exact hnew k q, HMV.out, by
        rw [sts_set]
        have hz : z' = x.s := by
          have := HN.out
          unfold nxt at this
          revert this
          generalize recP c.b c.r x.s.at_ c.nm.length = R
          obtain ⟨⟨t, l⟩, k, e1⟩ := R
          dsimp only
          intro this
          split at this
          · exact (congrArg Prod.fst this).symm
          split at this
          · exact (congrArg Prod.fst this).symm
          · exact absurd (congrArg Prod.snd this).symm he
        show (sts rs).set i (some z') = sts rs
        rw [hz]
        exact set_same (sts_at hix), hn2, hmP⟩
      have hde : (e != 0) = true := by simpa using he
      have d0 := heap_cell y2 0
      have d1 := heap_cell y2 1
      have f0 := heap_frozen y2 0
      have f1 := heap_frozen y2 1
      have g2 := lt_of_heap y2
      simp only [List.getElem?_toArray, List.getElem?_cons_succ, List.getElem?_cons_zero] at d0 d1
      clear hC HMV hmP hnew hu2 he
      go_wp2
      ((try simp only [Exit.inBlock, Exit.then]); refine bodyPost_ret (results_cell2 rfl _ _ _ _ _ _ _ rfl (heap_set (heap_set y2 0 (.int .u64 0)) 1 (.slice none 0 0)) Try.underlying38 rfl (by kernel_rfl)) rfl ?_)
      rw [HC.out]
      exact ⟨.slice none 0 0, rfl, Own.nil _ _ _, PO.cell HPO hnE hgE.1 hgE.2 HPG.out HGS.out ⟨_, y2⟩ (Mods.setCell (S := (· = gE)) (p := ⟨gE, 1, none⟩) (Mods.setCell (S := (· = gE)) (p := ⟨gE, 0, none⟩) (Mods.refl _ _) rfl _) rfl _)⟩
end
end Hp
end Go.Proofs.Ytdihoedehmfgfaa
namespace Go.Proofs.Ytdihoedehmfgfaa
open Go.ChangeShapes Go.WideShapes Go.ChangeAt Go.RowKit
namespace Hp
open Go.Proofs.Ytdihoedehmfgfaa.Rec (none_ get i64s_open rises rises_len rec_len)
open Go.Proofs.Ytdihoedehmfgfaa.Sc (recP SI Ok record_c HandsRc)
open Go.Proofs.Ytdihoedehmfgfaa.Tr (lt_alloc box2)
/-- So many records on. -/
def walk (b : List UInt8) (r : Nat) (p : Int) : Nat → HS → HS × Int
  | 0, z => (z, 0)
  | k + 1, z => if (nxt b r p z).2 ≠ 0 then nxt b r p z else walk b r p k (nxt b r p z).1
theorem walk_snoc {b : List UInt8} {r : Nat} {p : Int} : ∀ (k : Nat) (z z' : HS), walk b r p k z = (z', 0) → walk b r p (k + 1) z = nxt b r p z'
  | 0, z, z', h => by
    obtain rfl : z = z' := congrArg Prod.fst h
    unfold walk
    split
    · rfl
    · rename_i q
      have q : (nxt b r p z).2 = 0 := by
        rcases Classical.em ((nxt b r p z).2 = 0) with q1 | q1
        · exact q1
        · exact absurd q1 q
      unfold walk
      exact Prod.ext rfl q.symm
  | k + 1, z, z', h => by
    unfold walk at h
    split at h
    · rename_i q
      exact absurd (congrArg Prod.snd h) q
    · rename_i q
      rw [walk, if_neg q]
      exact walk_snoc k _ z' h
theorem walk_stick {b : List UInt8} {r : Nat} {p : Int} : ∀ (k j : Nat) (z z' : HS) (e : Int), walk b r p k z = (z', e) → e ≠ 0 → k ≤ j → walk b r p j z = (z', e)
  | 0, j, z, z', e, h, he, _ => absurd (congrArg Prod.snd h).symm he
  | k + 1, 0, z, z', e, h, he, hj => by omega
  | k + 1, j + 1, z, z', e, h, he, hj => by
    unfold walk at h ⊢
    split at h
    · rename_i q
      rw [if_pos q]; exact h
    · rename_i q
      rw [if_neg q]
      exact walk_stick k j _ z' e h he (by omega)
theorem nxt_idx {b : List UInt8} {r : Nat} {p : Int} {z z' : HS} (h : nxt b r p z = (z', 0)) : z'.idx = z.idx + 1 := by
  unfold nxt at h
  generalize recP b r z.at_ p = R at h
  obtain ⟨⟨t, l⟩, k, e⟩ := R
  dsimp only at h
  split at h
  · rename_i q; exact absurd (congrArg Prod.snd h) q
  split at h
  · exact absurd (congrArg Prod.snd h) (show ¬ ((8 : Int) = 0) by decide)
  · exact (congrArg (fun x : HS × Int => x.1.idx) h).symm
def seekP (b : List UInt8) (r : Nat) (p first : Int) (hs : List (Option HS)) (peak id k : Int) : (List (Option HS) × Int) × Int :=
  match fnd hs id with
  | none => ((hs, peak), 11)
  | some _ => if k < 0 then ((hs, peak), 1) else
    if (walk b r p k.toNat (hs0 first)).2 ≠ 0 then ((hs, peak), (walk b r p k.toNat (hs0 first)).2) else
      ((hs.set id.toNat (some (walk b r p k.toNat (hs0 first)).1), max peak (cells (hs.set id.toNat (some (walk b r p k.toNat (hs0 first)).1)) : Int)), 0)
def SkO (w : World) (P : Nat → Prop) (c : Cf) (X : (List (Option HS) × Int) × Int) (N : Nat) (e : Ending) (w' : World) : Prop :=
  e = .returned (.int .i64 X.2) ∧ PO w P c X.1.1 X.1.2 (N + 100 * (c.b.length + 2)) w'
section
variable {w : World} {P : Nat → Prop} {c : Cf} {vh : Value} {rs : List (Option Hd)} {peak : Int} {n : Nat}
/-- A head that is none of the pool's has moved, and the source with it. -/
theorem PI.read2 {w' : World} {g n' : Nat} {cs : Array Value} (h : PI w P c vh rs peak n) (hg : ¬ P g) (hgs : c.s < g) (hb : w.heap[g]? = some (.cells cs 110 (0, 0))) (hm : Mods (fun k => k = c.s ∨ k = g) w w') (hs : SI w' c.B c.s c.b c.sc c.r n') : PI w' P c vh rs peak n' := by
  have hp : ∀ k, P k → ¬ (k = c.s ∨ k = g) := fun k q z => by
    rcases z with z | z
    · have := (h.low k q).1; omega
    · exact hg (z ▸ q)
  refine ⟨hm.heap h.blk (hp _ h.ma), hs, h.nms.modsR hm (fun k hk => ?_), h.row.modsR hm (fun k hk => hp k (h.mh k hk)), fun x hx => ⟨(h.own x hx).1.mods hm (hp _ (h.own x hx).1.mg) (fun k hk => hp k ((h.own x hx).1.mu k hk)), (h.own x hx).2⟩, h.inj, h.ma, h.mh, fun k hk => ⟨(h.low k hk).1, Nat.lt_of_lt_of_le (h.low k hk).2 hm.size⟩, h.fr, h.pk, h.nl, h.ok⟩
  obtain ⟨_, q1⟩ := row_block h.nms hk
  rintro (rfl | rfl)
  · obtain ⟨_, q2⟩ := h.src_blk
    exact type_ne q1 q2 (by decide) rfl
  · exact type_ne q1 hb (by decide) rfl
/-- Between two rounds of Seek. -/
structure SkL (w w1 : World) (P : Nat → Prop) (c : Cf) (vh : Value) (rs : List (Option Hd)) (peak : Int) (n g : Nat) (i : Nat) (wr : World) : Prop where
  ex : ∃ z u m, walk c.b c.r c.nm.length i (hs0 c.first) = (z, 0) ∧ wr.heap[g]? = some (.cells (hcells z u) 110 (0, 0)) ∧ Own wr (c.s + 1) 3 u (i64s z.ids) ∧ (∀ k, u.ownBlock = some k → w.heap.size ≤ k) ∧ HOk c.b.length z ∧ z.idx = i ∧ PI wr P c vh rs peak m ∧ m ≤ n + 100 * i
  md : Mods (fun k => k = c.s ∨ k = g) w1 wr
set_option maxRecDepth 20000 in
set_option maxHeartbeats 1600000 in
theorem seek_c (h : PI w P c vh rs peak n) (id k : Int) (hl : rs.length ≤ 90000) (hn : n + 100 * (c.b.length + 2) ≤ 1000000000000) (hk1 : k ≤ 9223372036854775807) : Calls Try.prog 37 #[.pointer (some ⟨c.a, 0, none⟩), .int .i64 id, .int .i64 k] w (SkO w P c (seekP c.b c.r c.nm.length c.first (sts rs) peak id k) n) := by
  have HSF := hid (fnd_sts rs id)
  generalize hC : seekP c.b c.r c.nm.length c.first (sts rs) peak id k = X
  unfold seekP at hC
  have HF := hid (find_c h id)
  cases hx : fnd rs id with
  | none =>
    rw [hx] at HF HSF
    rw [HSF.out] at hC
    dsimp only [Option.map] at hC
    have HC := hid hC.symm
    have HPO := hid ((PO.refl h).more (Nat.le_add_right n (100 * (c.b.length + 2))))
    clear h hC
    go_enter Try.func37, Try.ntmps37
    go_wp2_with (first
      | (go_at_call 63; refine HF.out.mono ?_; rintro e' w5 ⟨rfl, rfl⟩; simp only [ptr, errOf, Option.isSome])
      | fail)
    go_ret
    rw [HC.out]
    exact ⟨rfl, HPO.out⟩
  | some x =>
    rw [hx] at HF HSF
    rw [HSF.out] at hC
    dsimp only [Option.map] at hC
    obtain ⟨i0, rfl, hi, hix, hm⟩ := fnd_mem hx
    rw [Int.toNat_natCast] at hC
    by_cases hk0 : k < 0
    · rw [if_pos hk0] at hC
      have HC := hid hC.symm
      have HPO := hid ((PO.refl h).more (Nat.le_add_right n (100 * (c.b.length + 2))))
      have hd0 : decide (k < 0) = true := decide_eq_true hk0
      clear h hC
      go_enter Try.func37, Try.ntmps37
      go_wp2_with (first
        | (go_at_call 63; refine HF.out.mono ?_; rintro e' w5 ⟨rfl, rfl⟩; simp only [ptr, errOf, Option.isSome])
        | fail)
      go_ret
      rw [HC.out]
      exact ⟨rfl, HPO.out⟩
    · rw [if_neg hk0] at hC
      obtain ⟨K, rfl⟩ : ∃ K : Nat, k = K := ⟨k.toNat, by omega⟩
      rw [Int.toNat_natCast] at hC
      have HC := hid hC
      have hd0 : decide ((K : Int) < 0) = false := decide_eq_false (by omega)
      have y := h.blk
      have g0 := lt_of_heap y
      have k2 := heap_cell y 2
      simp only [List.getElem?_toArray, List.getElem?_cons_succ, List.getElem?_cons_zero] at k2
      have HH := hid h
      have hlw := hid (fun k q => (h.low k q).2)
      have hcsw := (h.low _ h.ma)
      clear y h hC hk0
      go_enter Try.func37, Try.ntmps37
      go_upto_region 7 with (first
        | (go_at_call 63; refine HF.out.mono ?_; rintro e' w5 ⟨rfl, rfl⟩; simp only [ptr, errOf, Option.isSome])
        | fail)
      have yT := heap_new w (.cells #[.int .i64 c.first, .int .i64 0, .int .u64 0, .slice none 0 0, .bool false] 110)
      have hnA := (Nw.refl w).alloc (.cells #[.int .i64 c.first, .int .i64 0, .int .u64 0, .slice none 0 0, .bool false] 110)
      have hgP : ¬ P w.heap.size := fun q => by have := hlw.out _ q; omega
      have hgs : c.s < w.heap.size := by omega
      have h1 := HH.out.nw hnA
      generalize w.alloc (.cells #[.int .i64 c.first, .int .i64 0, .int .u64 0, .slice none 0 0, .bool false] 110) = w1 at *
      obtain ⟨g, hg⟩ : ∃ g, g = w.heap.size := ⟨_, rfl⟩
      rw [← hg] at yT hgP hgs ⊢
      have HGW := hid hg
      have HGP := hid hgP
      have HST := hid (show SkL w w1 P c vh rs peak n g 0 w1 from ⟨⟨hs0 c.first, .slice none 0 0, n, rfl, yT, Own.nil _ _ _, (fun k hk => by cases hk), hs0_ok h1, rfl, h1, Nat.le_refl _⟩, Mods.refl _ _⟩)
      clear hg yT hgP HF k2 hlw hcsw
      go_wp2_with fail
      go_loopw [10, 30] (fun _ i wr => ∃ j : Nat, j ≤ K ∧ i = .int .i64 j ∧ SkL w w1 P c vh rs peak n g j wr) (fun _ i _ => K - (intOf i).toNat)
      case atStart => exact ⟨0, Nat.zero_le _, rfl, HST.out⟩
      case round =>
        obtain ⟨j, hj, rfl, hst⟩ := hrel
        obtain ⟨⟨z, u, m, hw, hb, hu, hf, hok, hidx, hpi, hm2⟩, hmd⟩ := hst
        have hjb : j ≤ c.b.length := by have := hok.i1; have := hok.i2; omega
        by_cases hlt : j < K
        · have hdj : decide (j < K) = true := decide_eq_true hlt
          have HNX := hid (next_c hpi g u z hb hu hok hgs (by omega))
          have HW := hid (walk_snoc j (hs0 c.first) z hw)
          have HOK := hid (nxt_ok (b := c.b) (r := c.r) (p := c.nm.length) (h := z) (by omega) (by have := hpi.nl; omega) hok)
          have HIX := hid (fun z' h => (nxt_idx (b := c.b) (r := c.r) (p := (c.nm.length : Int)) (z := z) (z' := z') h).trans (congrArg (· + 1) hidx))
          have HPI := hid hpi
          have HB := hid hb
          have HMD := hid hmd
          have HFU := hid hf
          generalize hN : nxt c.b c.r c.nm.length z = Y at *
          obtain ⟨z', e⟩ := Y
          dsimp only at HOK
          have HN := hid hN
          clear hN
          clear hpi hb hu hok hw hmd hf
          go_upto_region 10 with (first
            | (go_at_call 65; refine HNX.out.mono ?_; rintro e' w2 ⟨u', n', rfl, hb2, hu2, hf2, hs2, hn2, hm2'⟩; rw [HN.out] at hb2 hu2 ⊢; dsimp only at hb2 hu2 ⊢)
            | fail)
          have hpi2 := HPI.out.read2 HGP.out hgs HB.out hm2' hs2
          have hmd2 := HMD.out.trans hm2'
          have hfu2 : ∀ k, u'.ownBlock = some k → w.heap.size ≤ k := fun k hk => by
            rcases hf2 with rfl | q
            · exact HFU.out k hk
            · exact Nat.le_trans (Nat.le_trans hnA.size HMD.out.size) (q k hk)
          by_cases he : e = 0
          · subst he
            have hidx2 := HIX.out z' rfl
            have HST2 := hid (show SkL w w1 P c vh rs peak n g (j + 1) w2 from ⟨⟨z', u', n', HW.out, hb2, hu2, hfu2, HOK.out, by rw [hidx2]; push_cast; rfl, hpi2, by omega⟩, hmd2⟩)
            clear hpi2 hmd2 hfu2 hb2 hu2 hf2 hs2 hm2' HNX HB HPI HMD HFU hidx2
            go_wp2
            go_roundw
            case rel => exact ⟨j + 1, by omega, by go_num, HST2.out⟩
            case measure => simp [intOf]; omega
          · have hst := HW.out
            have hfin := walk_stick (j + 1) K (hs0 c.first) z' e hst he (by omega)
            have hC2 := HC.out
            rw [hfin, if_pos he] at hC2
            have HC3 := hid hC2.symm
            have hde : (e != 0) = true := by simpa using he
            have HPO := hid (show PO w P c (sts rs) peak (n + 100 * (c.b.length + 2)) w2 from ⟨P, vh, rs, n', fun _ q => q, fun _ q => Or.inl q, hpi2, rfl, by omega, (hnA.mods _).absorb hmd2 (fun k q => by
              rcases q with rfl | rfl
              · exact Or.inl (Or.inr rfl)
              · exact Or.inr (by rw [HGW.out]; exact Nat.le_refl _))⟩)
            clear hpi2 hmd2 hfu2 hb2 hu2 hf2 hs2 hm2' HNX HB HPI HMD HFU hC2 hst hfin he
            go_wp2
            go_ret
            rw [HC3.out]
            exact ⟨rfl, HPO.out⟩
        · obtain rfl : j = K := by omega
          have hdj : decide (j < j) = false := decide_eq_false (by omega)
          have hC2 := HC.out
          rw [hw, if_neg (show ¬ ((0 : Int) ≠ 0) by decide)] at hC2
          have HC3 := hid hC2.symm
          have hxo := hpi.own x hm
          have hgx : g ≠ x.g := fun e => HGP.out (e ▸ hxo.1.mg)
          obtain ⟨px, cx, ex, _⟩ := i64s_open hxo.1.ids.sl
          have yx := hxo.1.blk
          rw [hcells, ex] at yx
          have gx := lt_of_heap yx
          have x0 := heap_cell yx 0
          have x1 := heap_cell yx 1
          have x2 := heap_cell yx 2
          have x3 := heap_cell yx 3
          have x4 := heap_cell yx 4
          have e0 := heap_frozen yx 0
          have e1 := heap_frozen yx 1
          have e2 := heap_frozen yx 2
          have e3 := heap_frozen yx 3
          have e4 := heap_frozen yx 4
          obtain ⟨pu, cu, rfl, _⟩ := i64s_open hu.sl
          have yg := hb
          rw [hcells] at yg
          have gg := lt_of_heap yg
          have z0 := heap_cell yg 0
          have z1 := heap_cell yg 1
          have z2 := heap_cell yg 2
          have z3 := heap_cell yg 3
          have z4 := heap_cell yg 4
          simp only [List.getElem?_toArray, List.getElem?_cons_succ, List.getElem?_cons_zero] at x0 x1 x2 x3 x4 z0 z1 z2 z3 z4
          have hm5 := st5_mods wr x.g (.int .i64 z.at_) (.int .i64 z.idx) (.int .u64 z.t) (.slice pu z.ids.length cu) (.bool z.rd)
          have HMV := hid (hpi.moved (n' := m) hix (hm5.mono (fun k q => Or.inr q)) (st5_heap hxo.1.blk _ _ _ _ _) (hu.modsR hm5 (fun k hk q => by
            obtain ⟨_, q1⟩ := row_block hu hk
            exact type_ne q1 hxo.1.blk (by decide) q)) (hpi.src.mods hm5 (fun k q => by have := (hpi.low _ hxo.1.mg).1; omega)) hok)
          have HFU := hid hf
          have HXM := hid hxo.1.mg
          have HMD := hid ((hmd.trans (Mods.refl _ _)))
          have HM5 := hid hm5
          have hdl : (rs.set i0 (some (⟨x.g, .slice pu z.ids.length cu, z⟩ : Hd))).length ≤ 100000 := by rw [List.length_set]; omega
          have HMT := hid (meter_c HMV.out hdl)
          rw [sts_set] at HMT
          have HMA := hid hpi.ma
          have HIDX := hid hidx
          clear hpi hb hu hok hw hmd hf hxo ex yx yg hm5 hC2 hdl hidx
          go_upto_region 14 with fail
          change Code.wp _ _ _ _ (st5 wr x.g (.int .i64 z.at_) (.int .i64 z.idx) (.int .u64 z.t) (.slice pu z.ids.length cu) (.bool z.rd))
          clear x0 x1 x2 x3 x4 e0 e1 e2 e3 e4 z0 z1 z2 z3 z4
          go_wp2_with (first
            | (go_at_call 66; refine HMT.out.mono ?_; rintro e' w3 ⟨rfl, hp3, hm3⟩)
            | fail)
          go_ret
          rw [HC3.out]
          refine ⟨rfl, _, _, _, m, fun k q => Or.inl q, fun k q => ?_, hp3, sts_set rs i0 ⟨x.g, .slice pu z.ids.length cu, z⟩, by omega, ?_⟩
          · rcases q with q | q
            · exact Or.inl q
            · exact Or.inr (HFU.out k q)
          · have hA : Mods (fun k => P k ∨ k = c.s) w wr := (hnA.mods _).absorb HMD.out (fun k q => by
              rcases q with rfl | rfl
              · exact Or.inl (Or.inr rfl)
              · exact Or.inr (by rw [HGW.out]; exact Nat.le_refl _))
            exact (hA.trans (HM5.out.mono (fun k q => Or.inl (q ▸ HXM.out)))).trans (hm3.mono (fun k q => Or.inl (q ▸ HMA.out)))
end
end Hp
end Go.Proofs.Ytdihoedehmfgfaa
