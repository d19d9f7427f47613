/- The contract of the document's Put. No condition but lengths. -/
import Derived.Test.YthellicimicieaaMemoH
set_option linter.unusedSimpArgs false
set_option linter.unusedVariables false
namespace Go.Proofs.Ythellicimicieaa
open Go.ChangeShapes Go.WideShapes Go.ChangeAt Go.RowKit
namespace Mm
open Go.Proofs.Ythellicimicieaa.Words (Wd wd trim Set ws ws_one ws_length same same_c samewords_c rtrim_c HandsW or or_c)
theorem RI.hand {w w' : World} {P : Nat → Prop} {B a : Nat} {v : Value} {f : Nat → V3} {m : Me} {h' : Nat} (h : RI w P B a v f m) (hm : Mods (fun k => k = a) w w') (hb : w'.heap[a]? = some (.cells #[.int .i64 (m.room : Int), .int .i64 (h' : Int), v] 80 (0, 0))) (hh : h' < m.room) : RI w' P B a v f ⟨m.room, m.l, h'⟩ :=
  ⟨hb, h.ge, h.mine, h.row.mods hm (fun k hk e => by
    obtain ⟨_, cur, hc⟩ := row_block h.row.own hk
    exact type_ne h.blk hc (by decide) e.symm) (fun k e => e ▸ h.mine) (fun _ q => q) (fun _ q => Or.inl q), h.ok.r0, h.ok.r1, h.ok.len, hh, h.ok.en⟩
set_option maxRecDepth 20000 in
set_option maxHeartbeats 3200000 in
theorem rput_c (P : Nat → Prop) (B a : Nat) (u : Value) (f : Nat → V3) (m : Me) (us uv ux : Value) (s v x_ : List Wd) (e : Bool) (w : World) (hm : RI w P B a u f m) (hP : ∀ k, P k → k < w.heap.size) (k1 : Set w us s) (k2 : Set w uv v) (k3 : Set w ux x_) (ls : s.length ≤ 1000) (lv : v.length ≤ 1000) (lx : x_.length ≤ 1000) :
    Calls Try.prog 31 #[.pointer (some ⟨a, 0, none⟩), us, uv, .agg #[ux, .bool e]] w fun en w' => en = .returned (.tuple #[]) ∧ RO w P B a u (putM m s v x_ e) w' := by
  have HFI := hid (fun w' (h : Nw w w') => rfind_c P B a u f m us uv s v w' (hm.nw h) (k1.nw h) (k2.nw h) ls lv)
  have HP1 := hid (fun w' (h : Nw w w') => rtrim_c us s w' (k1.nw h) (by omega))
  have HP2 := hid (fun w' (h : Nw w w') => rtrim_c uv v w' (k2.nw h) (by omega))
  have HP3 := hid (fun w' (h : Nw w w') => rtrim_c ux x_ w' (k3.nw h) (by omega))
  obtain ⟨p1, c1v, rfl, _⟩ := k1.open
  obtain ⟨p2, c2v, rfl, _⟩ := k2.open
  obtain ⟨p3, c3v, rfl, _⟩ := k3.open
  obtain ⟨p, cap, rfl, hcap, hmx, _, hc⟩ := row_open hm.row
  unfold maxLen at hmx
  have hal := hm.lt
  clear k1 k2 k3
  go_enter Try.func31, Try.ntmps31
  go_upto_region 1 with fail
  have y7 := heap_new w (.cells #[.slice p3 x_.length c3v, .bool e] 47)
  have hnA := (Nw.refl w).alloc (.cells #[.slice p3 x_.length c3v, .bool e] 47)
  have lA := lt_alloc w (.cells #[.slice p3 x_.length c3v, .bool e] 47)
  generalize w.alloc (.cells #[.slice p3 x_.length c3v, .bool e] 47) = w0 at *
  have b0 := heap_cell y7 0
  have b1 := heap_cell y7 1
  simp only [List.getElem?_toArray, List.getElem?_cons_succ, List.getElem?_cons_zero] at b0 b1
  refine wp_region_tail 12 (by kernel_rfl) (by kernel_rfl) (by kernel_rfl) (by kernel_rfl) (by kernel_rfl) ?_
  dsimp only [List.take, List.drop]
  iterate 1
    refine Stairs.is ?_ ?_ ?_
    rotate_left 1
    · intro x wR hR hd K hK
      simp only [Act.put, List.setIfInBounds_toArray, List.set_cons_zero, List.set_cons_succ, Say.ok] at hK ⊢
      clear hd
      change Hid _ at hK
      obtain ⟨hcR, hfR, hzR⟩ := nwc hR
      first | (refine wanted_yes ?_ ?_; rfl) | (refine wanted_no ?_ ?_; rfl)
      go_wp2_with (first | (go_at_call_of 27 (Value.slice p1 s.length c1v); refine (HP1.out _ (hnA.trans (by repeat (first | assumption | exact Nw.refl _ | refine Nw.alloc ?_ _ | refine Nw.drew ?_ | refine Nw.drewN2 ?_ _ | (refine Nw.trans ?_ (by assumption)))))).mono ?_; rintro e w5 ⟨v5, rfl, hs5, hf5, hn5⟩) | (go_at_call_of 27 (Value.slice p2 v.length c2v); refine (HP2.out _ (hnA.trans (by repeat (first | assumption | exact Nw.refl _ | refine Nw.alloc ?_ _ | refine Nw.drew ?_ | refine Nw.drewN2 ?_ _ | (refine Nw.trans ?_ (by assumption)))))).mono ?_; rintro e w5 ⟨v5, rfl, hs5, hf5, hn5⟩) | (go_at_call 27; refine (HP3.out _ (hnA.trans (by repeat (first | assumption | exact Nw.refl _ | refine Nw.alloc ?_ _ | refine Nw.drew ?_ | refine Nw.drewN2 ?_ _ | (refine Nw.trans ?_ (by assumption)))))).mono ?_; rintro e w5 ⟨v5, rfl, hs5, hf5, hn5⟩))
      all_goals (refine hK.out _ _ ?_ ?_ <;> first | (solve | (repeat (first | assumption | exact Nw.refl _ | refine Nw.alloc ?_ _ | refine Nw.drew ?_ | refine Nw.drewN2 ?_ _ | (refine Nw.trans ?_ (by assumption))))) | exact rfl)
    try simp only [Act.put, List.setIfInBounds_toArray, List.set_cons_zero, List.set_cons_succ]
  iterate 1
    refine Stairs.that (WdS w0.heap.size (trim s)) (by first | assumption | simp) ?_ ?_
    · intro x wR hR hd K hK
      simp only [Act.put, List.setIfInBounds_toArray, List.set_cons_zero, List.set_cons_succ, Say.ok] at hK ⊢
      clear hd
      change Hid _ at hK
      obtain ⟨hcR, hfR, hzR⟩ := nwc hR
      first | (refine wanted_yes ?_ ?_; rfl) | (refine wanted_no ?_ ?_; rfl)
      go_wp2_with (first | (go_at_call_of 27 (Value.slice p1 s.length c1v); refine (HP1.out _ (hnA.trans (by repeat (first | assumption | exact Nw.refl _ | refine Nw.alloc ?_ _ | refine Nw.drew ?_ | refine Nw.drewN2 ?_ _ | (refine Nw.trans ?_ (by assumption)))))).mono ?_; rintro e w5 ⟨v5, rfl, hs5, hf5, hn5⟩) | (go_at_call_of 27 (Value.slice p2 v.length c2v); refine (HP2.out _ (hnA.trans (by repeat (first | assumption | exact Nw.refl _ | refine Nw.alloc ?_ _ | refine Nw.drew ?_ | refine Nw.drewN2 ?_ _ | (refine Nw.trans ?_ (by assumption)))))).mono ?_; rintro e w5 ⟨v5, rfl, hs5, hf5, hn5⟩) | (go_at_call 27; refine (HP3.out _ (hnA.trans (by repeat (first | assumption | exact Nw.refl _ | refine Nw.alloc ?_ _ | refine Nw.drew ?_ | refine Nw.drewN2 ?_ _ | (refine Nw.trans ?_ (by assumption)))))).mono ?_; rintro e w5 ⟨v5, rfl, hs5, hf5, hn5⟩))
      all_goals (refine hK.out _ _ ?_ ?_ <;> first | (solve | (repeat (first | assumption | exact Nw.refl _ | refine Nw.alloc ?_ _ | refine Nw.drew ?_ | refine Nw.drewN2 ?_ _ | (refine Nw.trans ?_ (by assumption))))) | exact rfl | exact WdS.of hs5 hf5 (Nw.size (by assumption)))
    try simp only [Act.put, List.setIfInBounds_toArray, List.set_cons_zero, List.set_cons_succ, List.length_nil, List.length_cons, List.nil_append, List.cons_append, Nat.reduceAdd]
  iterate 1
    refine Stairs.is ?_ ?_ ?_
    rotate_left 1
    · intro x wR hR hd K hK
      simp only [Act.put, List.setIfInBounds_toArray, List.set_cons_zero, List.set_cons_succ, Say.ok] at hK ⊢
      try simp [Region.binds, sayAt, Say.ok] at hd
      change Hid _ at hK
      obtain ⟨hcR, hfR, hzR⟩ := nwc hR
      first | (refine wanted_yes ?_ ?_; rfl) | (refine wanted_no ?_ ?_; rfl)
      go_wp2_with (first | (go_at_call_of 27 (Value.slice p1 s.length c1v); refine (HP1.out _ (hnA.trans (by repeat (first | assumption | exact Nw.refl _ | refine Nw.alloc ?_ _ | refine Nw.drew ?_ | refine Nw.drewN2 ?_ _ | (refine Nw.trans ?_ (by assumption)))))).mono ?_; rintro e w5 ⟨v5, rfl, hs5, hf5, hn5⟩) | (go_at_call_of 27 (Value.slice p2 v.length c2v); refine (HP2.out _ (hnA.trans (by repeat (first | assumption | exact Nw.refl _ | refine Nw.alloc ?_ _ | refine Nw.drew ?_ | refine Nw.drewN2 ?_ _ | (refine Nw.trans ?_ (by assumption)))))).mono ?_; rintro e w5 ⟨v5, rfl, hs5, hf5, hn5⟩) | (go_at_call 27; refine (HP3.out _ (hnA.trans (by repeat (first | assumption | exact Nw.refl _ | refine Nw.alloc ?_ _ | refine Nw.drew ?_ | refine Nw.drewN2 ?_ _ | (refine Nw.trans ?_ (by assumption)))))).mono ?_; rintro e w5 ⟨v5, rfl, hs5, hf5, hn5⟩))
      all_goals (refine hK.out _ _ ?_ ?_ <;> first | (solve | (repeat (first | assumption | exact Nw.refl _ | refine Nw.alloc ?_ _ | refine Nw.drew ?_ | refine Nw.drewN2 ?_ _ | (refine Nw.trans ?_ (by assumption))))) | exact rfl)
    try simp only [Act.put, List.setIfInBounds_toArray, List.set_cons_zero, List.set_cons_succ]
  iterate 1
    refine Stairs.that (WdS w0.heap.size (trim v)) (by first | assumption | simp) ?_ ?_
    · intro x wR hR hd K hK
      simp only [Act.put, List.setIfInBounds_toArray, List.set_cons_zero, List.set_cons_succ, Say.ok] at hK ⊢
      try simp [Region.binds, sayAt, Say.ok] at hd
      change Hid _ at hK
      obtain ⟨hcR, hfR, hzR⟩ := nwc hR
      first | (refine wanted_yes ?_ ?_; rfl) | (refine wanted_no ?_ ?_; rfl)
      go_wp2_with (first | (go_at_call_of 27 (Value.slice p1 s.length c1v); refine (HP1.out _ (hnA.trans (by repeat (first | assumption | exact Nw.refl _ | refine Nw.alloc ?_ _ | refine Nw.drew ?_ | refine Nw.drewN2 ?_ _ | (refine Nw.trans ?_ (by assumption)))))).mono ?_; rintro e w5 ⟨v5, rfl, hs5, hf5, hn5⟩) | (go_at_call_of 27 (Value.slice p2 v.length c2v); refine (HP2.out _ (hnA.trans (by repeat (first | assumption | exact Nw.refl _ | refine Nw.alloc ?_ _ | refine Nw.drew ?_ | refine Nw.drewN2 ?_ _ | (refine Nw.trans ?_ (by assumption)))))).mono ?_; rintro e w5 ⟨v5, rfl, hs5, hf5, hn5⟩) | (go_at_call 27; refine (HP3.out _ (hnA.trans (by repeat (first | assumption | exact Nw.refl _ | refine Nw.alloc ?_ _ | refine Nw.drew ?_ | refine Nw.drewN2 ?_ _ | (refine Nw.trans ?_ (by assumption)))))).mono ?_; rintro e w5 ⟨v5, rfl, hs5, hf5, hn5⟩))
      all_goals (refine hK.out _ _ ?_ ?_ <;> first | (solve | (repeat (first | assumption | exact Nw.refl _ | refine Nw.alloc ?_ _ | refine Nw.drew ?_ | refine Nw.drewN2 ?_ _ | (refine Nw.trans ?_ (by assumption))))) | exact rfl | exact WdS.of hs5 hf5 (Nw.size (by assumption)))
    try simp only [Act.put, List.setIfInBounds_toArray, List.set_cons_zero, List.set_cons_succ, List.length_nil, List.length_cons, List.nil_append, List.cons_append, Nat.reduceAdd]
  iterate 2
    refine Stairs.is ?_ ?_ ?_
    rotate_left 1
    · intro x wR hR hd K hK
      simp only [Act.put, List.setIfInBounds_toArray, List.set_cons_zero, List.set_cons_succ, Say.ok] at hK ⊢
      try simp [Region.binds, sayAt, Say.ok] at hd
      change Hid _ at hK
      obtain ⟨hcR, hfR, hzR⟩ := nwc hR
      first | (refine wanted_yes ?_ ?_; rfl) | (refine wanted_no ?_ ?_; rfl)
      go_wp2_with (first | (go_at_call_of 27 (Value.slice p1 s.length c1v); refine (HP1.out _ (hnA.trans (by repeat (first | assumption | exact Nw.refl _ | refine Nw.alloc ?_ _ | refine Nw.drew ?_ | refine Nw.drewN2 ?_ _ | (refine Nw.trans ?_ (by assumption)))))).mono ?_; rintro e w5 ⟨v5, rfl, hs5, hf5, hn5⟩) | (go_at_call_of 27 (Value.slice p2 v.length c2v); refine (HP2.out _ (hnA.trans (by repeat (first | assumption | exact Nw.refl _ | refine Nw.alloc ?_ _ | refine Nw.drew ?_ | refine Nw.drewN2 ?_ _ | (refine Nw.trans ?_ (by assumption)))))).mono ?_; rintro e w5 ⟨v5, rfl, hs5, hf5, hn5⟩) | (go_at_call 27; refine (HP3.out _ (hnA.trans (by repeat (first | assumption | exact Nw.refl _ | refine Nw.alloc ?_ _ | refine Nw.drew ?_ | refine Nw.drewN2 ?_ _ | (refine Nw.trans ?_ (by assumption)))))).mono ?_; rintro e w5 ⟨v5, rfl, hs5, hf5, hn5⟩))
      all_goals (refine hK.out _ _ ?_ ?_ <;> first | (solve | (repeat (first | assumption | exact Nw.refl _ | refine Nw.alloc ?_ _ | refine Nw.drew ?_ | refine Nw.drewN2 ?_ _ | (refine Nw.trans ?_ (by assumption))))) | exact rfl)
    try simp only [Act.put, List.setIfInBounds_toArray, List.set_cons_zero, List.set_cons_succ]
  iterate 1
    refine Stairs.that (WdS w0.heap.size (trim x_)) (by first | assumption | simp) ?_ ?_
    · intro x wR hR hd K hK
      simp only [Act.put, List.setIfInBounds_toArray, List.set_cons_zero, List.set_cons_succ, Say.ok] at hK ⊢
      try simp [Region.binds, sayAt, Say.ok] at hd
      change Hid _ at hK
      obtain ⟨hcR, hfR, hzR⟩ := nwc hR
      first | (refine wanted_yes ?_ ?_; rfl) | (refine wanted_no ?_ ?_; rfl)
      go_wp2_with (first | (go_at_call_of 27 (Value.slice p1 s.length c1v); refine (HP1.out _ (hnA.trans (by repeat (first | assumption | exact Nw.refl _ | refine Nw.alloc ?_ _ | refine Nw.drew ?_ | refine Nw.drewN2 ?_ _ | (refine Nw.trans ?_ (by assumption)))))).mono ?_; rintro e w5 ⟨v5, rfl, hs5, hf5, hn5⟩) | (go_at_call_of 27 (Value.slice p2 v.length c2v); refine (HP2.out _ (hnA.trans (by repeat (first | assumption | exact Nw.refl _ | refine Nw.alloc ?_ _ | refine Nw.drew ?_ | refine Nw.drewN2 ?_ _ | (refine Nw.trans ?_ (by assumption)))))).mono ?_; rintro e w5 ⟨v5, rfl, hs5, hf5, hn5⟩) | (go_at_call 27; refine (HP3.out _ (hnA.trans (by repeat (first | assumption | exact Nw.refl _ | refine Nw.alloc ?_ _ | refine Nw.drew ?_ | refine Nw.drewN2 ?_ _ | (refine Nw.trans ?_ (by assumption)))))).mono ?_; rintro e w5 ⟨v5, rfl, hs5, hf5, hn5⟩))
      all_goals (refine hK.out _ _ ?_ ?_ <;> first | (solve | (repeat (first | assumption | exact Nw.refl _ | refine Nw.alloc ?_ _ | refine Nw.drew ?_ | refine Nw.drewN2 ?_ _ | (refine Nw.trans ?_ (by assumption))))) | exact rfl | exact WdS.of hs5 hf5 (Nw.size (by assumption)))
    try simp only [Act.put, List.setIfInBounds_toArray, List.set_cons_zero, List.set_cons_succ, List.length_nil, List.length_cons, List.nil_append, List.cons_append, Nat.reduceAdd]
  iterate 2
    refine Stairs.is ?_ ?_ ?_
    rotate_left 1
    · intro x wR hR hd K hK
      simp only [Act.put, List.setIfInBounds_toArray, List.set_cons_zero, List.set_cons_succ, Say.ok] at hK ⊢
      try simp [Region.binds, sayAt, Say.ok] at hd
      change Hid _ at hK
      obtain ⟨hcR, hfR, hzR⟩ := nwc hR
      first | (refine wanted_yes ?_ ?_; rfl) | (refine wanted_no ?_ ?_; rfl)
      go_wp2_with (first | (go_at_call_of 27 (Value.slice p1 s.length c1v); refine (HP1.out _ (hnA.trans (by repeat (first | assumption | exact Nw.refl _ | refine Nw.alloc ?_ _ | refine Nw.drew ?_ | refine Nw.drewN2 ?_ _ | (refine Nw.trans ?_ (by assumption)))))).mono ?_; rintro e w5 ⟨v5, rfl, hs5, hf5, hn5⟩) | (go_at_call_of 27 (Value.slice p2 v.length c2v); refine (HP2.out _ (hnA.trans (by repeat (first | assumption | exact Nw.refl _ | refine Nw.alloc ?_ _ | refine Nw.drew ?_ | refine Nw.drewN2 ?_ _ | (refine Nw.trans ?_ (by assumption)))))).mono ?_; rintro e w5 ⟨v5, rfl, hs5, hf5, hn5⟩) | (go_at_call 27; refine (HP3.out _ (hnA.trans (by repeat (first | assumption | exact Nw.refl _ | refine Nw.alloc ?_ _ | refine Nw.drew ?_ | refine Nw.drewN2 ?_ _ | (refine Nw.trans ?_ (by assumption)))))).mono ?_; rintro e w5 ⟨v5, rfl, hs5, hf5, hn5⟩))
      all_goals (refine hK.out _ _ ?_ ?_ <;> first | (solve | (repeat (first | assumption | exact Nw.refl _ | refine Nw.alloc ?_ _ | refine Nw.drew ?_ | refine Nw.drewN2 ?_ _ | (refine Nw.trans ?_ (by assumption))))) | exact rfl)
    try simp only [Act.put, List.setIfInBounds_toArray, List.set_cons_zero, List.set_cons_succ]
  iterate 1
    refine Stairs.that (MvS w0.heap.size (trim x_) e) (by first | assumption | simp) ?_ ?_
    · intro x wR hR hd K hK
      simp only [Act.put, List.setIfInBounds_toArray, List.set_cons_zero, List.set_cons_succ, Say.ok] at hK ⊢
      try simp [Region.binds, sayAt, Say.ok] at hd
      change Hid _ at hK
      obtain ⟨hcR, hfR, hzR⟩ := nwc hR
      have hu5 : WdS w0.heap.size (trim x_) wR (x 6) := (by first | exact hd | exact hd.2 | exact hd.1); obtain ⟨q5, n5, c5, e5, hu5'⟩ := hu5; rw [e5] at hK ⊢
      first | (refine wanted_yes ?_ ?_; rfl) | (refine wanted_no ?_ ?_; rfl)
      go_wp2_with (first | (go_at_call_of 27 (Value.slice p1 s.length c1v); refine (HP1.out _ (hnA.trans (by repeat (first | assumption | exact Nw.refl _ | refine Nw.alloc ?_ _ | refine Nw.drew ?_ | refine Nw.drewN2 ?_ _ | (refine Nw.trans ?_ (by assumption)))))).mono ?_; rintro e w5 ⟨v5, rfl, hs5, hf5, hn5⟩) | (go_at_call_of 27 (Value.slice p2 v.length c2v); refine (HP2.out _ (hnA.trans (by repeat (first | assumption | exact Nw.refl _ | refine Nw.alloc ?_ _ | refine Nw.drew ?_ | refine Nw.drewN2 ?_ _ | (refine Nw.trans ?_ (by assumption)))))).mono ?_; rintro e w5 ⟨v5, rfl, hs5, hf5, hn5⟩) | (go_at_call 27; refine (HP3.out _ (hnA.trans (by repeat (first | assumption | exact Nw.refl _ | refine Nw.alloc ?_ _ | refine Nw.drew ?_ | refine Nw.drewN2 ?_ _ | (refine Nw.trans ?_ (by assumption)))))).mono ?_; rintro e w5 ⟨v5, rfl, hs5, hf5, hn5⟩))
      all_goals (refine hK.out _ _ ?_ ?_ <;> first | (solve | (repeat (first | assumption | exact Nw.refl _ | refine Nw.alloc ?_ _ | refine Nw.drew ?_ | refine Nw.drewN2 ?_ _ | (refine Nw.trans ?_ (by assumption))))) | exact rfl | exact ⟨_, _, _, rfl, hu5'⟩)
    try simp only [Act.put, List.setIfInBounds_toArray, List.set_cons_zero, List.set_cons_succ, List.length_nil, List.length_cons, List.nil_append, List.cons_append, Nat.reduceAdd]
  iterate 1
    refine Stairs.that (EnS w0.heap.size (trim s) (trim v) (trim x_) e) (by first | assumption | simp) ?_ ?_
    · intro x wR hR hd K hK
      simp only [Act.put, List.setIfInBounds_toArray, List.set_cons_zero, List.set_cons_succ, Say.ok] at hK ⊢
      try simp [Region.binds, sayAt, Say.ok] at hd
      change Hid _ at hK
      obtain ⟨hcR, hfR, hzR⟩ := nwc hR
      have hu1 : WdS w0.heap.size (trim s) wR (x 1) := (by first | exact hd.1 | exact hd.2.1 | exact hd.2.2); have hu3 : WdS w0.heap.size (trim v) wR (x 3) := (by first | exact hd.1 | exact hd.2.1 | exact hd.2.2); have hu9 : MvS w0.heap.size (trim x_) e wR (x 9) := (by first | exact hd.1 | exact hd.2.1 | exact hd.2.2); obtain ⟨q5, n5, c5, e5, hu1'⟩ := hu1; obtain ⟨q6, n6, c6, e6, hu3'⟩ := hu3; obtain ⟨q7, n7, c7, e7, hu9'⟩ := hu9; rw [e5, e6, e7] at hK ⊢
      first | (refine wanted_yes ?_ ?_; rfl) | (refine wanted_no ?_ ?_; rfl)
      go_wp2_with (first | (go_at_call_of 27 (Value.slice p1 s.length c1v); refine (HP1.out _ (hnA.trans (by repeat (first | assumption | exact Nw.refl _ | refine Nw.alloc ?_ _ | refine Nw.drew ?_ | refine Nw.drewN2 ?_ _ | (refine Nw.trans ?_ (by assumption)))))).mono ?_; rintro e w5 ⟨v5, rfl, hs5, hf5, hn5⟩) | (go_at_call_of 27 (Value.slice p2 v.length c2v); refine (HP2.out _ (hnA.trans (by repeat (first | assumption | exact Nw.refl _ | refine Nw.alloc ?_ _ | refine Nw.drew ?_ | refine Nw.drewN2 ?_ _ | (refine Nw.trans ?_ (by assumption)))))).mono ?_; rintro e w5 ⟨v5, rfl, hs5, hf5, hn5⟩) | (go_at_call 27; refine (HP3.out _ (hnA.trans (by repeat (first | assumption | exact Nw.refl _ | refine Nw.alloc ?_ _ | refine Nw.drew ?_ | refine Nw.drewN2 ?_ _ | (refine Nw.trans ?_ (by assumption)))))).mono ?_; rintro e w5 ⟨v5, rfl, hs5, hf5, hn5⟩))
      all_goals (refine hK.out _ _ ?_ ?_ <;> first | (solve | (repeat (first | assumption | exact Nw.refl _ | refine Nw.alloc ?_ _ | refine Nw.drew ?_ | refine Nw.drewN2 ?_ _ | (refine Nw.trans ?_ (by assumption))))) | exact rfl | exact ⟨_, _, _, _, _, _, _, _, _, rfl, hu1', hu3', hu9'⟩)
    try simp only [Act.put, List.setIfInBounds_toArray, List.set_cons_zero, List.set_cons_succ, List.length_nil, List.length_cons, List.nil_append, List.cons_append, Nat.reduceAdd]
  iterate 1
    refine Stairs.that (BoxS w0.heap.size (87)) (by first | assumption | simp) ?_ ?_
    · intro x wR hR hd K hK
      simp only [Act.put, List.setIfInBounds_toArray, List.set_cons_zero, List.set_cons_succ, Say.ok] at hK ⊢
      try simp [Region.binds, sayAt, Say.ok] at hd
      change Hid _ at hK
      obtain ⟨hcR, hfR, hzR⟩ := nwc hR
      first | (refine wanted_yes ?_ ?_; rfl) | (refine wanted_no ?_ ?_; rfl)
      go_wp2_with (first | (go_at_call_of 27 (Value.slice p1 s.length c1v); refine (HP1.out _ (hnA.trans (by repeat (first | assumption | exact Nw.refl _ | refine Nw.alloc ?_ _ | refine Nw.drew ?_ | refine Nw.drewN2 ?_ _ | (refine Nw.trans ?_ (by assumption)))))).mono ?_; rintro e w5 ⟨v5, rfl, hs5, hf5, hn5⟩) | (go_at_call_of 27 (Value.slice p2 v.length c2v); refine (HP2.out _ (hnA.trans (by repeat (first | assumption | exact Nw.refl _ | refine Nw.alloc ?_ _ | refine Nw.drew ?_ | refine Nw.drewN2 ?_ _ | (refine Nw.trans ?_ (by assumption)))))).mono ?_; rintro e w5 ⟨v5, rfl, hs5, hf5, hn5⟩) | (go_at_call 27; refine (HP3.out _ (hnA.trans (by repeat (first | assumption | exact Nw.refl _ | refine Nw.alloc ?_ _ | refine Nw.drew ?_ | refine Nw.drewN2 ?_ _ | (refine Nw.trans ?_ (by assumption)))))).mono ?_; rintro e w5 ⟨v5, rfl, hs5, hf5, hn5⟩))
      all_goals (refine hK.out _ _ ?_ ?_ <;> first | (solve | (repeat (first | assumption | exact Nw.refl _ | refine Nw.alloc ?_ _ | refine Nw.drew ?_ | refine Nw.drewN2 ?_ _ | (refine Nw.trans ?_ (by assumption))))) | exact rfl | exact ⟨_, rfl, Nw.size (by assumption), heap_new _ _⟩)
    try simp only [Act.put, List.setIfInBounds_toArray, List.set_cons_zero, List.set_cons_succ, List.length_nil, List.length_cons, List.nil_append, List.cons_append, Nat.reduceAdd]
  refine Stairs.nil ?_
  intro x wR hR hx yR
  have h1 := hx 1 (by decide)
  simp only [sayAt, Say.ok] at h1
  have h3 := hx 3 (by decide)
  simp only [sayAt, Say.ok] at h3
  have h6 := hx 6 (by decide)
  simp only [sayAt, Say.ok] at h6
  have h9 := hx 9 (by decide)
  simp only [sayAt, Say.ok] at h9
  have h10 := hx 10 (by decide)
  simp only [sayAt, Say.ok] at h10
  have h11 := hx 11 (by decide)
  simp only [sayAt, Say.ok] at h11
  clear hx
  simp only [fill, Act.put, List.setIfInBounds_toArray, List.set_cons_zero, List.set_cons_succ]
  obtain ⟨hcR, hfR, hzR⟩ := nwc hR
  clear h1 h3 h6 h9
  obtain ⟨q1, n1, d1, q2, n2, d2, q3, n3, d3, e10, hz1, hz2, hz3⟩ := h10
  obtain ⟨g8, e11, hg8, hb8⟩ := h11
  rw [e10, e11]
  have HB := hid (enb_make (W := w) (e := e) hnA.size hg8 hb8 hz1 hz2 hz3)
  have hnS : Nw w (st5 wR g8 0 (.slice q1 n1 d1) (.slice q2 n2 d2) (.slice q3 n3 d3) (.bool e) (.bool true)) := (hnA.trans hR).ofMods (st5_mods wR g8 0 _ _ _ _ _) (fun k hk => by have := hnA.size; omega)
  have i0 := heap_cell hb8 0
  have i1 := heap_cell hb8 1
  have i2 := heap_cell hb8 2
  have i3 := heap_cell hb8 3
  have i4 := heap_cell hb8 4
  have j0 := heap_frozen hb8 0
  have j1 := heap_frozen hb8 1
  have j2 := heap_frozen hb8 2
  have j3 := heap_frozen hb8 3
  have j4 := heap_frozen hb8 4
  have jg := lt_of_heap hb8
  simp only [List.getElem?_toArray, List.getElem?_cons_succ, List.getElem?_cons_zero] at i0 i1 i2 i3 i4
  clear hcR hfR hzR hz1 hz2 hz3 hb8 b0 b1 y7 e10 e11 hR
  go_upto_region 2 with fail
  change Code.wp _ _ _ _ (st5 wR g8 0 (.slice q1 n1 d1) (.slice q2 n2 d2) (.slice q3 n3 d3) (.bool e) (.bool true))
  clear i0 i1 i2 i3 i4 j0 j1 j2 j3 j4 jg
  generalize st5 wR g8 0 (.slice q1 n1 d1) (.slice q2 n2 d2) (.slice q3 n3 d3) (.bool e) (.bool true) = wS at *
  clear HP1 HP2 HP3
  by_cases hf : fnd m.l s v < m.l.length
  · have HG := hid (show putM m s v x_ e = ⟨m.room, m.l.set (fnd m.l s v) (new_ s v x_ e), m.hand⟩ from if_pos hf)
    have HOK := hid (putM_ok hm.ok e ls lv lx)
    have hpl : plc m.l.length (fnd m.l s v) = (fnd m.l s v : Int) := if_pos hf
    rw [hpl] at HFI
    clear hpl
    generalize fnd m.l s v = i at *
    obtain ⟨g, rfl, _⟩ := hc i hf
    clear hc
    have hd0 : decide ((0 : Int) ≤ (i : Int)) = true := decide_eq_true (by omega)
    have hdl : decide ((m.l.length : Int) ≤ (i : Int)) = false := decide_eq_false (by omega)
    go_upto_region 4 with (first
      | (go_at_call 54; refine (HFI.out _ hnS).mono ?_; rintro en w1 ⟨rfl, hn1⟩)
      | fail)
    have hw1 := hnS.trans hn1
    have hm1 := hm.nw hw1
    have HB1 := hid (HB.out.nw hn1)
    have hgw : g < w.heap.size := hP g (hm.row.mine g rfl)
    have ga1 : a < w1.heap.size := hm1.lt
    have e1 := heap_cell hm1.blk 2
    have x0 := heap_cell HB1.out.blk 0
    have x1 := heap_cell HB1.out.blk 1
    have x2 := heap_cell HB1.out.blk 2
    have x3 := heap_cell HB1.out.blk 3
    have x4 := heap_cell HB1.out.blk 4
    have xg := lt_of_heap HB1.out.blk
    simp only [List.getElem?_toArray, List.getElem?_cons_succ, List.getElem?_cons_zero, new_] at e1 x0 x1 x2 x3 x4
    clear HFI
    refine wp_region_end rfl (by kernel_rfl) (by kernel_rfl) (by kernel_rfl) (by kernel_rfl) (by kernel_rfl) ?_
    dsimp only [List.dropLast]
    iterate 7
      refine Stairs.is ?_ ?_ ?_
      rotate_left 1
      · intro x wR hR hd K hK
        simp only [Act.put, List.setIfInBounds_toArray, List.set_cons_zero, List.set_cons_succ, Nat.reduceAdd, List.length_nil, List.length_cons, List.nil_append, List.cons_append, Say.ok] at hK ⊢
        clear hd
        change Hid _ at hK
        obtain ⟨hcR, hfR, hzR⟩ := nwc hR
        first | (refine wanted_yes ?_ ?_; rfl) | (refine wanted_no ?_ ?_; rfl)
        go_wp2_with (first | fail)
        all_goals (refine hK.out _ _ ?_ ?_ <;> first | (solve | (repeat (first | assumption | exact Nw.refl _ | refine Nw.alloc ?_ _ | refine Nw.drew ?_ | refine Nw.drewN2 ?_ _ | (refine Nw.trans ?_ (by assumption))))) | exact rfl)
      try simp only [Act.put, List.setIfInBounds_toArray, List.set_cons_zero, List.set_cons_succ, Nat.reduceAdd, List.length_nil, List.length_cons, List.nil_append, List.cons_append]
    refine Stairs.nil ?_
    intro x wR hR hx
    clear hx
    obtain ⟨hcR, hfR, hzR⟩ := nwc hR
    try dsimp only
    clear hcR hfR hzR x0 x1 x2 x3 x4 xg e1 ga1
    replace hm1 := hm1.nw hR
    replace HB1 := hid (HB1.out.nw hR)
    replace hw1 := hw1.trans hR
    obtain ⟨_, _, h9, _, _, _, hc2⟩ := row_open hm1.row
    simp only [Value.slice.injEq] at h9
    obtain ⟨rfl, _, rfl⟩ := h9
    obtain ⟨_, e9, c0, c1, c2, c3, c4⟩ := hc2 i hf
    cases e9
    clear hc2
    obtain ⟨⟨y1, y2, y3, _⟩, ⟨y4, y5, y6, _⟩, y7, y8, y9, _⟩ := And.intro (hm1.row.sets i hf).1.open (And.intro (hm1.row.sets i hf).2.1.open (hm1.row.sets i hf).2.2.open)
    rw [y3] at c0
    rw [y6] at c1
    rw [y9] at c2
    have z0 := row_frozen hm1.row (i * 5)
    have z1 := row_frozen hm1.row (i * 5 + 1)
    have z2 := row_frozen hm1.row (i * 5 + 2)
    have z3 := row_frozen hm1.row (i * 5 + 3)
    have z4 := row_frozen hm1.row (i * 5 + 4)
    have gg := World.block_lt_of_cell? wR _ c0
    simp only at gg
    clear y3 y6 y9
    go_wp2
    ((try simp only [Exit.inBlock, Exit.then]); refine bodyPost_ret (results_none rfl _ _ _) rfl ?_)
    have HR := row_put hm1.row rfl hf (.slice q1 n1 d1, .slice q2 n2 d2, .slice q3 n3 d3) (new_ s v x_ e) (HB1.out.setP hP)
    have hst := st5_mods wR g (i * 5) (.slice q1 n1 d1) (.slice q2 n2 d2) (.slice q3 n3 d3) (.bool e) (.bool true)
    have hne := type_ne hm1.blk (row_block hm1.row.own (k := g) rfl).2.choose_spec (by decide)
    rw [HG.out]
    rw [HG.out] at HOK
    exact ⟨rfl, P, _, _, fun _ q => q, fun _ q => Or.inl q, fun k q => Nat.lt_of_lt_of_le (hP k q) (Nat.le_trans hw1.size hst.size), ⟨hst.heap hm1.blk hne, hm1.ge, hm1.mine, HR, HOK.out⟩, (hw1.mods _).trans (hst.mono (fun k hk => Or.inr (by rw [hk]; rfl))), fun _ q => Or.inl q⟩
  · have hpl : plc m.l.length (fnd m.l s v) = -1 := if_neg hf
    rw [hpl] at HFI
    clear hpl hc
    by_cases hr : m.l.length < m.room
    · have HG := hid (show putM m s v x_ e = ⟨m.room, m.l ++ [new_ s v x_ e], m.hand⟩ from (if_neg hf).trans (if_pos hr))
      have HOK := hid (putM_ok hm.ok e ls lv lx)
      have hdr : decide ((m.l.length : Int) < (m.room : Int)) = true := decide_eq_true (by omega)
      have hdrn : decide (m.l.length < m.room) = true := decide_eq_true hr
      have hl40 := hm.ok.r1
      clear hf
      go_upto_region 5 with (first
        | (go_at_call 54; refine (HFI.out _ hnS).mono ?_; rintro en w1 ⟨rfl, hn1⟩)
        | fail)
      have hw1 := hnS.trans hn1
      have hm1 := hm.nw hw1
      have HB1 := hid (HB.out.nw hn1)
      have ga1 : a < w1.heap.size := hm1.lt
      have e0 := heap_cell hm1.blk 0
      have e1 := heap_cell hm1.blk 2
      have x0 := heap_cell HB1.out.blk 0
      have x1 := heap_cell HB1.out.blk 1
      have x2 := heap_cell HB1.out.blk 2
      have x3 := heap_cell HB1.out.blk 3
      have x4 := heap_cell HB1.out.blk 4
      have xg := lt_of_heap HB1.out.blk
      simp only [List.getElem?_toArray, List.getElem?_cons_succ, List.getElem?_cons_zero, new_] at e0 e1 x0 x1 x2 x3 x4
      clear HFI HB hm hnS hn1
      refine wp_region_stairs (by kernel_rfl) (by kernel_rfl) (by kernel_rfl) ?_
      iterate 10
        refine Stairs.is ?_ ?_ ?_
        rotate_left 1
        · intro x wR hR hd K hK
          simp only [Act.put, List.setIfInBounds_toArray, List.set_cons_zero, List.set_cons_succ, Nat.reduceAdd, List.length_nil, List.length_cons, List.nil_append, List.cons_append, Say.ok] at hK ⊢
          clear hd
          change Hid _ at hK
          obtain ⟨hcR, hfR, hzR⟩ := nwc hR
          first | (refine wanted_yes ?_ ?_; rfl) | (refine wanted_no ?_ ?_; rfl)
          go_wp2_with (first | fail)
          all_goals (refine hK.out _ _ ?_ ?_ <;> first | (solve | (repeat (first | assumption | exact Nw.refl _ | refine Nw.alloc ?_ _ | refine Nw.drew ?_ | refine Nw.drewN2 ?_ _ | (refine Nw.trans ?_ (by assumption))))) | exact rfl)
        try simp only [Act.put, List.setIfInBounds_toArray, List.set_cons_zero, List.set_cons_succ, Nat.reduceAdd, List.length_nil, List.length_cons, List.nil_append, List.cons_append]
      refine Stairs.nil ?_
      intro x wR hR hx
      clear hx
      obtain ⟨hcR, hfR, hzR⟩ := nwc hR
      replace hm1 := hm1.nw hR
      replace hw1 := hw1.trans hR
      replace HB1 := hid (HB1.out.nw hR)
      replace ga1 := Nat.lt_of_lt_of_le ga1 hR.size
      replace xg := Nat.lt_of_lt_of_le xg hR.size
      replace e1 := hR.cell e1
      replace x0 := hR.cell x0
      replace x1 := hR.cell x1
      replace x2 := hR.cell x2
      replace x3 := hR.cell x3
      replace x4 := hR.cell x4
      clear hcR hfR hzR e0 hR
      generalize wR = w2 at *
      go_upto_region 6 with fail
      refine wp_region_free 7 [.pointer (some ⟨a, 0, none⟩)] (by kernel_rfl) (by kernel_rfl) (by kernel_rfl) (by kernel_rfl) (by kernel_rfl) ?_
      dsimp only [List.take, List.drop, List.length_cons, List.length_nil, Nat.reduceAdd]
      iterate 1
        refine StairsC.step ?_ ?_
        · intro x wR hR hd K hK
          simp only [Act.put, List.setIfInBounds_toArray, List.set_cons_zero, List.set_cons_succ, Say.ok] at hK ⊢
          clear hd
          change Hid _ at hK
          obtain ⟨hcR, hfR, hzR⟩ := nwc hR
          first | (refine wanted_yes ?_ ?_; rfl) | (refine wanted_no ?_ ?_; rfl)
          go_wp2_with (first | fail)
          all_goals (refine hK.out _ _ ?_ ?_ <;> first | (solve | (repeat (first | assumption | exact Nw.refl _ | refine Nw.alloc ?_ _ | refine Nw.drew ?_ | refine Nw.drewN2 ?_ _ | (refine Nw.trans ?_ (by assumption))))) | exact rfl)
        try simp only [Act.put, List.setIfInBounds_toArray, List.set_cons_zero, List.set_cons_succ]
      refine StairsC.start ?_
      try simp only [List.nil_append, List.cons_append]
      iterate 5
        refine Stairs.is ?_ ?_ ?_
        rotate_left 1
        · intro x wR hR hd K hK
          simp only [Act.put, List.setIfInBounds_toArray, List.set_cons_zero, List.set_cons_succ, Say.ok] at hK ⊢
          clear hd
          change Hid _ at hK
          obtain ⟨hcR, hfR, hzR⟩ := nwc hR
          first | (refine wanted_yes ?_ ?_; rfl) | (refine wanted_no ?_ ?_; rfl)
          go_wp2_with (first | fail)
          all_goals (refine hK.out _ _ ?_ ?_ <;> first | (solve | (repeat (first | assumption | exact Nw.refl _ | refine Nw.alloc ?_ _ | refine Nw.drew ?_ | refine Nw.drewN2 ?_ _ | (refine Nw.trans ?_ (by assumption))))) | exact rfl)
        try simp only [Act.put, List.setIfInBounds_toArray, List.set_cons_zero, List.set_cons_succ]
      iterate 1
        refine Stairs.that (OneE (.slice q1 n1 d1, .slice q2 n2 d2, .slice q3 n3 d3) (new_ s v x_ e)) (by first | assumption | simp) ?_ ?_
        · intro x wR hR hd K hK
          simp only [Act.put, List.setIfInBounds_toArray, List.set_cons_zero, List.set_cons_succ, Say.ok] at hK ⊢
          clear hd
          change Hid _ at hK
          obtain ⟨hcR, hfR, hzR⟩ := nwc hR
          first | (refine wanted_yes ?_ ?_; rfl) | (refine wanted_no ?_ ?_; rfl)
          go_wp2_with (first | fail)
          all_goals (refine hK.out _ _ ?_ ?_ <;> first | (solve | (repeat (first | assumption | exact Nw.refl _ | refine Nw.alloc ?_ _ | refine Nw.drew ?_ | refine Nw.drewN2 ?_ _ | (refine Nw.trans ?_ (by assumption))))) | exact rfl | exact one_new _ (.slice q1 n1 d1, .slice q2 n2 d2, .slice q3 n3 d3) (new_ s v x_ e) _)
        try simp only [Act.put, List.setIfInBounds_toArray, List.set_cons_zero, List.set_cons_succ, List.length_nil, List.length_cons, List.nil_append, List.cons_append, Nat.reduceAdd]
      refine Stairs.nil ?_
      intro x wR hR hx cR hcR2 yR
      have h6 := hx 6 (by decide)
      simp only [sayAt, Say.ok] at h6
      clear hx
      obtain ⟨hcR, hfR, hzR⟩ := nwc hR
      obtain ⟨g9, e9, hcs9⟩ := h6
      rw [e9]
      replace hm1 := hm1.nw hR
      replace hw1 := hw1.trans hR
      replace HB1 := hid (HB1.out.nw hR)
      have hBw : B ≤ wR.heap.size := Nat.le_trans hm1.ge (Nat.le_of_lt hm1.lt)
      have hown1 := hm1.row.own
      have hc3 : cR = 0 ∨ cR = 1 := by omega
      clear hcR2 e1 x0 x1 x2 x3 x4 ga1 xg
      rcases hc3 with rfl | rfl
      all_goals
        simp only [opsAt, rest, refill, List.range', Nat.reduceSub, Nat.reduceAdd, List.length_cons, List.length_nil, List.cons_append, List.nil_append, List.filterMap_cons, List.filterMap_nil, List.getElem?_cons_zero, List.getElem?_cons_succ, List.foldl_cons, List.foldl_nil, fill, Act.put, List.setIfInBounds_toArray, List.set_cons_zero, List.set_cons_succ]
        show wpList _ _ _ (_ :: _) _ _
        clear hcR hfR hzR
        go_wp2_with (first
          | (at_builtin; refine appat rfl _ _ _ rfl _ _ _ _ Try.underlying78 info_rentry rfl (by decide) (by decide) hBw hown1 rfl rfl (ent_len _ _) hcs9 (by simp [Value.oneCell', ent]) ?_ ?_; rotate_left; omega; intro v2 w2 hown2 hg2 hat2; obtain ⟨g2, cap2, rfl⟩ := row_slice hown2 (Nat.succ_pos _); obtain ⟨hmd2, hb2⟩ := app_keeps (by decide) hm1.blk hown1 hg2; have f1 := heap_frozen hb2 2; have k1 := heap_cell hb2 2; have ga2 := lt_of_heap hb2; simp only [List.getElem?_toArray, List.getElem?_cons_succ, List.getElem?_cons_zero] at k1)
          | fail)
        ((try simp only [Exit.inBlock, Exit.then]); refine bodyPost_ret (results_none rfl _ _ _) rfl ?_)
        rw [HG.out]
        rw [HG.out] at HOK
        exact ⟨rfl, app_ro hP hm1 hw1 HB1.out hown2 hg2 hat2 HOK.out⟩
    · have hlen : m.l.length = m.room := by have := hm.ok.len; omega
      have HG := hid (show putM m s v x_ e = ⟨m.room, (clk m.room m.l.length m.l m.hand).1.set (clk m.room m.l.length m.l m.hand).2 (new_ s v x_ e), ((clk m.room m.l.length m.l m.hand).2 + 1) % m.room⟩ from (if_neg hf).trans (if_neg hr))
      have hdr : decide ((m.l.length : Int) < (m.room : Int)) = false := decide_eq_false (by omega)
      have hdrn : decide (m.l.length < m.room) = false := decide_eq_false hr
      have hr1 := hm.ok.r1
      have hr0 := hm.ok.r0
      have HL := hid hlen
      clear hf hr hlen
      go_upto_region 5 with (first
        | (go_at_call 54; refine (HFI.out _ hnS).mono ?_; rintro en w1 ⟨rfl, hn1⟩)
        | fail)
      have hw1 := hnS.trans hn1
      have hm1 := hm.nw hw1
      have HB1 := hid (HB.out.nw hn1)
      have ga1 : a < w1.heap.size := hm1.lt
      have e0 := heap_cell hm1.blk 0
      have e1 := heap_cell hm1.blk 2
      simp only [List.getElem?_toArray, List.getElem?_cons_succ, List.getElem?_cons_zero] at e0 e1
      clear HFI HB hnS hn1
      refine wp_region_stairs (by kernel_rfl) (by kernel_rfl) (by kernel_rfl) ?_
      iterate 10
        refine Stairs.is ?_ ?_ ?_
        rotate_left 1
        · intro x wR hR hd K hK
          simp only [Act.put, List.setIfInBounds_toArray, List.set_cons_zero, List.set_cons_succ, Nat.reduceAdd, List.length_nil, List.length_cons, List.nil_append, List.cons_append, Say.ok] at hK ⊢
          clear hd
          change Hid _ at hK
          obtain ⟨hcR, hfR, hzR⟩ := nwc hR
          first | (refine wanted_yes ?_ ?_; rfl) | (refine wanted_no ?_ ?_; rfl)
          go_wp2_with (first | fail)
          all_goals (refine hK.out _ _ ?_ ?_ <;> first | (solve | (repeat (first | assumption | exact Nw.refl _ | refine Nw.alloc ?_ _ | refine Nw.drew ?_ | refine Nw.drewN2 ?_ _ | (refine Nw.trans ?_ (by assumption))))) | exact rfl)
        try simp only [Act.put, List.setIfInBounds_toArray, List.set_cons_zero, List.set_cons_succ, Nat.reduceAdd, List.length_nil, List.length_cons, List.nil_append, List.cons_append]
      refine Stairs.nil ?_
      intro x wR hR hx
      clear hx
      obtain ⟨hcR, hfR, hzR⟩ := nwc hR
      replace hm1 := hm1.nw hR
      replace hw1 := hw1.trans hR
      replace HB1 := hid (HB1.out.nw hR)
      clear hcR hfR hzR e0 e1 ga1 hR
      generalize wR = w2 at *
      obtain ⟨g, cap', hp⟩ := row_slice hm1.row.own (by have := HL.out; omega)
      simp only [Value.slice.injEq] at hp
      obtain ⟨rfl, _, rfl⟩ := hp
      have hgw : g < w.heap.size := hP g (hm1.row.mine g rfl)
      go_upto_region 7 with fail
      go_loopw [] (fun wr => ∃ l' h' f', clk m.room m.l.length m.l m.hand = clk m.room f' l' h' ∧ marks l' ≤ f' ∧ l'.length = m.l.length ∧ RI wr P B a (.slice (some ⟨g, 0, none⟩) m.l.length cap) f ⟨m.room, l', h'⟩ ∧ Mods (fun k => k = a ∨ k = g) w2 wr) (fun wr => MW wr g m.l.length)
      case atStart => exact ⟨m.l, m.hand, m.l.length, rfl, marks_le _, rfl, hm1, Mods.refl _ _⟩
      case round =>
        obtain ⟨l', h', f', hck, hmk, hl', hmi, hmd⟩ := hrel
        have hh' : h' < m.room := hmi.ok.hand
        have hh2 : h' < l'.length := by have := HL.out; omega
        have hmw := mw_marks hmi.row hl'.symm
        have hh3 : h' < m.l.length := by omega
        have hdl : decide ((m.l.length : Int) ≤ (h' : Int)) = false := decide_eq_false (by omega)
        obtain ⟨_, _, h9, _, _, _, hc2⟩ := row_open hmi.row
        simp only [Value.slice.injEq] at h9
        obtain ⟨rfl, h9b, rfl⟩ := h9
        clear h9b
        obtain ⟨_, e9, c0, c1, c2, c3, c4⟩ := hc2 h' hh2
        cases e9
        change wr.cell? ⟨g, h' * 5 + 4, none⟩ = some (.bool (at_ l' h').k) at c4
        clear hc2
        have gg := World.block_lt_of_cell? wr _ c4
        simp only at gg
        have ga1 : a < wr.heap.size := hmi.lt
        have e1 := heap_cell hmi.blk 2
        have e2 := heap_cell hmi.blk 1
        have hz1 : ((m.room : Int) == 0) = false := beq_eq_false_iff_ne.2 (by omega)
        have hz3 : (m.room : Int) ≠ 0 := by omega
        obtain ⟨u1, u2⟩ := hand_mod (h := h') hr0
        have hnx : (h' + 1) % m.room < m.room := Nat.mod_lt _ hr0
        obtain ⟨nx, hnxe⟩ : ∃ nx, (h' + 1) % m.room = nx := ⟨_, rfl⟩
        have HNX := hid hnxe
        rw [hnxe] at u1 u2 hnx
        clear hnxe
        simp only [List.getElem?_toArray, List.getElem?_cons_succ, List.getElem?_cons_zero] at e1 e2
        have HCK := hid hck
        have HL' := hid hl'
        clear hck hl'
        go_upto_region 7 with fail
        cases hk : (at_ l' h').k with
        | true =>
          rw [hk] at c4
          refine wp_region_stairs (by kernel_rfl) (by kernel_rfl) (by kernel_rfl) ?_
          iterate 11
            refine Stairs.is ?_ ?_ ?_
            rotate_left 1
            · intro x wR hR hd K hK
              simp only [Act.put, List.setIfInBounds_toArray, List.set_cons_zero, List.set_cons_succ, Nat.reduceAdd, List.length_nil, List.length_cons, List.nil_append, List.cons_append, Say.ok] at hK ⊢
              clear hd
              change Hid _ at hK
              obtain ⟨hcR, hfR, hzR⟩ := nwc hR
              first | (refine wanted_yes ?_ ?_; rfl) | (refine wanted_no ?_ ?_; rfl)
              go_wp2_with (first | fail)
              all_goals (refine hK.out _ _ ?_ ?_ <;> first | (solve | (repeat (first | assumption | exact Nw.refl _ | refine Nw.alloc ?_ _ | refine Nw.drew ?_ | refine Nw.drewN2 ?_ _ | (refine Nw.trans ?_ (by assumption))))) | exact rfl)
            try simp only [Act.put, List.setIfInBounds_toArray, List.set_cons_zero, List.set_cons_succ, Nat.reduceAdd, List.length_nil, List.length_cons, List.nil_append, List.cons_append]
          refine Stairs.nil ?_
          intro x wR hR hx
          clear hx
          obtain ⟨hcR, hfR, hzR⟩ := nwc hR
          clear c0 c1 c2 c3
          replace c4 := hR.cell c4
          replace e1 := hR.cell e1
          replace e2 := hR.cell e2
          replace gg := Nat.lt_of_lt_of_le gg hR.size
          replace ga1 := Nat.lt_of_lt_of_le ga1 hR.size
          replace hmi := hmi.nw hR
          replace hmd := hmd.nw hR
          have z4 := row_frozen hmi.row (h' * 5 + 4)
          clear hcR hfR hzR
          go_upto_region 8 with fail
          go_region
          have hm3 := (hmi.mark HL'.out.symm hh2 false).nw (show Nw _ (wR.setCell ⟨g, h' * 5 + 4, none⟩ (.bool false)).drew from (Nw.refl _).drew)
          have hd3 := (hmd.trans ((mods_cell wR g (h' * 5 + 4) (.bool false)).mono (fun k e => Or.inr e))).drew
          clear hmi hmd c4 e1 e2 gg ga1 z4 hR
          generalize (wR.setCell ⟨g, h' * 5 + 4, none⟩ (.bool false)).drew = w3 at *
          have e1 := heap_cell hm3.blk 1
          have e0 := heap_cell hm3.blk 0
          have f1' := heap_frozen hm3.blk 1
          have ga3 := lt_of_heap hm3.blk
          simp only [List.getElem?_toArray, List.getElem?_cons_succ, List.getElem?_cons_zero] at e0 e1
          go_upto_region 9 with fail
          go_region
          have hb4 : ((w3.setCell ⟨a, 1, none⟩ (.int .i64 (nx : Int))).drew).heap[a]? = some (.cells #[.int .i64 (m.room : Int), .int .i64 (nx : Int), .slice (some ⟨g, 0, none⟩) m.l.length cap] 80 (0, 0)) := heap_set hm3.blk 1 _
          have hd4 : Mods (fun k => k = a) w3 ((w3.setCell ⟨a, 1, none⟩ (.int .i64 (nx : Int))).drew) := (mods_cell w3 a 1 _).drew
          clear e0 e1 f1' ga3
          generalize (w3.setCell ⟨a, 1, none⟩ (.int .i64 (nx : Int))).drew = w4 at *
          have hm4 := hm3.hand hd4 hb4 hnx
          have hms := marks_set l' h' hh2 hk
          have hmw4 := mw_marks hm4.row (by show _ = (l'.set _ _).length; rw [List.length_set]; exact HL'.out.symm)
          have hf1 : 1 ≤ f' := Nat.le_trans (by rw [← hms]; exact Nat.le_add_left 1 _) hmk
          obtain ⟨f1, rfl⟩ : ∃ f1, f' = f1 + 1 := ⟨f' - 1, by clear hmk hms hmw hmw4; omega⟩
          have hmk2 : marks (l'.set h' (mk1 (at_ l' h') false)) ≤ f1 := Nat.le_of_succ_le_succ (by rw [← hms] at hmk; exact hmk)
          simp only [Exit.inBlock]
          go_roundw
          case rel => exact ⟨_, _, _, _, _, _, _, _, _, _, _, _, _, _, _, _, _, _, _, _, _, _, _, _, _, _, _, _, _, _, _, _, _, _, ⟨_, _, f1, HCK.out.trans ((clk_step hk).trans (by rw [HNX.out])), hmk2, List.length_set.trans HL'.out, hm4, hd3.trans (hd4.mono fun k e => Or.inl e)⟩, rfl⟩
          case measure => rw [hmw, hmw4, ← hms]; exact Nat.lt_succ_self _
        | false =>
          rw [hk] at c4
          have HG2 := hid (show putM m s v x_ e = ⟨m.room, l'.set h' (new_ s v x_ e), nx⟩ by rw [HG.out, HCK.out, clk_stop hk, HNX.out])
          refine wp_region_stairs (by kernel_rfl) (by kernel_rfl) (by kernel_rfl) ?_
          iterate 11
            refine Stairs.is ?_ ?_ ?_
            rotate_left 1
            · intro x wR hR hd K hK
              simp only [Act.put, List.setIfInBounds_toArray, List.set_cons_zero, List.set_cons_succ, Nat.reduceAdd, List.length_nil, List.length_cons, List.nil_append, List.cons_append, Say.ok] at hK ⊢
              clear hd
              change Hid _ at hK
              obtain ⟨hcR, hfR, hzR⟩ := nwc hR
              first | (refine wanted_yes ?_ ?_; rfl) | (refine wanted_no ?_ ?_; rfl)
              go_wp2_with (first | fail)
              all_goals (refine hK.out _ _ ?_ ?_ <;> first | (solve | (repeat (first | assumption | exact Nw.refl _ | refine Nw.alloc ?_ _ | refine Nw.drew ?_ | refine Nw.drewN2 ?_ _ | (refine Nw.trans ?_ (by assumption))))) | exact rfl)
            try simp only [Act.put, List.setIfInBounds_toArray, List.set_cons_zero, List.set_cons_succ, Nat.reduceAdd, List.length_nil, List.length_cons, List.nil_append, List.cons_append]
          refine Stairs.nil ?_
          intro x wR hR hx
          clear hx
          obtain ⟨hcR, hfR, hzR⟩ := nwc hR
          clear c0 c1 c2 c3 c4
          replace hmi := hmi.nw hR
          replace hmd := hmd.nw hR
          replace HB1 := hid ((HB1.out.mods hmd (fun k q => by rcases q with q | q <;> omega)))
          obtain ⟨_, _, h9, _, _, _, hc2⟩ := row_open hmi.row
          simp only [Value.slice.injEq] at h9
          obtain ⟨rfl, h9b, rfl⟩ := h9
          clear h9b
          obtain ⟨_, e9, c0, c1, c2, c3, c4⟩ := hc2 h' hh2
          cases e9
          clear hc2
          obtain ⟨⟨y1, y2, y3, _⟩, ⟨y4, y5, y6, _⟩, y7, y8, y9, _⟩ := And.intro (hmi.row.sets h' hh2).1.open (And.intro (hmi.row.sets h' hh2).2.1.open (hmi.row.sets h' hh2).2.2.open)
          rw [y3] at c0
          rw [y6] at c1
          rw [y9] at c2
          have z0 := row_frozen hmi.row (h' * 5)
          have z1 := row_frozen hmi.row (h' * 5 + 1)
          have z2 := row_frozen hmi.row (h' * 5 + 2)
          have z3 := row_frozen hmi.row (h' * 5 + 3)
          have z4 := row_frozen hmi.row (h' * 5 + 4)
          have x0 := heap_cell HB1.out.blk 0
          have x1 := heap_cell HB1.out.blk 1
          have x2 := heap_cell HB1.out.blk 2
          have x3 := heap_cell HB1.out.blk 3
          have x4 := heap_cell HB1.out.blk 4
          have xg := lt_of_heap HB1.out.blk
          simp only [List.getElem?_toArray, List.getElem?_cons_succ, List.getElem?_cons_zero, new_] at x0 x1 x2 x3 x4
          replace e1 := hR.cell e1
          replace e2 := hR.cell e2
          replace gg := Nat.lt_of_lt_of_le gg hR.size
          replace ga1 := Nat.lt_of_lt_of_le ga1 hR.size
          clear y3 y6 y9 hcR hfR hzR hR
          generalize wR = w3 at *
          go_upto_region 10 with fail
          go_region
          change Exit.then _ _ _ _ (st5 w3 g (h' * 5) (.slice q1 n1 d1) (.slice q2 n2 d2) (.slice q3 n3 d3) (.bool e) (.bool true)).drew
          have hm5 := (put_ri hP hmi HL'.out.symm HB1.out (new_ok (e := e) ls lv lx) hh2).nw (show Nw _ (st5 w3 g (h' * 5) (.slice q1 n1 d1) (.slice q2 n2 d2) (.slice q3 n3 d3) (.bool e) (.bool true)).drew from (Nw.refl _).drew)
          have hd5 := (hmd.trans ((st5_mods w3 g (h' * 5) (.slice q1 n1 d1) (.slice q2 n2 d2) (.slice q3 n3 d3) (.bool e) (.bool true)).mono (fun k e => Or.inr e))).drew
          clear z0 z1 z2 z3 z4 x0 x1 x2 x3 x4 xg c0 c1 c2 c3 c4 gg ga1 e1 e2 hmi hmd
          generalize (st5 w3 g (h' * 5) (.slice q1 n1 d1) (.slice q2 n2 d2) (.slice q3 n3 d3) (.bool e) (.bool true)).drew = w5 at *
          have e1 := heap_cell hm5.blk 1
          have e0 := heap_cell hm5.blk 0
          have f1' := heap_frozen hm5.blk 1
          have ga3 := lt_of_heap hm5.blk
          simp only [List.getElem?_toArray, List.getElem?_cons_succ, List.getElem?_cons_zero] at e0 e1
          go_upto_region 11 with fail
          go_region
          have hb6 : ((w5.setCell ⟨a, 1, none⟩ (.int .i64 (nx : Int))).drew).heap[a]? = some (.cells #[.int .i64 (m.room : Int), .int .i64 (nx : Int), .slice (some ⟨g, 0, none⟩) m.l.length cap] 80 (0, 0)) := heap_set hm5.blk 1 _
          have hd6 : Mods (fun k => k = a) w5 ((w5.setCell ⟨a, 1, none⟩ (.int .i64 (nx : Int))).drew) := (mods_cell w5 a 1 _).drew
          ((try simp only [Exit.inBlock, Exit.then]); refine bodyPost_end (results_none rfl _ _ _) rfl ?_)
          rw [HG2.out]
          have hm6 := hm5.hand hd6 hb6 hnx
          exact ⟨rfl, RO.same' hP hm6 rfl ((hw1.mods _).trans ((hd5.trans (hd6.mono fun k e => Or.inl e)).mono (fun k q => q.imp_right fun e => by rw [e]; rfl)))⟩
end Mm
end Go.Proofs.Ythellicimicieaa
