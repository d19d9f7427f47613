/- RecordBack walked: for any time, bits, bytes ahead and behind it returns true. No condition but lengths. -/
import Derived.Test.YtfbokhodcgpppaaRecF
import Derived.Test.YtfbokhodcgpppaaAppF
namespace Go.Proofs.Ytfbokhodcgpppaa
open Go.ChangeShapes Go.WideShapes Go.ChangeAt Go.RowKit
namespace Rec
open Go.Proofs.Ytfbokhodcgpppaa.Sum (Hands8)
theorem sub_at {w : World} {g c n L : Nat} {a r : List UInt8} (h : Cells w (some ⟨g, 0, none⟩) (u8s (a ++ r))) (hn : n = a.length) (hL : r.length = L) (hm : L ≤ maxLen) : Bytes w (.slice (some ⟨g, n, none⟩) L L) r := by
  subst hn hL
  have := h.drop a.length
  rw [← u8s_drop, List.drop_left, Nat.zero_add] at this
  exact Bytes.mk this rfl (Nat.le_refl _) hm (fun h => by cases h)
theorem sub_to {w : World} {g c : Nat} {a r : List UInt8} (h : Cells w (some ⟨g, 0, none⟩) (u8s (a ++ r))) (hc : a.length ≤ c) (hm : c ≤ maxLen) : Bytes w (.slice (some ⟨g, 0, none⟩) a.length c) a := by
  have := h.take a.length
  rw [← u8s_take, List.take_left] at this
  exact Bytes.mk this rfl hc hm (fun h => by cases h)
theorem own_at {w : World} {B : Nat} {e : TypeId} {v : Value} {xs : List Value} {n : Nat} (h : Own w B e v xs) (hn : xs.length = n) (h0 : 0 < n) : ∃ g cap, v = .slice (some ⟨g, 0, none⟩) n cap ∧ B ≤ g ∧ n ≤ cap ∧ cap ≤ maxLen ∧ Own w B e (.slice (some ⟨g, 0, none⟩) n cap) xs ∧ Cells w (some ⟨g, 0, none⟩) xs := by
  subst hn
  obtain ⟨g, cap, h1, h2, h3, h4⟩ := h.opened h0
  subst h1
  obtain ⟨_, _, e, _, _, _, hc⟩ := h.sl
  cases e
  exact ⟨g, cap, rfl, h2, h3, h4, h, hc⟩
set_option maxRecDepth 20000 in
set_option maxHeartbeats 3200000 in
theorem back_walk (va vr : Value) (a r : List UInt8) (t : Int) (x : Words.Wd) (w : World) (ha : Bytes w va a) (hr : Bytes w vr r) (hla : a.length ≤ 100000000) (hlr : r.length ≤ 100000000) (h0 : 0 ≤ t) (h1 : t < 18446744073709551616) :
    Calls Try.prog 12 #[.int .u64 t, .int .u64 (x.toNat : Int), va, vr] w fun e w' => e = .returned (.bool true) ∧ Nw w w' := by
  obtain ⟨q, cap, rfl, hcap, hmx, _, hc⟩ := ha.open
  obtain ⟨q2, cap2, rfl, hcap2, hmx2, _, hc2⟩ := hr.open
  have hev := fun w => event_c t x w h0 h1
  have hri := ids_rise x
  have hml := ids_len x
  generalize ids x = m at *
  have HEV := hid hev
  have HRI := hid hri
  obtain ⟨L, hL⟩ : ∃ L, L = (rec_ t m).length := ⟨_, rfl⟩
  have hL2 : L = 14 + m.length := by rw [hL, rec_len]
  have HL := hid hL
  have hne : ((a.length : Int) + (L : Int) != (a.length : Int) + 14 + (m.length : Int)) = false := by simp; omega
  have hxl : (u8s (a ++ rec_ t m)).length = a.length + L := by rw [u8s_length, List.length_append, ← hL]
  have HXL := hid hxl
  have hLb : L ≤ 100 := by omega
  have hLp : 0 < L := by omega
  have hg : get (rec_ t m ++ r) 64 = ((t, m), ((14 + m.length : Nat) : Int), 0) := by
    rw [get_rec t m r 64 h0 h1 hri, if_neg (by unfold pr; omega), if_pos (by exact hri)]
  obtain ⟨R, hRR⟩ : ∃ R, R = rec_ t m ++ r := ⟨_, rfl⟩
  rw [← hRR] at hg
  have HG := hid hg
  have hgl : R.length ≤ 1000000000 := by rw [hRR, List.length_append, ← hL]; omega
  have HRR := hid hRR
  have HGL := hid hgl
  clear hev hri hL hL2 hxl hg hgl hRR
  go_enter Try.func12, Try.ntmps12
  go_wp2_with (first
    | (go_at_call 18; refine (HEV.out _).mono ?_; rintro e w1 ⟨v1, rfl, hs1, hn1⟩; obtain ⟨p1, c1, rfl, _⟩ := i64s_open hs1)
    | (go_at_call 19; refine (put_c _ _ a t m _ (ha.nw (by repeat (first | assumption | exact Nw.refl _ | refine Nw.alloc ?_ _ | refine Nw.drew ?_ | refine Nw.drewN2 ?_ _ | (refine Nw.trans ?_ (by assumption))))) (hs1.nw (by repeat (first | assumption | exact Nw.refl _ | refine Nw.alloc ?_ _ | refine Nw.drew ?_ | refine Nw.drewN2 ?_ _ | (refine Nw.trans ?_ (by assumption))))) h0 h1 (by omega)).mono ?_; rintro e w2 ⟨v2, rfl, hown2, hn2⟩; rw [putE_yes HRI.out] at hown2; obtain ⟨g, c2, rfl, hB, hc2', hm2, hown, hcs⟩ := own_at hown2 HXL.out (by omega); obtain ⟨hj1, hj2, hj3⟩ := nwc hn2)
    | fail)
  have hw2 : Nw w w2 := (by repeat (first | assumption | exact Nw.refl _ | refine Nw.alloc ?_ _ | refine Nw.drew ?_ | refine Nw.drewN2 ?_ _ | (refine Nw.trans ?_ (by assumption))))
  have k0 : w2.cell? ⟨w1.heap.size, 0, none⟩ = some (.int .u64 t) := hn2.cell (by simp)
  have k1 : w2.cell? ⟨w1.heap.size, 1, none⟩ = some (.slice p1 m.length c1) := hn2.cell (by simp)
  have hbk := World.block_lt_of_cell? w2 _ k0
  have hs2 : Sl w2 (.slice p1 m.length c1) (i64s m) := hs1.nw (((Nw.refl w1).alloc _).trans hn2)
  have hby := sub_to (r := rec_ t m) (c := c2) hcs (by omega) hm2
  have hsub := sub_at (c := c2) (n := a.length) (L := L) hcs rfl HL.out.symm (by unfold maxLen; omega)
  have st1 := str_later hby
  have st2 := str_later (ha.nw hw2)
  have HR := hid (hr.nw hw2)
  have HSUB := hid (show Bytes w2 (.slice (some ⟨g, a.length, none⟩) (a.length + L - a.length) (a.length + L - a.length)) (rec_ t m) by rw [Nat.add_sub_cancel_left]; exact hsub)
  have HS2 := hid hs2
  clear hj1 hj2 hj3 hcs hown hown2 hs1 hsub hs2
  refine wp_region_stairs (by kernel_rfl) (by kernel_rfl) (by kernel_rfl) ?_
  iterate 20
    refine Stairs.is ?_ ?_ ?_
    rotate_left 1
    · intro x wR hR hd K hK
      simp only [Act.put, List.setIfInBounds_toArray, List.set_cons_zero, List.set_cons_succ, Nat.reduceAdd, List.length_nil, List.length_cons, List.nil_append, List.cons_append, Say.ok] at hK ⊢
      clear hd
      change Hid _ at hK
      obtain ⟨hcR, hfR, hzR⟩ := nwc hR
      first | (refine wanted_yes ?_ ?_; rfl) | (refine wanted_no ?_ ?_; rfl)
      go_wp2_with (first | fail)
      all_goals (refine hK.out _ _ ?_ ?_ <;> first | (solve | (repeat (first | assumption | exact Nw.refl _ | refine Nw.alloc ?_ _ | refine Nw.drew ?_ | refine Nw.drewN2 ?_ _ | (refine Nw.trans ?_ (by assumption))))) | exact rfl)
    try simp only [Act.put, List.setIfInBounds_toArray, List.set_cons_zero, List.set_cons_succ, Nat.reduceAdd, List.length_nil, List.length_cons, List.nil_append, List.cons_append]
  refine Stairs.nil ?_
  intro x wR hR hx
  clear hx
  obtain ⟨hcR, hfR, hzR⟩ := nwc hR
  have k0 := hR.cell k0
  have k1 := hR.cell k1
  have hbk := World.block_lt_of_cell? wR _ k0
  have hsubR := HSUB.out.nw hR
  have hrR := HR.out.nw hR
  go_wp2_with (first
    | (at_builtin; refine appf rfl _ _ _ rfl _ _ _ Try.underlying22 info_u8 rfl (by decide) hsubR rfl hrR rfl ?_ ?_; rotate_left; (simp only [u8s_length]; have := HL.out; omega); (intro v3 w3 hs3 hn3; have hb3 : Bytes w3 v3 R := (by unfold Bytes; rw [HRR.out, ← u8s_append]; exact hs3); obtain ⟨p3, c3, rfl, _⟩ := hb3.open; obtain ⟨hi1, hi2, hi3⟩ := nwc hn3))
    | (go_at_call 22; refine (get_c _ R 64 _ hb3 HGL.out (by decide) (by decide)).mono ?_; rw [HG.out]; rintro e w4 ⟨v4, rfl, hs4, hn4⟩; obtain ⟨p4, c4, rfl, _⟩ := i64s_open hs4; obtain ⟨hl1, hl2, hl3⟩ := nwc hn4; have k04 := hn4.cell (hn3.cell k0); have k14 := hn4.cell (hn3.cell k1); have hb4 : w1.heap.size < w4.heap.size := World.block_lt_of_cell? w4 _ k04; dsimp only at hs4 ⊢)
    | (go_at_call 27; refine (same_c _ _ t t m m _ (hs4.nw (by repeat (first | assumption | exact Nw.refl _ | refine Nw.alloc ?_ _ | refine Nw.drew ?_ | refine Nw.drewN2 ?_ _ | (refine Nw.trans ?_ (by assumption))))) (HS2.out.nw (by repeat (first | assumption | exact Nw.refl _ | refine Nw.alloc ?_ _ | refine Nw.drew ?_ | refine Nw.drewN2 ?_ _ | (refine Nw.trans ?_ (by assumption)))))).mono ?_; rintro e w5 ⟨rfl, hn5⟩)
    | (go_at_call 21; refine (awake_c _).mono ?_; rintro e w6 ⟨rfl, hn6⟩)
    | fail)
  go_ret
  exact ⟨rfl, hw2.trans (hR.trans (by repeat (first | assumption | exact Nw.refl _ | refine Nw.alloc ?_ _ | refine Nw.drew ?_ | refine Nw.drewN2 ?_ _ | (refine Nw.trans ?_ (by assumption)))))⟩
end Rec
end Go.Proofs.Ytfbokhodcgpppaa
