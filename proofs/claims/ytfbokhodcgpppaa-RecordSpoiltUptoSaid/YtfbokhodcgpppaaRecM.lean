/- RecordCanon walked: for any bytes, names, time, bits, place and byte it returns true. No condition but lengths. -/
import Derived.Test.YtfbokhodcgpppaaRecJ
namespace Go.Proofs.Ytfbokhodcgpppaa
open Go.ChangeShapes Go.WideShapes Go.ChangeAt Go.RowKit
namespace Rec
open Go.Proofs.Ytfbokhodcgpppaa.Sum (Hands8)
theorem bytes_take {w : World} {b : List UInt8} {q : Option Addr} {n cap : Nat} (h : Bytes w (.slice q n cap) b) (m : Nat) (hm : m ≤ b.length) : Bytes w (.slice q m cap) (b.take m) := by
  obtain ⟨p, c, e, h1, h2, h3, h4⟩ := h.open
  cases e
  exact Bytes.mk (by rw [u8s_take]; exact h4.take m) (by simp; omega) (by simp; omega) h2 h3
set_option maxRecDepth 20000 in
set_option maxHeartbeats 900000 in
theorem canon_walk (va : Value) (b : List UInt8) (p : Int) (t : Int) (x : Words.Wd) (at_ : Nat) (z : UInt8) (w : World) (ha : Bytes w va b) (hlb : b.length ≤ 100000000) (hp1 : -9223372036854775808 ≤ p) (hp2 : p ≤ 9223372036854775807) (h0 : 0 ≤ t) (h1 : t < 18446744073709551616) (hat : at_ ≤ 255) :
    Calls Try.prog 6 #[va, .int .i64 p, .int .u64 t, .int .u64 (x.toNat : Int), .int .u8 (at_ : Int), .int .u8 (z.toNat : Int)] w fun e w' => e = .returned (.bool true) ∧ Nw w w' := by
  obtain ⟨q, cap, rfl, hcap, hmx, _, hc⟩ := ha.open
  have hev := fun w => event_c t x w h0 h1
  have hri := ids_rise x
  have hml := ids_len x
  generalize ids x = m at *
  have HEV := hid hev
  have hrl := rec_len t m
  have HPE := hid (show putE [] t m = rec_ t m by rw [putE_yes hri]; rfl)
  generalize rec_ t m = Rb at *
  obtain ⟨L, hL⟩ : ∃ L, L = Rb.length := ⟨_, rfl⟩
  have HL := hid hL
  have hLb : L ≤ 100 := by omega
  have hLp : 0 < L := by omega
  have hL0 : L ≠ 0 := by omega
  have hdl : ((L : Int) == 0) = false := beq_eq_false_iff_ne.2 (by omega)
  have hxl : (u8s Rb).length = L := by rw [u8s_length]; exact hL.symm
  have HXL := hid hxl
  obtain ⟨j, hj⟩ : ∃ j, j = at_ % L := ⟨_, rfl⟩
  have hjL : j < L := by rw [hj]; exact Nat.mod_lt _ (by omega)
  have hmod : (at_ : Int) % (L : Int) = (j : Int) := by rw [hj]; omega
  have htm : (at_ : Int).tmod (L : Int) = (j : Int) := by rw [Int.tmod_eq_emod_of_nonneg (by omega)]; exact hmod
  obtain ⟨y, hy⟩ : ∃ y, Rb[j]? = some y := ⟨Rb[j]'(by omega), by rw [List.getElem?_eq_getElem]⟩
  have hxv := xor_val y z
  clear hev hri hxl hrl hL hj
  go_enter Try.func6, Try.ntmps6
  go_upto_region 4 with (first
    | (go_at_call 18; refine (HEV.out _).mono ?_; rintro e w1 ⟨v1, rfl, hs1, hn1⟩; obtain ⟨p1, c1, rfl, _⟩ := i64s_open hs1)
    | (go_at_call 19; refine (put_c _ _ [] t m _ (Bytes.nil _) (hs1.nw (by repeat (first | assumption | exact Nw.refl _ | refine Nw.alloc ?_ _ | refine Nw.drew ?_ | refine Nw.drewN2 ?_ _ | (refine Nw.trans ?_ (by assumption))))) h0 h1 (by simp)).mono ?_; rintro e w2 ⟨v2, rfl, hown2, hn2⟩; rw [HPE.out] at hown2; obtain ⟨g, c2, rfl, hB, hc2', hm2, hown, hcs⟩ := own_at hown2 HXL.out (by omega))
    | fail)
  have q1 := hown.cell HXL.out.symm j (by rw [HXL.out]; omega)
  rw [u8s_get Rb j y hy] at q1
  have q2 := hown.frozen HXL.out.symm j
  have q3 := hown.set HXL.out.symm j (.int .u8 ((y.toNat ^^^ z.toNat : Nat) : Int))
  rw [show (u8s Rb).set j (.int .u8 ((y.toNat ^^^ z.toNat : Nat) : Int)) = u8s (Rb.set j (y ^^^ z)) by rw [u8s_set, UInt8.toNat_xor]] at q3
  obtain ⟨F, hF⟩ : ∃ F, F = Rb.set j (y ^^^ z) := ⟨_, rfl⟩
  rw [← hF] at q3
  have hFl : F.length = L := by rw [hF, List.length_set]; exact HL.out.symm
  have q4 : Bytes (w2.setCell ⟨g, j, none⟩ (.int .u8 ((y.toNat ^^^ z.toNat : Nat) : Int))) (.slice (some ⟨g, 0, none⟩) L c2) F := q3.sl
  have q5 : Nw w (w2.setCell ⟨g, j, none⟩ (.int .u8 ((y.toNat ^^^ z.toNat : Nat) : Int))) := (show Nw w w2 from (by repeat (first | assumption | exact Nw.refl _ | refine Nw.alloc ?_ _ | refine Nw.drew ?_ | refine Nw.drewN2 ?_ _ | (refine Nw.trans ?_ (by assumption))))).setCell (Nat.le_trans (Nw.size (show Nw w w1 from (by repeat (first | assumption | exact Nw.refl _ | refine Nw.alloc ?_ _ | refine Nw.drew ?_ | refine Nw.drewN2 ?_ _ | (refine Nw.trans ?_ (by assumption)))))) hB) _
  have HFl := hid hFl
  clear hF hown2 hown hcs q3 hFl hs1
  go_upto_region 5 with fail
  generalize hW : w2.setCell ⟨g, j, none⟩ (.int .u8 ((y.toNat ^^^ z.toNat : Nat) : Int)) = w3 at *
  clear hW q1 q2
  have ha3 := ha.nw q5
  have i0 : ∀ w', (Instr.index 42 (.agg #[.slice q b.length cap, .slice (some ⟨g, 0, none⟩) L c2]) (.int .i64 0)).run Try.prog w' = .ok (.slice q b.length cap) w' := fun _ => by kernel_rfl
  have i1 : ∀ w', (Instr.index 42 (.agg #[.slice q b.length cap, .slice (some ⟨g, 0, none⟩) L c2]) (.int .i64 1)).run Try.prog w' = .ok (.slice (some ⟨g, 0, none⟩) L c2) w' := fun _ => by kernel_rfl
  have hF1 : F.length ≤ 1000000000 := by rw [HFl.out]; omega
  have hF2 : F.length = L := HFl.out
  go_wp2
  go_loopw [15, 16, 17, 18, 40] (fun _ _ _ _ i wr => ∃ k : Nat, k ≤ 2 ∧ i = .int .i64 k ∧ Nw w3 wr) (fun _ _ _ _ i _ => 2 - (intOf i).toNat)
  case atStart => exact ⟨0, by omega, rfl, Nw.refl _⟩
  case round =>
    obtain ⟨k, hk, rfl, hn⟩ := hrel
    match k, hk with
    | 0, _ =>
      rw [show ((0 : Nat) : Int) = 0 from rfl]
      have hyR := ha3.nw hn
      -- y: the bytes; hyR: how they read now; b: their list; q: their place, cap: their room
      have hly := (show b.length ≤ 1000000000 by omega)
      have hgc := fun v w (hb : Bytes w v b) => get_c v b p w hb hly hp1 hp2
      have hcan := fun x n => get_canon b p x n
      generalize get b p = G at *
      obtain ⟨⟨tt, ll⟩, nn, ee⟩ := G
      have HGC := hid hgc
      clear hgc
      by_cases he : ee = 0
      · subst he
        obtain ⟨mm, hnm, hmm, hput, k0, k1, hrr⟩ := hcan (tt, ll) nn rfl
        dsimp only at hput k0 k1 hrr
        subst hnm
        have hsub := bytes_take hyR mm hmm
        have HPT := hid hput
        generalize (b).take mm = Y at *
        have HSUB := hid hsub
        have hdg : decide (b.length < mm) = false := decide_eq_false (by omega)
        have hmc : mm ≤ cap := by omega
        clear hcan hput hsub
        go_upto_region 10 with (first
          | (go_at_call 22; refine (HGC.out _ _ hyR).mono ?_; rintro e w4 ⟨v4, rfl, hs4, hn4⟩; obtain ⟨p4, c4, rfl, _⟩ := i64s_open hs4; dsimp only at hs4 ⊢)
          | fail)
        have hn6 : Nw wr (w4.alloc (.cells #[.int .u64 tt, .slice p4 ll.length c4] 38)) := hn4.alloc _
        have j0 : (w4.alloc (.cells #[.int .u64 tt, .slice p4 ll.length c4] 38)).cell? ⟨w4.heap.size, 0, none⟩ = some (.int .u64 tt) := by simp
        have j1 : (w4.alloc (.cells #[.int .u64 tt, .slice p4 ll.length c4] 38)).cell? ⟨w4.heap.size, 1, none⟩ = some (.slice p4 ll.length c4) := by simp
        have hs6 := hs4.nw ((Nw.refl w4).alloc (.cells #[.int .u64 tt, .slice p4 ll.length c4] 38))
        generalize w4.alloc (.cells #[.int .u64 tt, .slice p4 ll.length c4] 38) = w6 at *
        have hj6 : w4.heap.size < w6.heap.size := World.block_lt_of_cell? w6 _ j0
        have hst := str_later (HSUB.out.nw hn6)
        refine wp_region_stairs (by kernel_rfl) (by kernel_rfl) (by kernel_rfl) ?_
        iterate 6
          refine Stairs.is ?_ ?_ ?_
          rotate_left 1
          · intro x wR hR hd K hK
            simp only [Act.put, List.setIfInBounds_toArray, List.set_cons_zero, List.set_cons_succ, Nat.reduceAdd, List.length_nil, List.length_cons, List.nil_append, List.cons_append, Say.ok] at hK ⊢
            clear hd
            change Hid _ at hK
            obtain ⟨hcR, hfR, hzR⟩ := nwc hR
            first | (refine wanted_yes ?_ ?_; rfl) | (refine wanted_no ?_ ?_; rfl)
            go_wp2_with (first 
              | (go_at_call 19; refine (put_c _ _ [] tt ll _ (Bytes.nil _) (hs6.nw (by repeat (first | assumption | exact Nw.refl _ | refine Nw.alloc ?_ _ | refine Nw.drew ?_ | refine Nw.drewN2 ?_ _ | (refine Nw.trans ?_ (by assumption))))) k0 k1 (by simp)).mono ?_; rintro e w7 ⟨v7, rfl, hown7, hn7⟩; rw [HPT.out] at hown7))
            all_goals (refine hK.out _ _ ?_ ?_ <;> first | (solve | (repeat (first | assumption | exact Nw.refl _ | refine Nw.alloc ?_ _ | refine Nw.drew ?_ | refine Nw.drewN2 ?_ _ | (refine Nw.trans ?_ (by assumption))))) | exact rfl | exact Own.sl (by assumption))
          try simp only [Act.put, List.setIfInBounds_toArray, List.set_cons_zero, List.set_cons_succ, Nat.reduceAdd, List.length_nil, List.length_cons, List.nil_append, List.cons_append]
        iterate 1
          refine Stairs.that (Reads8 Y) (by simp) ?_ ?_
          · intro x wR hR hd K hK
            simp only [Act.put, List.setIfInBounds_toArray, List.set_cons_zero, List.set_cons_succ, Nat.reduceAdd, List.length_nil, List.length_cons, List.nil_append, List.cons_append, Say.ok] at hK ⊢
            clear hd
            change Hid _ at hK
            obtain ⟨hcR, hfR, hzR⟩ := nwc hR
            first | (refine wanted_yes ?_ ?_; rfl) | (refine wanted_no ?_ ?_; rfl)
            go_wp2_with (first 
              | (go_at_call 19; refine (put_c _ _ [] tt ll _ (Bytes.nil _) (hs6.nw (by repeat (first | assumption | exact Nw.refl _ | refine Nw.alloc ?_ _ | refine Nw.drew ?_ | refine Nw.drewN2 ?_ _ | (refine Nw.trans ?_ (by assumption))))) k0 k1 (by simp)).mono ?_; rintro e w7 ⟨v7, rfl, hown7, hn7⟩; rw [HPT.out] at hown7))
            all_goals (refine hK.out _ _ ?_ ?_ <;> first | (solve | (repeat (first | assumption | exact Nw.refl _ | refine Nw.alloc ?_ _ | refine Nw.drew ?_ | refine Nw.drewN2 ?_ _ | (refine Nw.trans ?_ (by assumption))))) | exact rfl | exact Own.sl (by assumption))
          try simp only [Act.put, List.setIfInBounds_toArray, List.set_cons_zero, List.set_cons_succ, Nat.reduceAdd, List.length_nil, List.length_cons, List.nil_append, List.cons_append]
        iterate 7
          refine Stairs.is ?_ ?_ ?_
          rotate_left 1
          · intro x wR hR hd K hK
            simp only [Act.put, List.setIfInBounds_toArray, List.set_cons_zero, List.set_cons_succ, Nat.reduceAdd, List.length_nil, List.length_cons, List.nil_append, List.cons_append, Say.ok] at hK ⊢
            try simp [Region.binds, sayAt, List.getD_cons_zero, List.getD_cons_succ, Say.ok, Vl] at hd
            try (first | have hs := str_ok hd | have hs := str_ok hd.2 | have hs := str_ok hd.1 | (obtain ⟨hd1, hd2, hd3⟩ := hd; first | have hs := str_ok hd1 | have hs := str_ok hd2 | have hs := str_ok hd3))
            change Hid _ at hK
            obtain ⟨hcR, hfR, hzR⟩ := nwc hR
            first | (refine wanted_yes ?_ ?_; rfl) | (refine wanted_no ?_ ?_; rfl)
            go_wp2_with (first 
              | (go_at_call 19; refine (put_c _ _ [] tt ll _ (Bytes.nil _) (hs6.nw (by repeat (first | assumption | exact Nw.refl _ | refine Nw.alloc ?_ _ | refine Nw.drew ?_ | refine Nw.drewN2 ?_ _ | (refine Nw.trans ?_ (by assumption))))) k0 k1 (by simp)).mono ?_; rintro e w7 ⟨v7, rfl, hown7, hn7⟩; rw [HPT.out] at hown7))
            all_goals (refine hK.out _ _ ?_ ?_ <;> first | (solve | (repeat (first | assumption | exact Nw.refl _ | refine Nw.alloc ?_ _ | refine Nw.drew ?_ | refine Nw.drewN2 ?_ _ | (refine Nw.trans ?_ (by assumption))))) | exact rfl | exact Own.sl (by assumption))
          try simp only [Act.put, List.setIfInBounds_toArray, List.set_cons_zero, List.set_cons_succ, Nat.reduceAdd, List.length_nil, List.length_cons, List.nil_append, List.cons_append]
        refine Stairs.nil ?_
        intro x wR hR hx
        have h6 := hx 6 (by decide)
        simp only [sayAt, List.getD_cons_zero, List.getD_cons_succ, Say.ok, Vl] at h6
        clear hx
        obtain ⟨hcR, hfR, hzR⟩ := nwc hR
        go_wp2
        go_roundw
        case rel => exact ⟨1, by omega, rfl, hn.trans (hn6.trans hR)⟩
        case measure => (simp [intOf] <;> omega)
      · have hde : (ee != 0) = true := by simpa using he
        clear hcan
        go_wp2_with (first
          | (go_at_call 22; refine (HGC.out _ _ hyR).mono ?_; rintro e w4 ⟨v4, rfl, hs4, hn4⟩; obtain ⟨p4, c4, rfl, _⟩ := i64s_open hs4; dsimp only at hs4 ⊢)
          | fail)
        go_roundw
        case rel => exact ⟨1, by omega, rfl, (by repeat (first | assumption | exact Nw.refl _ | refine Nw.alloc ?_ _ | refine Nw.drew ?_ | refine Nw.drewN2 ?_ _ | (refine Nw.trans ?_ (by assumption))))⟩
        case measure => (simp [intOf] <;> omega)
    | 1, _ =>
      rw [show ((1 : Nat) : Int) = 1 from rfl]
      have hyR : Bytes wr (.slice (some ⟨g, 0, none⟩) L c2) F := q4.nw hn
      -- y: the bytes; hyR: how they read now; F: their list; q: their place, c2: their room
      have hly := hF1
      have hgc := fun v w (hb : Bytes w v F) => get_c v F p w hb hly hp1 hp2
      have hcan := fun x n => get_canon F p x n
      generalize get F p = G at *
      obtain ⟨⟨tt, ll⟩, nn, ee⟩ := G
      have HGC := hid hgc
      clear hgc
      by_cases he : ee = 0
      · subst he
        obtain ⟨mm, hnm, hmm, hput, k0, k1, hrr⟩ := hcan (tt, ll) nn rfl
        dsimp only at hput k0 k1 hrr
        subst hnm
        have hsub := bytes_take hyR mm hmm
        have HPT := hid hput
        generalize (F).take mm = Y at *
        have HSUB := hid hsub
        have hdg : decide (L < mm) = false := decide_eq_false (by omega)
        have hmc : mm ≤ c2 := by omega
        clear hcan hput hsub
        go_upto_region 10 with (first
          | (go_at_call 22; refine (HGC.out _ _ hyR).mono ?_; rintro e w4 ⟨v4, rfl, hs4, hn4⟩; obtain ⟨p4, c4, rfl, _⟩ := i64s_open hs4; dsimp only at hs4 ⊢)
          | fail)
        have hn6 : Nw wr (w4.alloc (.cells #[.int .u64 tt, .slice p4 ll.length c4] 38)) := hn4.alloc _
        have j0 : (w4.alloc (.cells #[.int .u64 tt, .slice p4 ll.length c4] 38)).cell? ⟨w4.heap.size, 0, none⟩ = some (.int .u64 tt) := by simp
        have j1 : (w4.alloc (.cells #[.int .u64 tt, .slice p4 ll.length c4] 38)).cell? ⟨w4.heap.size, 1, none⟩ = some (.slice p4 ll.length c4) := by simp
        have hs6 := hs4.nw ((Nw.refl w4).alloc (.cells #[.int .u64 tt, .slice p4 ll.length c4] 38))
        generalize w4.alloc (.cells #[.int .u64 tt, .slice p4 ll.length c4] 38) = w6 at *
        have hj6 : w4.heap.size < w6.heap.size := World.block_lt_of_cell? w6 _ j0
        have hst := str_later (HSUB.out.nw hn6)
        refine wp_region_stairs (by kernel_rfl) (by kernel_rfl) (by kernel_rfl) ?_
        iterate 6
          refine Stairs.is ?_ ?_ ?_
          rotate_left 1
          · intro x wR hR hd K hK
            simp only [Act.put, List.setIfInBounds_toArray, List.set_cons_zero, List.set_cons_succ, Nat.reduceAdd, List.length_nil, List.length_cons, List.nil_append, List.cons_append, Say.ok] at hK ⊢
            clear hd
            change Hid _ at hK
            obtain ⟨hcR, hfR, hzR⟩ := nwc hR
            first | (refine wanted_yes ?_ ?_; rfl) | (refine wanted_no ?_ ?_; rfl)
            go_wp2_with (first 
              | (go_at_call 19; refine (put_c _ _ [] tt ll _ (Bytes.nil _) (hs6.nw (by repeat (first | assumption | exact Nw.refl _ | refine Nw.alloc ?_ _ | refine Nw.drew ?_ | refine Nw.drewN2 ?_ _ | (refine Nw.trans ?_ (by assumption))))) k0 k1 (by simp)).mono ?_; rintro e w7 ⟨v7, rfl, hown7, hn7⟩; rw [HPT.out] at hown7))
            all_goals (refine hK.out _ _ ?_ ?_ <;> first | (solve | (repeat (first | assumption | exact Nw.refl _ | refine Nw.alloc ?_ _ | refine Nw.drew ?_ | refine Nw.drewN2 ?_ _ | (refine Nw.trans ?_ (by assumption))))) | exact rfl | exact Own.sl (by assumption))
          try simp only [Act.put, List.setIfInBounds_toArray, List.set_cons_zero, List.set_cons_succ, Nat.reduceAdd, List.length_nil, List.length_cons, List.nil_append, List.cons_append]
        iterate 1
          refine Stairs.that (Reads8 Y) (by simp) ?_ ?_
          · intro x wR hR hd K hK
            simp only [Act.put, List.setIfInBounds_toArray, List.set_cons_zero, List.set_cons_succ, Nat.reduceAdd, List.length_nil, List.length_cons, List.nil_append, List.cons_append, Say.ok] at hK ⊢
            clear hd
            change Hid _ at hK
            obtain ⟨hcR, hfR, hzR⟩ := nwc hR
            first | (refine wanted_yes ?_ ?_; rfl) | (refine wanted_no ?_ ?_; rfl)
            go_wp2_with (first 
              | (go_at_call 19; refine (put_c _ _ [] tt ll _ (Bytes.nil _) (hs6.nw (by repeat (first | assumption | exact Nw.refl _ | refine Nw.alloc ?_ _ | refine Nw.drew ?_ | refine Nw.drewN2 ?_ _ | (refine Nw.trans ?_ (by assumption))))) k0 k1 (by simp)).mono ?_; rintro e w7 ⟨v7, rfl, hown7, hn7⟩; rw [HPT.out] at hown7))
            all_goals (refine hK.out _ _ ?_ ?_ <;> first | (solve | (repeat (first | assumption | exact Nw.refl _ | refine Nw.alloc ?_ _ | refine Nw.drew ?_ | refine Nw.drewN2 ?_ _ | (refine Nw.trans ?_ (by assumption))))) | exact rfl | exact Own.sl (by assumption))
          try simp only [Act.put, List.setIfInBounds_toArray, List.set_cons_zero, List.set_cons_succ, Nat.reduceAdd, List.length_nil, List.length_cons, List.nil_append, List.cons_append]
        iterate 7
          refine Stairs.is ?_ ?_ ?_
          rotate_left 1
          · intro x wR hR hd K hK
            simp only [Act.put, List.setIfInBounds_toArray, List.set_cons_zero, List.set_cons_succ, Nat.reduceAdd, List.length_nil, List.length_cons, List.nil_append, List.cons_append, Say.ok] at hK ⊢
            try simp [Region.binds, sayAt, List.getD_cons_zero, List.getD_cons_succ, Say.ok, Vl] at hd
            try (first | have hs := str_ok hd | have hs := str_ok hd.2 | have hs := str_ok hd.1 | (obtain ⟨hd1, hd2, hd3⟩ := hd; first | have hs := str_ok hd1 | have hs := str_ok hd2 | have hs := str_ok hd3))
            change Hid _ at hK
            obtain ⟨hcR, hfR, hzR⟩ := nwc hR
            first | (refine wanted_yes ?_ ?_; rfl) | (refine wanted_no ?_ ?_; rfl)
            go_wp2_with (first 
              | (go_at_call 19; refine (put_c _ _ [] tt ll _ (Bytes.nil _) (hs6.nw (by repeat (first | assumption | exact Nw.refl _ | refine Nw.alloc ?_ _ | refine Nw.drew ?_ | refine Nw.drewN2 ?_ _ | (refine Nw.trans ?_ (by assumption))))) k0 k1 (by simp)).mono ?_; rintro e w7 ⟨v7, rfl, hown7, hn7⟩; rw [HPT.out] at hown7))
            all_goals (refine hK.out _ _ ?_ ?_ <;> first | (solve | (repeat (first | assumption | exact Nw.refl _ | refine Nw.alloc ?_ _ | refine Nw.drew ?_ | refine Nw.drewN2 ?_ _ | (refine Nw.trans ?_ (by assumption))))) | exact rfl | exact Own.sl (by assumption))
          try simp only [Act.put, List.setIfInBounds_toArray, List.set_cons_zero, List.set_cons_succ, Nat.reduceAdd, List.length_nil, List.length_cons, List.nil_append, List.cons_append]
        refine Stairs.nil ?_
        intro x wR hR hx
        have h6 := hx 6 (by decide)
        simp only [sayAt, List.getD_cons_zero, List.getD_cons_succ, Say.ok, Vl] at h6
        clear hx
        obtain ⟨hcR, hfR, hzR⟩ := nwc hR
        go_wp2
        go_roundw
        case rel => exact ⟨2, by omega, rfl, hn.trans (hn6.trans hR)⟩
        case measure => (simp [intOf] <;> omega)
      · have hde : (ee != 0) = true := by simpa using he
        clear hcan
        go_wp2_with (first
          | (go_at_call 22; refine (HGC.out _ _ hyR).mono ?_; rintro e w4 ⟨v4, rfl, hs4, hn4⟩; obtain ⟨p4, c4, rfl, _⟩ := i64s_open hs4; dsimp only at hs4 ⊢)
          | fail)
        go_roundw
        case rel => exact ⟨2, by omega, rfl, (by repeat (first | assumption | exact Nw.refl _ | refine Nw.alloc ?_ _ | refine Nw.drew ?_ | refine Nw.drewN2 ?_ _ | (refine Nw.trans ?_ (by assumption))))⟩
        case measure => (simp [intOf] <;> omega)
    | 2, _ =>
      rw [show ((2 : Nat) : Int) = 2 from rfl]
      go_wp2_with (first
        | (go_at_call 21; refine (awake_c _).mono ?_; rintro e w9 ⟨rfl, hn9⟩)
        | fail)
      go_ret
      exact ⟨rfl, q5.trans (hn.trans hn9)⟩
end Rec
end Go.Proofs.Ytfbokhodcgpppaa
