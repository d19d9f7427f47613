/- The contract of watchglassref8.Get: as record.Get's. No condition but lengths. -/
import Derived.Test.YtdihoedehmfgfaaRecD
import Derived.Test.YtdihoedehmfgfaaJSq
set_option linter.unusedSimpArgs false
set_option linter.unusedVariables false
namespace Go.Proofs.Ytdihoedehmfgfaa
open Go.ChangeShapes Go.WideShapes Go.ChangeAt Go.RowKit
namespace Rec
open Go.Proofs.Ytdihoedehmfgfaa.Sum (Hands8 byte byte_val right val val_snoc)
set_option maxRecDepth 20000 in
set_option maxHeartbeats 3200000 in
theorem rget_low (vb : Value) (b : List UInt8) (p : Int) (w : World) (hb : Bytes w vb b) (hlen : b.length ≤ 1000000000) (hp1 : -9223372036854775808 ≤ p) (hp2 : p < 0) :
    Calls Try.prog 100 #[vb, .int .i64 p] w (HandsGO w (get b p)) := by
  obtain ⟨q, cap, rfl, hcap, hmx, _, hc⟩ := hb.open
  have hp : pr p = 0 := by unfold pr; omega
  by_cases h0 : b.length = 0
  · have HG := hid (get_len0 p h0)
    have hd0 : ((b.length : Int) == 0) = true := by rw [h0]; rfl
    go_enter Try.func100, Try.ntmps100
    go_wp2
    ((try simp only [Exit.inBlock, Exit.then]); refine bodyPost_ret (results_cell3 rfl _ _ _ _ _ _ _ rfl (heap_new _ _) Try.underlying38 rfl (by kernel_rfl)) rfl ?_)
    exact HandsG.no HG.out ((Nw.refl w).alloc _)
  · have hd0 : ((b.length : Int) == 0) = false := beq_eq_false_iff_ne.2 (by omega)
    by_cases h1 : b.length = 1
    · have HG := hid (get_len1 p h1)
      have hd1 : ((b.length : Int) == 1) = true := by rw [h1]; rfl
      go_enter Try.func100, Try.ntmps100
      go_wp2
      ((try simp only [Exit.inBlock, Exit.then]); refine bodyPost_ret (results_cell3 rfl _ _ _ _ _ _ _ rfl (heap_new _ _) Try.underlying38 rfl (by kernel_rfl)) rfl ?_)
      exact HandsG.no HG.out ((Nw.refl w).alloc _)
    · have hd1 : ((b.length : Int) == 1) = false := beq_eq_false_iff_ne.2 (by omega)
      obtain ⟨bb, bo, x0, rfl, hcell0, hx0, hl0⟩ := u8s_cell hc 0 (by omega)
      obtain ⟨_, _, x1, e, hcell1, hx1, hl1⟩ := u8s_cell hc 1 (by omega)
      cases e
      have hb0 : 0 < b.length := by omega
      have hb1 : 1 < b.length := by omega
      simp only [Nat.add_zero] at hcell0
      have hbb : bb < w.heap.size := World.block_lt_of_cell? w _ hcell0
      have hsz : (size b : Int) = 256 * (x0.toNat : Int) + x1.toNat := by unfold size; simp only [List.getD_eq_getElem?_getD, hx0.out, hx1.out, Option.getD_some]; omega
      have hor := or_size x0.toNat x1.toNat x0.toNat_lt x1.toNat_lt
      have hor2 : 256 * (x0.toNat : Int) + x1.toNat = size b := hsz.symm
      rw [← hsz] at hor
      have hsb := size_bd b
      have HF := hid (get_form (b := b) p (by omega))
      have HSH := hid (get_short (b := b) p (by omega))
      have HLO := hid (get_long (b := b) p (by omega))
      have HC := hid hc
      clear hsz hc
      generalize size b = n at *
      by_cases h8 : n < 8
      · have HG := hid (HF.out (Or.inl h8))
        have hd8 : decide ((n : Int) < 8) = true := decide_eq_true (by omega)
        go_enter Try.func100, Try.ntmps100
        go_upto_region 6 with fail
        go_quiet (fail)
        have hnq : Nw w ((w.alloc (.cells #[.int .u64 0, .slice none 0 0] 38)).drewN nq) := ((Nw.refl w).alloc _).drewN2 nq
        have zhq : ((w.alloc (.cells #[.int .u64 0, .slice none 0 0] 38)).drewN nq).heap[w.heap.size]? = some (.cells #[.int .u64 0, .slice none 0 0] 38 (0, 0)) := heap_new w _
        generalize (w.alloc (.cells #[.int .u64 0, .slice none 0 0] 38)).drewN nq = wq at *
        have zq0 := heap_cell zhq 0
        have zq1 := heap_cell zhq 1
        have zq2 := heap_frozen zhq 0
        have zq3 := heap_frozen zhq 1
        simp at zq0 zq1
        go_wp2
        ((try simp only [Exit.inBlock, Exit.then]); refine bodyPost_ret (results_cell3 rfl _ _ _ _ _ _ _ rfl (zero_heap zhq hnq (Nat.le_refl _) _ _).1 Try.underlying38 rfl (by kernel_rfl)) rfl ?_)
        exact HandsG.no HG.out (zero_heap zhq hnq (Nat.le_refl _) _ _).2
      · have hd8 : decide ((n : Int) < 8) = false := decide_eq_false (by omega)
        by_cases h9 : 8 + 0 < (n : Int)
        · have HG := hid (HF.out (Or.inr (by rw [hp]; exact h9)))
          have hd9 : decide (8 + 0 < (n : Int)) = true := decide_eq_true h9
          go_enter Try.func100, Try.ntmps100
          go_upto_region 6 with fail
          go_quiet (fail)
          have hnq : Nw w ((w.alloc (.cells #[.int .u64 0, .slice none 0 0] 38)).drewN nq) := ((Nw.refl w).alloc _).drewN2 nq
          have zhq : ((w.alloc (.cells #[.int .u64 0, .slice none 0 0] 38)).drewN nq).heap[w.heap.size]? = some (.cells #[.int .u64 0, .slice none 0 0] 38 (0, 0)) := heap_new w _
          generalize (w.alloc (.cells #[.int .u64 0, .slice none 0 0] 38)).drewN nq = wq at *
          have zq0 := heap_cell zhq 0
          have zq1 := heap_cell zhq 1
          have zq2 := heap_frozen zhq 0
          have zq3 := heap_frozen zhq 1
          simp at zq0 zq1
          go_wp2
          ((try simp only [Exit.inBlock, Exit.then]); refine bodyPost_ret (results_cell3 rfl _ _ _ _ _ _ _ rfl (zero_heap zhq hnq (Nat.le_refl _) _ _).1 Try.underlying38 rfl (by kernel_rfl)) rfl ?_)
          exact HandsG.no HG.out (zero_heap zhq hnq (Nat.le_refl _) _ _).2
        · have hd9 : decide (8 + 0 < (n : Int)) = false := decide_eq_false h9
          by_cases hl : b.length < n + 6
          · have HG := hid (HSH.out (by rw [hp]; omega) hl)
            have hdl : decide ((b.length : Int) < (n : Int) + 6) = true := decide_eq_true (by omega)
            go_enter Try.func100, Try.ntmps100
            go_upto_region 6 with fail
            go_quiet (fail)
            have hnq : Nw w ((w.alloc (.cells #[.int .u64 0, .slice none 0 0] 38)).drewN nq) := ((Nw.refl w).alloc _).drewN2 nq
            have zhq : ((w.alloc (.cells #[.int .u64 0, .slice none 0 0] 38)).drewN nq).heap[w.heap.size]? = some (.cells #[.int .u64 0, .slice none 0 0] 38 (0, 0)) := heap_new w _
            generalize (w.alloc (.cells #[.int .u64 0, .slice none 0 0] 38)).drewN nq = wq at *
            have zq0 := heap_cell zhq 0
            have zq1 := heap_cell zhq 1
            have zq2 := heap_frozen zhq 0
            have zq3 := heap_frozen zhq 1
            simp at zq0 zq1
            go_wp2
            ((try simp only [Exit.inBlock, Exit.then]); refine bodyPost_ret (results_cell3 rfl _ _ _ _ _ _ _ rfl (zero_heap zhq hnq (Nat.le_refl _) _ _).1 Try.underlying38 rfl (by kernel_rfl)) rfl ?_)
            exact HandsG.no HG.out (zero_heap zhq hnq (Nat.le_refl _) _ _).2
          · have hdl : decide ((b.length : Int) < (n : Int) + 6) = false := decide_eq_false (by omega)
            have hl3 := HLO.out (by rw [hp]; omega) hl
            have hbt : Bytes w (.slice (some ⟨bb, bo, none⟩) (n + 6) cap) (b.take (n + 6)) := Bytes.mk (by rw [u8s_take]; exact HC.out.take _) (by simp; omega) (by simp; omega) hmx (fun h => by cases h)
            have hbl : (b.take (n + 6)).length ≤ 1073741824 := by simp; omega
            have hcn : n + 6 ≤ cap := by omega
            cases hr : right (b.take (n + 6)) with
            | none =>
              rw [hr] at hl3
              have HG := hid hl3
              clear hl3
              go_enter Try.func100, Try.ntmps100
              go_upto_region 6 with fail
              go_quiet (fail)
              have hnq : Nw w ((w.alloc (.cells #[.int .u64 0, .slice none 0 0] 38)).drewN nq) := ((Nw.refl w).alloc _).drewN2 nq
              have zhq : ((w.alloc (.cells #[.int .u64 0, .slice none 0 0] 38)).drewN nq).heap[w.heap.size]? = some (.cells #[.int .u64 0, .slice none 0 0] 38 (0, 0)) := heap_new w _
              generalize (w.alloc (.cells #[.int .u64 0, .slice none 0 0] 38)).drewN nq = wq at *
              have zq0 := heap_cell zhq 0
              have zq1 := heap_cell zhq 1
              have zq2 := heap_frozen zhq 0
              have zq3 := heap_frozen zhq 1
              simp at zq0 zq1
              go_wp2_with (first
                | (go_at_call 74; refine (Sum.rright_c _ (b.take (n + 6)) _ (hbt.nw (by repeat (first | assumption | exact Nw.refl _ | refine Nw.alloc ?_ _ | refine Nw.drew ?_ | refine Nw.drewN2 ?_ _ | (refine Nw.trans ?_ (by assumption))))) hbl).mono ?_; rintro e w2 ⟨v2, rfl, hb2, hn2⟩; rw [hr] at hb2 ⊢; obtain ⟨p2, c2, rfl, _⟩ := hb2.open; have zh := hn2.heap zhq; have z0 := heap_cell zh 0; have z1 := heap_cell zh 1; have z2 := heap_frozen zh 0; have z3 := heap_frozen zh 1; simp at z0 z1))
              ((try simp only [Exit.inBlock, Exit.then]); refine bodyPost_ret (results_cell3 rfl _ _ _ _ _ _ _ rfl (zero_heap zh (hnq.trans hn2) (Nat.le_refl _) _ _).1 Try.underlying38 rfl (by kernel_rfl)) rfl ?_)
              exact HandsG.no HG.out (zero_heap zh (hnq.trans hn2) (Nat.le_refl _) _ _).2
            | some r =>
              rw [hr] at hl3
              dsimp only at hl3
              rw [ids_nats] at hl3
              unfold time at hl3
              have hrl := right_len hr
              have hrn : r.length = n + 2 := by rw [List.length_take] at hrl; omega
              have hTl : ((r.drop 2).take 8).length = 8 := by rw [List.length_take, List.length_drop]; omega
              have hDl : (r.drop 10).length = n - 8 := by rw [List.length_drop]; omega
              obtain ⟨T, hT⟩ : ∃ T, T = (r.drop 2).take 8 := ⟨_, rfl⟩
              obtain ⟨D, hD⟩ : ∃ D, D = r.drop 10 := ⟨_, rfl⟩
              rw [← hT] at hTl hl3
              rw [← hD] at hDl hl3
              have HT := hid hT
              have HD := hid hD
              have HL := hid hl3
              clear hl3 hT hD
              go_enter Try.func100, Try.ntmps100
              go_upto_region 6 with fail
              go_quiet (fail)
              have hnq : Nw w ((w.alloc (.cells #[.int .u64 0, .slice none 0 0] 38)).drewN nq) := ((Nw.refl w).alloc _).drewN2 nq
              have zhq : ((w.alloc (.cells #[.int .u64 0, .slice none 0 0] 38)).drewN nq).heap[w.heap.size]? = some (.cells #[.int .u64 0, .slice none 0 0] 38 (0, 0)) := heap_new w _
              generalize (w.alloc (.cells #[.int .u64 0, .slice none 0 0] 38)).drewN nq = wq at *
              have zq0 := heap_cell zhq 0
              have zq1 := heap_cell zhq 1
              have zq2 := heap_frozen zhq 0
              have zq3 := heap_frozen zhq 1
              simp at zq0 zq1
              go_wp2_with (first
                | (go_at_call 74; refine (Sum.rright_c _ (b.take (n + 6)) _ (hbt.nw (by repeat (first | assumption | exact Nw.refl _ | refine Nw.alloc ?_ _ | refine Nw.drew ?_ | refine Nw.drewN2 ?_ _ | (refine Nw.trans ?_ (by assumption))))) hbl).mono ?_; rintro e w2 ⟨v2, rfl, hb2, hn2⟩; rw [hr] at hb2 ⊢; obtain ⟨p2, c2, rfl, hc2, hm2, _, hcs2⟩ := Bytes.open (bs := r) hb2; obtain ⟨rb, ro, rfl⟩ := hcs2.place (by rw [u8s_length]; omega); have zh := hn2.heap zhq; have z0 := heap_cell zh 0; have z1 := heap_cell zh 1; have z2 := heap_frozen zh 0; have z3 := heap_frozen zh 1; simp at z0 z1; have hr10 : 10 ≤ c2 := (by omega))
                | fail)
              have HC8 := hid (show Cells w2 (some ⟨rb, ro + 2, none⟩) (u8s T) by rw [HT.out]; exact sub8 hcs2)
              have HC10 := hid (show Cells w2 (some ⟨rb, ro + 10, none⟩) (u8s D) by rw [HD.out]; exact sub10 hcs2)
              clear hcs2 hbt hb hb2
              obtain rfl : n = D.length + 8 := by omega
              have hDb : D.length < 65536 := by omega
              clear hDl
              push_cast
              go_loopw [11, 62] (fun _ i wr => ∃ k : Nat, k ≤ 8 ∧ i = .int .i64 k ∧ EvSt w2 w.heap.size w2.heap.size (val (T.take k)) (.slice none 0 0) [] wr) (fun _ i _ => 8 - (intOf i).toNat)
              case atStart => exact ⟨0, by omega, rfl, EvSt.new zh rfl⟩
              case round =>
                obtain ⟨k, hk, rfl, hst⟩ := hrel
                obtain ⟨r0, r1, r2, r3, r4, r5, r6, r7, r8⟩ := hst.read
                have hn8 := hst.2.2.2.1
                have HST := hid hst
                clear hst
                by_cases hlt : k < 8
                · have hdk : decide ((k : Int) < 8) = true := decide_eq_true (by omega)
                  obtain ⟨bx, ox, xb, e, hcell, hx, hlx⟩ := u8s_cell (HC8.out.nw hn8) k (by omega)
                  cases e
                  have HS := hid (val_snoc T k xb hx.out)
                  obtain ⟨v0, v1⟩ := val_lt (T.take k) k (by simp; omega)
                  have hor3 := or_time (val (T.take k)) xb.toNat v0 v1 (by omega) hlx
                  generalize val (T.take k) = A at *
                  rw [Nat.add_assoc] at hcell
                  have e2k : (2 + (k : Int)).toNat = 2 + k := by omega
                  have hrbw : rb < wr.heap.size := World.block_lt_of_cell? wr _ hcell
                  go_upto_region 18 with fail
                  refine wp_region_end rfl (by kernel_rfl) (by kernel_rfl) (by kernel_rfl) (by kernel_rfl) (by kernel_rfl) ?_
                  dsimp only [List.dropLast]
                  iterate 11
                    refine Stairs.is ?_ ?_ ?_
                    rotate_left 1
                    · intro x wR hR hd K hK
                      simp only [Act.put, List.setIfInBounds_toArray, List.set_cons_zero, List.set_cons_succ, Nat.reduceAdd, List.length_nil, List.length_cons, List.nil_append, List.cons_append, Say.ok] at hK ⊢
                      clear hd
                      change Hid _ at hK
                      obtain ⟨hcR, hfR, hzR⟩ := nwc hR
                      first | (refine wanted_yes ?_ ?_; rfl) | (refine wanted_no ?_ ?_; rfl)
                      go_wp2_with (first | fail)
                      all_goals (refine hK.out _ _ ?_ ?_ <;> first | (solve | (repeat (first | assumption | exact Nw.refl _ | refine Nw.alloc ?_ _ | refine Nw.drew ?_ | refine Nw.drewN2 ?_ _ | (refine Nw.trans ?_ (by assumption))))) | exact rfl)
                    try simp only [Act.put, List.setIfInBounds_toArray, List.set_cons_zero, List.set_cons_succ, Nat.reduceAdd, List.length_nil, List.length_cons, List.nil_append, List.cons_append]
                  refine Stairs.nil ?_
                  intro x wR hR hx
                  clear hx
                  obtain ⟨hcR, hfR, hzR⟩ := nwc hR
                  try dsimp only
                  go_wp2
                  go_roundw
                  case rel => exact ⟨k + 1, by omega, by go_num, by rw [HS.out]; exact (HST.out.nw hR).time _⟩
                  case measure => simp [intOf]; omega
                · obtain rfl : k = 8 := by omega
                  rw [show ((8 : Nat) : Int) = 8 from rfl]
                  have hdk : decide ((8 : Int) < 8) = false := rfl
                  have hst2 := HST.out
                  rw [List.take_of_length_le (by omega)] at hst2 r0
                  clear HST
                  by_cases hc10 : c2 = 10
                  · go_wp2
                    have hDz : c2 = 10 → D.length = 0 := by omega
                    go_loopw [13, 80] (fun _ i wr => ∃ k : Nat, k ≤ D.length ∧ i = .int .i64 k ∧ ∃ v L, Hid (L = (nats D).take k) ∧ EvSt w2 w.heap.size w2.heap.size (val T) v L wr) (fun _ i _ => D.length - (intOf i).toNat)
                    case atStart => exact ⟨0, Nat.zero_le _, rfl, _, [], (rfl : _ = _), hst2⟩
                    case round =>
                      obtain ⟨k, hk, rfl, v, L, HLe, hst⟩ := hrel
                      obtain ⟨r0, r1, r2, r3, r4, r5, r6, r7, r8⟩ := hst.read
                      obtain ⟨pv, cv, rfl, hcv, hmv, _⟩ := i64s_open hst.2.2.1.sl
                      have hnl : L.length ≤ k := by rw [HLe.out]; exact Nat.le_of_eq (nats_len D k hk)
                      have HST := hid hst
                      clear hst
                      by_cases hlt : k < D.length
                      · exfalso; first | omega | (have := hDz hc10; omega)
                      · obtain rfl : k = D.length := by omega
                        have hdk : decide (D.length < D.length) = false := decide_eq_false (by omega)
                        clear hnl
                        have hLD : nats D = L := by rw [HLe.out, nats_all]
                        have hslD := HST.out.2.2.1.sl
                        rw [hLD] at HL
                        clear HLe
                        generalize hvT : val T = tv at *
                        clear hLD hvT
                        cases hri : rises L 0 with
                        | false =>
                          have HG := hid (HL.out.trans (if_neg (by rw [hp, hri]; decide)))
                          go_wp2_with (first
                            | (go_at_call 77; refine (rids_c _ L _ _ hslD).mono ?_; rintro e w3 ⟨rfl, hn3⟩; have hs3 := HST.out.nw hn3; obtain ⟨s0, s1, s2, s3, s4, s5, s6, s7, s8⟩ := hs3.read))
                          ((try simp only [Exit.inBlock, Exit.then]); refine bodyPost_ret (results_cell3 rfl _ _ _ _ _ _ _ rfl (zero_heap hs3.2.1 (hnq.trans (hn2.trans hs3.2.2.2.1)) (Nat.le_refl _) _ _).1 Try.underlying38 rfl (by kernel_rfl)) rfl ?_)
                          exact HandsG.no HG.out (zero_heap hs3.2.1 (hnq.trans (hn2.trans hs3.2.2.2.1)) (Nat.le_refl _) _ _).2
                        | true =>
                          have HG := hid (HL.out.trans (if_pos (by rw [hp, hri])))
                          go_wp2_with (first
                            | (go_at_call 77; refine (rids_c _ L _ _ hslD).mono ?_; rintro e w3 ⟨rfl, hn3⟩; have hs3 := HST.out.nw hn3; obtain ⟨s0, s1, s2, s3, s4, s5, s6, s7, s8⟩ := hs3.read))
                          obtain ⟨d0, d2, d3⟩ := hs3.doneO (hnq.trans hn2) (Nat.le_refl _) rfl
                          ((try simp only [Exit.inBlock, Exit.then]); refine bodyPost_ret (results_cell3 rfl _ _ _ _ _ _ _ rfl d0 Try.underlying38 rfl (by kernel_rfl)) rfl ?_)
                          exact HandsG.yes HG.out (by have := hDz; omega) d2 d3
                  · go_wp2
                    have hDz : c2 = 10 → D.length = 0 := by omega
                    go_loopw [13, 80] (fun _ i wr => ∃ k : Nat, k ≤ D.length ∧ i = .int .i64 k ∧ ∃ v L, Hid (L = (nats D).take k) ∧ EvSt w2 w.heap.size w2.heap.size (val T) v L wr) (fun _ i _ => D.length - (intOf i).toNat)
                    case atStart => exact ⟨0, Nat.zero_le _, rfl, _, [], (rfl : _ = _), hst2⟩
                    case round =>
                      obtain ⟨k, hk, rfl, v, L, HLe, hst⟩ := hrel
                      obtain ⟨r0, r1, r2, r3, r4, r5, r6, r7, r8⟩ := hst.read
                      obtain ⟨pv, cv, rfl, hcv, hmv, _⟩ := i64s_open hst.2.2.1.sl
                      have hnl : L.length ≤ k := by rw [HLe.out]; exact Nat.le_of_eq (nats_len D k hk)
                      have HST := hid hst
                      clear hst
                      by_cases hlt : k < D.length
                      · exfalso; first | omega | (have := hDz hc10; omega)
                      · obtain rfl : k = D.length := by omega
                        have hdk : decide (D.length < D.length) = false := decide_eq_false (by omega)
                        clear hnl
                        have hLD : nats D = L := by rw [HLe.out, nats_all]
                        have hslD := HST.out.2.2.1.sl
                        rw [hLD] at HL
                        clear HLe
                        generalize hvT : val T = tv at *
                        clear hLD hvT
                        cases hri : rises L 0 with
                        | false =>
                          have HG := hid (HL.out.trans (if_neg (by rw [hp, hri]; decide)))
                          go_wp2_with (first
                            | (go_at_call 77; refine (rids_c _ L _ _ hslD).mono ?_; rintro e w3 ⟨rfl, hn3⟩; have hs3 := HST.out.nw hn3; obtain ⟨s0, s1, s2, s3, s4, s5, s6, s7, s8⟩ := hs3.read))
                          ((try simp only [Exit.inBlock, Exit.then]); refine bodyPost_ret (results_cell3 rfl _ _ _ _ _ _ _ rfl (zero_heap hs3.2.1 (hnq.trans (hn2.trans hs3.2.2.2.1)) (Nat.le_refl _) _ _).1 Try.underlying38 rfl (by kernel_rfl)) rfl ?_)
                          exact HandsG.no HG.out (zero_heap hs3.2.1 (hnq.trans (hn2.trans hs3.2.2.2.1)) (Nat.le_refl _) _ _).2
                        | true =>
                          have HG := hid (HL.out.trans (if_pos (by rw [hp, hri])))
                          go_wp2_with (first
                            | (go_at_call 77; refine (rids_c _ L _ _ hslD).mono ?_; rintro e w3 ⟨rfl, hn3⟩; have hs3 := HST.out.nw hn3; obtain ⟨s0, s1, s2, s3, s4, s5, s6, s7, s8⟩ := hs3.read))
                          obtain ⟨d0, d2, d3⟩ := hs3.doneO (hnq.trans hn2) (Nat.le_refl _) rfl
                          ((try simp only [Exit.inBlock, Exit.then]); refine bodyPost_ret (results_cell3 rfl _ _ _ _ _ _ _ rfl d0 Try.underlying38 rfl (by kernel_rfl)) rfl ?_)
                          exact HandsG.yes HG.out (by have := hDz; omega) d2 d3
set_option maxRecDepth 20000 in
set_option maxHeartbeats 3200000 in
theorem rget_mid (vb : Value) (b : List UInt8) (p : Int) (w : World) (hb : Bytes w vb b) (hlen : b.length ≤ 1000000000) (hp1 : 0 ≤ p) (hp2 : p ≤ 64) :
    Calls Try.prog 100 #[vb, .int .i64 p] w (HandsGO w (get b p)) := by
  obtain ⟨q, cap, rfl, hcap, hmx, _, hc⟩ := hb.open
  have hp : pr p = p := by unfold pr; omega
  by_cases h0 : b.length = 0
  · have HG := hid (get_len0 p h0)
    have hd0 : ((b.length : Int) == 0) = true := by rw [h0]; rfl
    go_enter Try.func100, Try.ntmps100
    go_wp2
    ((try simp only [Exit.inBlock, Exit.then]); refine bodyPost_ret (results_cell3 rfl _ _ _ _ _ _ _ rfl (heap_new _ _) Try.underlying38 rfl (by kernel_rfl)) rfl ?_)
    exact HandsG.no HG.out ((Nw.refl w).alloc _)
  · have hd0 : ((b.length : Int) == 0) = false := beq_eq_false_iff_ne.2 (by omega)
    by_cases h1 : b.length = 1
    · have HG := hid (get_len1 p h1)
      have hd1 : ((b.length : Int) == 1) = true := by rw [h1]; rfl
      go_enter Try.func100, Try.ntmps100
      go_wp2
      ((try simp only [Exit.inBlock, Exit.then]); refine bodyPost_ret (results_cell3 rfl _ _ _ _ _ _ _ rfl (heap_new _ _) Try.underlying38 rfl (by kernel_rfl)) rfl ?_)
      exact HandsG.no HG.out ((Nw.refl w).alloc _)
    · have hd1 : ((b.length : Int) == 1) = false := beq_eq_false_iff_ne.2 (by omega)
      obtain ⟨bb, bo, x0, rfl, hcell0, hx0, hl0⟩ := u8s_cell hc 0 (by omega)
      obtain ⟨_, _, x1, e, hcell1, hx1, hl1⟩ := u8s_cell hc 1 (by omega)
      cases e
      have hb0 : 0 < b.length := by omega
      have hb1 : 1 < b.length := by omega
      simp only [Nat.add_zero] at hcell0
      have hbb : bb < w.heap.size := World.block_lt_of_cell? w _ hcell0
      have hsz : (size b : Int) = 256 * (x0.toNat : Int) + x1.toNat := by unfold size; simp only [List.getD_eq_getElem?_getD, hx0.out, hx1.out, Option.getD_some]; omega
      have hor := or_size x0.toNat x1.toNat x0.toNat_lt x1.toNat_lt
      have hor2 : 256 * (x0.toNat : Int) + x1.toNat = size b := hsz.symm
      rw [← hsz] at hor
      have hsb := size_bd b
      have HF := hid (get_form (b := b) p (by omega))
      have HSH := hid (get_short (b := b) p (by omega))
      have HLO := hid (get_long (b := b) p (by omega))
      have HC := hid hc
      clear hsz hc
      generalize size b = n at *
      by_cases h8 : n < 8
      · have HG := hid (HF.out (Or.inl h8))
        have hd8 : decide ((n : Int) < 8) = true := decide_eq_true (by omega)
        go_enter Try.func100, Try.ntmps100
        go_upto_region 6 with fail
        go_quiet (fail)
        have hnq : Nw w ((w.alloc (.cells #[.int .u64 0, .slice none 0 0] 38)).drewN nq) := ((Nw.refl w).alloc _).drewN2 nq
        have zhq : ((w.alloc (.cells #[.int .u64 0, .slice none 0 0] 38)).drewN nq).heap[w.heap.size]? = some (.cells #[.int .u64 0, .slice none 0 0] 38 (0, 0)) := heap_new w _
        generalize (w.alloc (.cells #[.int .u64 0, .slice none 0 0] 38)).drewN nq = wq at *
        have zq0 := heap_cell zhq 0
        have zq1 := heap_cell zhq 1
        have zq2 := heap_frozen zhq 0
        have zq3 := heap_frozen zhq 1
        simp at zq0 zq1
        go_wp2
        ((try simp only [Exit.inBlock, Exit.then]); refine bodyPost_ret (results_cell3 rfl _ _ _ _ _ _ _ rfl (zero_heap zhq hnq (Nat.le_refl _) _ _).1 Try.underlying38 rfl (by kernel_rfl)) rfl ?_)
        exact HandsG.no HG.out (zero_heap zhq hnq (Nat.le_refl _) _ _).2
      · have hd8 : decide ((n : Int) < 8) = false := decide_eq_false (by omega)
        by_cases h9 : 8 + p < (n : Int)
        · have HG := hid (HF.out (Or.inr (by rw [hp]; exact h9)))
          have hd9 : decide (8 + p < (n : Int)) = true := decide_eq_true h9
          go_enter Try.func100, Try.ntmps100
          go_upto_region 6 with fail
          go_quiet (fail)
          have hnq : Nw w ((w.alloc (.cells #[.int .u64 0, .slice none 0 0] 38)).drewN nq) := ((Nw.refl w).alloc _).drewN2 nq
          have zhq : ((w.alloc (.cells #[.int .u64 0, .slice none 0 0] 38)).drewN nq).heap[w.heap.size]? = some (.cells #[.int .u64 0, .slice none 0 0] 38 (0, 0)) := heap_new w _
          generalize (w.alloc (.cells #[.int .u64 0, .slice none 0 0] 38)).drewN nq = wq at *
          have zq0 := heap_cell zhq 0
          have zq1 := heap_cell zhq 1
          have zq2 := heap_frozen zhq 0
          have zq3 := heap_frozen zhq 1
          simp at zq0 zq1
          go_wp2
          ((try simp only [Exit.inBlock, Exit.then]); refine bodyPost_ret (results_cell3 rfl _ _ _ _ _ _ _ rfl (zero_heap zhq hnq (Nat.le_refl _) _ _).1 Try.underlying38 rfl (by kernel_rfl)) rfl ?_)
          exact HandsG.no HG.out (zero_heap zhq hnq (Nat.le_refl _) _ _).2
        · have hd9 : decide (8 + p < (n : Int)) = false := decide_eq_false h9
          by_cases hl : b.length < n + 6
          · have HG := hid (HSH.out (by rw [hp]; omega) hl)
            have hdl : decide ((b.length : Int) < (n : Int) + 6) = true := decide_eq_true (by omega)
            go_enter Try.func100, Try.ntmps100
            go_upto_region 6 with fail
            go_quiet (fail)
            have hnq : Nw w ((w.alloc (.cells #[.int .u64 0, .slice none 0 0] 38)).drewN nq) := ((Nw.refl w).alloc _).drewN2 nq
            have zhq : ((w.alloc (.cells #[.int .u64 0, .slice none 0 0] 38)).drewN nq).heap[w.heap.size]? = some (.cells #[.int .u64 0, .slice none 0 0] 38 (0, 0)) := heap_new w _
            generalize (w.alloc (.cells #[.int .u64 0, .slice none 0 0] 38)).drewN nq = wq at *
            have zq0 := heap_cell zhq 0
            have zq1 := heap_cell zhq 1
            have zq2 := heap_frozen zhq 0
            have zq3 := heap_frozen zhq 1
            simp at zq0 zq1
            go_wp2
            ((try simp only [Exit.inBlock, Exit.then]); refine bodyPost_ret (results_cell3 rfl _ _ _ _ _ _ _ rfl (zero_heap zhq hnq (Nat.le_refl _) _ _).1 Try.underlying38 rfl (by kernel_rfl)) rfl ?_)
            exact HandsG.no HG.out (zero_heap zhq hnq (Nat.le_refl _) _ _).2
          · have hdl : decide ((b.length : Int) < (n : Int) + 6) = false := decide_eq_false (by omega)
            have hl3 := HLO.out (by rw [hp]; omega) hl
            have hbt : Bytes w (.slice (some ⟨bb, bo, none⟩) (n + 6) cap) (b.take (n + 6)) := Bytes.mk (by rw [u8s_take]; exact HC.out.take _) (by simp; omega) (by simp; omega) hmx (fun h => by cases h)
            have hbl : (b.take (n + 6)).length ≤ 1073741824 := by simp; omega
            have hcn : n + 6 ≤ cap := by omega
            cases hr : right (b.take (n + 6)) with
            | none =>
              rw [hr] at hl3
              have HG := hid hl3
              clear hl3
              go_enter Try.func100, Try.ntmps100
              go_upto_region 6 with fail
              go_quiet (fail)
              have hnq : Nw w ((w.alloc (.cells #[.int .u64 0, .slice none 0 0] 38)).drewN nq) := ((Nw.refl w).alloc _).drewN2 nq
              have zhq : ((w.alloc (.cells #[.int .u64 0, .slice none 0 0] 38)).drewN nq).heap[w.heap.size]? = some (.cells #[.int .u64 0, .slice none 0 0] 38 (0, 0)) := heap_new w _
              generalize (w.alloc (.cells #[.int .u64 0, .slice none 0 0] 38)).drewN nq = wq at *
              have zq0 := heap_cell zhq 0
              have zq1 := heap_cell zhq 1
              have zq2 := heap_frozen zhq 0
              have zq3 := heap_frozen zhq 1
              simp at zq0 zq1
              go_wp2_with (first
                | (go_at_call 74; refine (Sum.rright_c _ (b.take (n + 6)) _ (hbt.nw (by repeat (first | assumption | exact Nw.refl _ | refine Nw.alloc ?_ _ | refine Nw.drew ?_ | refine Nw.drewN2 ?_ _ | (refine Nw.trans ?_ (by assumption))))) hbl).mono ?_; rintro e w2 ⟨v2, rfl, hb2, hn2⟩; rw [hr] at hb2 ⊢; obtain ⟨p2, c2, rfl, _⟩ := hb2.open; have zh := hn2.heap zhq; have z0 := heap_cell zh 0; have z1 := heap_cell zh 1; have z2 := heap_frozen zh 0; have z3 := heap_frozen zh 1; simp at z0 z1))
              ((try simp only [Exit.inBlock, Exit.then]); refine bodyPost_ret (results_cell3 rfl _ _ _ _ _ _ _ rfl (zero_heap zh (hnq.trans hn2) (Nat.le_refl _) _ _).1 Try.underlying38 rfl (by kernel_rfl)) rfl ?_)
              exact HandsG.no HG.out (zero_heap zh (hnq.trans hn2) (Nat.le_refl _) _ _).2
            | some r =>
              rw [hr] at hl3
              dsimp only at hl3
              rw [ids_nats] at hl3
              unfold time at hl3
              have hrl := right_len hr
              have hrn : r.length = n + 2 := by rw [List.length_take] at hrl; omega
              have hTl : ((r.drop 2).take 8).length = 8 := by rw [List.length_take, List.length_drop]; omega
              have hDl : (r.drop 10).length = n - 8 := by rw [List.length_drop]; omega
              obtain ⟨T, hT⟩ : ∃ T, T = (r.drop 2).take 8 := ⟨_, rfl⟩
              obtain ⟨D, hD⟩ : ∃ D, D = r.drop 10 := ⟨_, rfl⟩
              rw [← hT] at hTl hl3
              rw [← hD] at hDl hl3
              have HT := hid hT
              have HD := hid hD
              have HL := hid hl3
              clear hl3 hT hD
              go_enter Try.func100, Try.ntmps100
              go_upto_region 6 with fail
              go_quiet (fail)
              have hnq : Nw w ((w.alloc (.cells #[.int .u64 0, .slice none 0 0] 38)).drewN nq) := ((Nw.refl w).alloc _).drewN2 nq
              have zhq : ((w.alloc (.cells #[.int .u64 0, .slice none 0 0] 38)).drewN nq).heap[w.heap.size]? = some (.cells #[.int .u64 0, .slice none 0 0] 38 (0, 0)) := heap_new w _
              generalize (w.alloc (.cells #[.int .u64 0, .slice none 0 0] 38)).drewN nq = wq at *
              have zq0 := heap_cell zhq 0
              have zq1 := heap_cell zhq 1
              have zq2 := heap_frozen zhq 0
              have zq3 := heap_frozen zhq 1
              simp at zq0 zq1
              go_wp2_with (first
                | (go_at_call 74; refine (Sum.rright_c _ (b.take (n + 6)) _ (hbt.nw (by repeat (first | assumption | exact Nw.refl _ | refine Nw.alloc ?_ _ | refine Nw.drew ?_ | refine Nw.drewN2 ?_ _ | (refine Nw.trans ?_ (by assumption))))) hbl).mono ?_; rintro e w2 ⟨v2, rfl, hb2, hn2⟩; rw [hr] at hb2 ⊢; obtain ⟨p2, c2, rfl, hc2, hm2, _, hcs2⟩ := Bytes.open (bs := r) hb2; obtain ⟨rb, ro, rfl⟩ := hcs2.place (by rw [u8s_length]; omega); have zh := hn2.heap zhq; have z0 := heap_cell zh 0; have z1 := heap_cell zh 1; have z2 := heap_frozen zh 0; have z3 := heap_frozen zh 1; simp at z0 z1; have hr10 : 10 ≤ c2 := (by omega))
                | fail)
              have HC8 := hid (show Cells w2 (some ⟨rb, ro + 2, none⟩) (u8s T) by rw [HT.out]; exact sub8 hcs2)
              have HC10 := hid (show Cells w2 (some ⟨rb, ro + 10, none⟩) (u8s D) by rw [HD.out]; exact sub10 hcs2)
              clear hcs2 hbt hb hb2
              obtain rfl : n = D.length + 8 := by omega
              have hDb : D.length < 65536 := by omega
              clear hDl
              push_cast
              go_loopw [11, 62] (fun _ i wr => ∃ k : Nat, k ≤ 8 ∧ i = .int .i64 k ∧ EvSt w2 w.heap.size w2.heap.size (val (T.take k)) (.slice none 0 0) [] wr) (fun _ i _ => 8 - (intOf i).toNat)
              case atStart => exact ⟨0, by omega, rfl, EvSt.new zh rfl⟩
              case round =>
                obtain ⟨k, hk, rfl, hst⟩ := hrel
                obtain ⟨r0, r1, r2, r3, r4, r5, r6, r7, r8⟩ := hst.read
                have hn8 := hst.2.2.2.1
                have HST := hid hst
                clear hst
                by_cases hlt : k < 8
                · have hdk : decide ((k : Int) < 8) = true := decide_eq_true (by omega)
                  obtain ⟨bx, ox, xb, e, hcell, hx, hlx⟩ := u8s_cell (HC8.out.nw hn8) k (by omega)
                  cases e
                  have HS := hid (val_snoc T k xb hx.out)
                  obtain ⟨v0, v1⟩ := val_lt (T.take k) k (by simp; omega)
                  have hor3 := or_time (val (T.take k)) xb.toNat v0 v1 (by omega) hlx
                  generalize val (T.take k) = A at *
                  rw [Nat.add_assoc] at hcell
                  have e2k : (2 + (k : Int)).toNat = 2 + k := by omega
                  have hrbw : rb < wr.heap.size := World.block_lt_of_cell? wr _ hcell
                  go_upto_region 18 with fail
                  refine wp_region_end rfl (by kernel_rfl) (by kernel_rfl) (by kernel_rfl) (by kernel_rfl) (by kernel_rfl) ?_
                  dsimp only [List.dropLast]
                  iterate 11
                    refine Stairs.is ?_ ?_ ?_
                    rotate_left 1
                    · intro x wR hR hd K hK
                      simp only [Act.put, List.setIfInBounds_toArray, List.set_cons_zero, List.set_cons_succ, Nat.reduceAdd, List.length_nil, List.length_cons, List.nil_append, List.cons_append, Say.ok] at hK ⊢
                      clear hd
                      change Hid _ at hK
                      obtain ⟨hcR, hfR, hzR⟩ := nwc hR
                      first | (refine wanted_yes ?_ ?_; rfl) | (refine wanted_no ?_ ?_; rfl)
                      go_wp2_with (first | fail)
                      all_goals (refine hK.out _ _ ?_ ?_ <;> first | (solve | (repeat (first | assumption | exact Nw.refl _ | refine Nw.alloc ?_ _ | refine Nw.drew ?_ | refine Nw.drewN2 ?_ _ | (refine Nw.trans ?_ (by assumption))))) | exact rfl)
                    try simp only [Act.put, List.setIfInBounds_toArray, List.set_cons_zero, List.set_cons_succ, Nat.reduceAdd, List.length_nil, List.length_cons, List.nil_append, List.cons_append]
                  refine Stairs.nil ?_
                  intro x wR hR hx
                  clear hx
                  obtain ⟨hcR, hfR, hzR⟩ := nwc hR
                  try dsimp only
                  go_wp2
                  go_roundw
                  case rel => exact ⟨k + 1, by omega, by go_num, by rw [HS.out]; exact (HST.out.nw hR).time _⟩
                  case measure => simp [intOf]; omega
                · obtain rfl : k = 8 := by omega
                  rw [show ((8 : Nat) : Int) = 8 from rfl]
                  have hdk : decide ((8 : Int) < 8) = false := rfl
                  have hst2 := HST.out
                  rw [List.take_of_length_le (by omega)] at hst2 r0
                  clear HST
                  by_cases hc10 : c2 = 10
                  · go_wp2
                    have hDz : c2 = 10 → D.length = 0 := by omega
                    go_loopw [13, 80] (fun _ i wr => ∃ k : Nat, k ≤ D.length ∧ i = .int .i64 k ∧ ∃ v L, Hid (L = (nats D).take k) ∧ EvSt w2 w.heap.size w2.heap.size (val T) v L wr) (fun _ i _ => D.length - (intOf i).toNat)
                    case atStart => exact ⟨0, Nat.zero_le _, rfl, _, [], (rfl : _ = _), hst2⟩
                    case round =>
                      obtain ⟨k, hk, rfl, v, L, HLe, hst⟩ := hrel
                      obtain ⟨r0, r1, r2, r3, r4, r5, r6, r7, r8⟩ := hst.read
                      obtain ⟨pv, cv, rfl, hcv, hmv, _⟩ := i64s_open hst.2.2.1.sl
                      have hnl : L.length ≤ k := by rw [HLe.out]; exact Nat.le_of_eq (nats_len D k hk)
                      have HST := hid hst
                      clear hst
                      by_cases hlt : k < D.length
                      · exfalso; first | omega | (have := hDz hc10; omega)
                      · obtain rfl : k = D.length := by omega
                        have hdk : decide (D.length < D.length) = false := decide_eq_false (by omega)
                        clear hnl
                        have hLD : nats D = L := by rw [HLe.out, nats_all]
                        have hslD := HST.out.2.2.1.sl
                        rw [hLD] at HL
                        clear HLe
                        generalize hvT : val T = tv at *
                        clear hLD hvT
                        cases hri : rises L p with
                        | false =>
                          have HG := hid (HL.out.trans (if_neg (by rw [hp, hri]; decide)))
                          go_wp2_with (first
                            | (go_at_call 77; refine (rids_c _ L _ _ hslD).mono ?_; rintro e w3 ⟨rfl, hn3⟩; have hs3 := HST.out.nw hn3; obtain ⟨s0, s1, s2, s3, s4, s5, s6, s7, s8⟩ := hs3.read))
                          ((try simp only [Exit.inBlock, Exit.then]); refine bodyPost_ret (results_cell3 rfl _ _ _ _ _ _ _ rfl (zero_heap hs3.2.1 (hnq.trans (hn2.trans hs3.2.2.2.1)) (Nat.le_refl _) _ _).1 Try.underlying38 rfl (by kernel_rfl)) rfl ?_)
                          exact HandsG.no HG.out (zero_heap hs3.2.1 (hnq.trans (hn2.trans hs3.2.2.2.1)) (Nat.le_refl _) _ _).2
                        | true =>
                          have HG := hid (HL.out.trans (if_pos (by rw [hp, hri])))
                          go_wp2_with (first
                            | (go_at_call 77; refine (rids_c _ L _ _ hslD).mono ?_; rintro e w3 ⟨rfl, hn3⟩; have hs3 := HST.out.nw hn3; obtain ⟨s0, s1, s2, s3, s4, s5, s6, s7, s8⟩ := hs3.read))
                          obtain ⟨d0, d2, d3⟩ := hs3.doneO (hnq.trans hn2) (Nat.le_refl _) rfl
                          ((try simp only [Exit.inBlock, Exit.then]); refine bodyPost_ret (results_cell3 rfl _ _ _ _ _ _ _ rfl d0 Try.underlying38 rfl (by kernel_rfl)) rfl ?_)
                          exact HandsG.yes HG.out (by have := hDz; omega) d2 d3
                  · go_wp2
                    have hDz : c2 = 10 → D.length = 0 := by omega
                    go_loopw [13, 80] (fun _ i wr => ∃ k : Nat, k ≤ D.length ∧ i = .int .i64 k ∧ ∃ v L, Hid (L = (nats D).take k) ∧ EvSt w2 w.heap.size w2.heap.size (val T) v L wr) (fun _ i _ => D.length - (intOf i).toNat)
                    case atStart => exact ⟨0, Nat.zero_le _, rfl, _, [], (rfl : _ = _), hst2⟩
                    case round =>
                      obtain ⟨k, hk, rfl, v, L, HLe, hst⟩ := hrel
                      obtain ⟨r0, r1, r2, r3, r4, r5, r6, r7, r8⟩ := hst.read
                      obtain ⟨pv, cv, rfl, hcv, hmv, _⟩ := i64s_open hst.2.2.1.sl
                      have hnl : L.length ≤ k := by rw [HLe.out]; exact Nat.le_of_eq (nats_len D k hk)
                      have HST := hid hst
                      clear hst
                      by_cases hlt : k < D.length
                      · have hdk : decide (k < D.length) = true := decide_eq_true hlt
                        obtain ⟨bx, ox, x, e, hcell, hx, hlx⟩ := u8s_cell (HC10.out.nw HST.out.2.2.2.1) k hlt
                        cases e
                        have HS := hid (nats_step D k x hx.out)
                        go_wp2_with (first
                          | ((at_builtin; refine app1b rfl _ _ _ rfl _ _ _ Try.underlying23 info_i64 rfl (by decide) ((by simp; omega)) (HST.out.2.2.1.nw ((Nw.refl _).alloc _)) rfl (Sl.new wr [_] _ _ (by simp [maxLen])) rfl (by simp [Value.oneCell']) ?_ ?_; rotate_left; (simp only [i64s_length, List.length_cons, List.length_nil]; omega); intro v1 w1 hown1 hm1); obtain ⟨p1, c1, rfl, hc1, hmx1, _⟩ := hown1.sl.open (n := L.length + 1) (by simp [i64s]); have q1 := (HST.out.mid (l1 := L ++ [(x.toNat : Int)]) hm1 hown1 (by simp [i64s])); have q2 := heap_cell q1.1 1; have q3 := heap_frozen q1.1 1; simp at q2)
                          | fail)
                        go_roundw
                        case rel => exact ⟨k + 1, by omega, by go_num, _, _, (by rw [HLe.out, HS.out] : _ = _), q1.2⟩
                        case measure => simp [intOf]; omega
                      · obtain rfl : k = D.length := by omega
                        have hdk : decide (D.length < D.length) = false := decide_eq_false (by omega)
                        clear hnl
                        have hLD : nats D = L := by rw [HLe.out, nats_all]
                        have hslD := HST.out.2.2.1.sl
                        rw [hLD] at HL
                        clear HLe
                        generalize hvT : val T = tv at *
                        clear hLD hvT
                        cases hri : rises L p with
                        | false =>
                          have HG := hid (HL.out.trans (if_neg (by rw [hp, hri]; decide)))
                          go_wp2_with (first
                            | (go_at_call 77; refine (rids_c _ L _ _ hslD).mono ?_; rintro e w3 ⟨rfl, hn3⟩; have hs3 := HST.out.nw hn3; obtain ⟨s0, s1, s2, s3, s4, s5, s6, s7, s8⟩ := hs3.read))
                          ((try simp only [Exit.inBlock, Exit.then]); refine bodyPost_ret (results_cell3 rfl _ _ _ _ _ _ _ rfl (zero_heap hs3.2.1 (hnq.trans (hn2.trans hs3.2.2.2.1)) (Nat.le_refl _) _ _).1 Try.underlying38 rfl (by kernel_rfl)) rfl ?_)
                          exact HandsG.no HG.out (zero_heap hs3.2.1 (hnq.trans (hn2.trans hs3.2.2.2.1)) (Nat.le_refl _) _ _).2
                        | true =>
                          have HG := hid (HL.out.trans (if_pos (by rw [hp, hri])))
                          go_wp2_with (first
                            | (go_at_call 77; refine (rids_c _ L _ _ hslD).mono ?_; rintro e w3 ⟨rfl, hn3⟩; have hs3 := HST.out.nw hn3; obtain ⟨s0, s1, s2, s3, s4, s5, s6, s7, s8⟩ := hs3.read))
                          obtain ⟨d0, d2, d3⟩ := hs3.doneO (hnq.trans hn2) (Nat.le_refl _) rfl
                          ((try simp only [Exit.inBlock, Exit.then]); refine bodyPost_ret (results_cell3 rfl _ _ _ _ _ _ _ rfl d0 Try.underlying38 rfl (by kernel_rfl)) rfl ?_)
                          exact HandsG.yes HG.out (by have := hDz; omega) d2 d3
set_option maxRecDepth 20000 in
set_option maxHeartbeats 3200000 in
theorem rget_high (vb : Value) (b : List UInt8) (p : Int) (w : World) (hb : Bytes w vb b) (hlen : b.length ≤ 1000000000) (hp1 : 64 < p) (hp2 : p ≤ 9223372036854775807) :
    Calls Try.prog 100 #[vb, .int .i64 p] w (HandsGO w (get b p)) := by
  obtain ⟨q, cap, rfl, hcap, hmx, _, hc⟩ := hb.open
  have hp : pr p = 64 := by unfold pr; omega
  by_cases h0 : b.length = 0
  · have HG := hid (get_len0 p h0)
    have hd0 : ((b.length : Int) == 0) = true := by rw [h0]; rfl
    go_enter Try.func100, Try.ntmps100
    go_wp2
    ((try simp only [Exit.inBlock, Exit.then]); refine bodyPost_ret (results_cell3 rfl _ _ _ _ _ _ _ rfl (heap_new _ _) Try.underlying38 rfl (by kernel_rfl)) rfl ?_)
    exact HandsG.no HG.out ((Nw.refl w).alloc _)
  · have hd0 : ((b.length : Int) == 0) = false := beq_eq_false_iff_ne.2 (by omega)
    by_cases h1 : b.length = 1
    · have HG := hid (get_len1 p h1)
      have hd1 : ((b.length : Int) == 1) = true := by rw [h1]; rfl
      go_enter Try.func100, Try.ntmps100
      go_wp2
      ((try simp only [Exit.inBlock, Exit.then]); refine bodyPost_ret (results_cell3 rfl _ _ _ _ _ _ _ rfl (heap_new _ _) Try.underlying38 rfl (by kernel_rfl)) rfl ?_)
      exact HandsG.no HG.out ((Nw.refl w).alloc _)
    · have hd1 : ((b.length : Int) == 1) = false := beq_eq_false_iff_ne.2 (by omega)
      obtain ⟨bb, bo, x0, rfl, hcell0, hx0, hl0⟩ := u8s_cell hc 0 (by omega)
      obtain ⟨_, _, x1, e, hcell1, hx1, hl1⟩ := u8s_cell hc 1 (by omega)
      cases e
      have hb0 : 0 < b.length := by omega
      have hb1 : 1 < b.length := by omega
      simp only [Nat.add_zero] at hcell0
      have hbb : bb < w.heap.size := World.block_lt_of_cell? w _ hcell0
      have hsz : (size b : Int) = 256 * (x0.toNat : Int) + x1.toNat := by unfold size; simp only [List.getD_eq_getElem?_getD, hx0.out, hx1.out, Option.getD_some]; omega
      have hor := or_size x0.toNat x1.toNat x0.toNat_lt x1.toNat_lt
      have hor2 : 256 * (x0.toNat : Int) + x1.toNat = size b := hsz.symm
      rw [← hsz] at hor
      have hsb := size_bd b
      have HF := hid (get_form (b := b) p (by omega))
      have HSH := hid (get_short (b := b) p (by omega))
      have HLO := hid (get_long (b := b) p (by omega))
      have HC := hid hc
      clear hsz hc
      generalize size b = n at *
      by_cases h8 : n < 8
      · have HG := hid (HF.out (Or.inl h8))
        have hd8 : decide ((n : Int) < 8) = true := decide_eq_true (by omega)
        go_enter Try.func100, Try.ntmps100
        go_upto_region 6 with fail
        go_quiet (fail)
        have hnq : Nw w ((w.alloc (.cells #[.int .u64 0, .slice none 0 0] 38)).drewN nq) := ((Nw.refl w).alloc _).drewN2 nq
        have zhq : ((w.alloc (.cells #[.int .u64 0, .slice none 0 0] 38)).drewN nq).heap[w.heap.size]? = some (.cells #[.int .u64 0, .slice none 0 0] 38 (0, 0)) := heap_new w _
        generalize (w.alloc (.cells #[.int .u64 0, .slice none 0 0] 38)).drewN nq = wq at *
        have zq0 := heap_cell zhq 0
        have zq1 := heap_cell zhq 1
        have zq2 := heap_frozen zhq 0
        have zq3 := heap_frozen zhq 1
        simp at zq0 zq1
        go_wp2
        ((try simp only [Exit.inBlock, Exit.then]); refine bodyPost_ret (results_cell3 rfl _ _ _ _ _ _ _ rfl (zero_heap zhq hnq (Nat.le_refl _) _ _).1 Try.underlying38 rfl (by kernel_rfl)) rfl ?_)
        exact HandsG.no HG.out (zero_heap zhq hnq (Nat.le_refl _) _ _).2
      · have hd8 : decide ((n : Int) < 8) = false := decide_eq_false (by omega)
        by_cases h9 : 8 + 64 < (n : Int)
        · have HG := hid (HF.out (Or.inr (by rw [hp]; exact h9)))
          have hd9 : decide (8 + 64 < (n : Int)) = true := decide_eq_true h9
          go_enter Try.func100, Try.ntmps100
          go_upto_region 6 with fail
          go_quiet (fail)
          have hnq : Nw w ((w.alloc (.cells #[.int .u64 0, .slice none 0 0] 38)).drewN nq) := ((Nw.refl w).alloc _).drewN2 nq
          have zhq : ((w.alloc (.cells #[.int .u64 0, .slice none 0 0] 38)).drewN nq).heap[w.heap.size]? = some (.cells #[.int .u64 0, .slice none 0 0] 38 (0, 0)) := heap_new w _
          generalize (w.alloc (.cells #[.int .u64 0, .slice none 0 0] 38)).drewN nq = wq at *
          have zq0 := heap_cell zhq 0
          have zq1 := heap_cell zhq 1
          have zq2 := heap_frozen zhq 0
          have zq3 := heap_frozen zhq 1
          simp at zq0 zq1
          go_wp2
          ((try simp only [Exit.inBlock, Exit.then]); refine bodyPost_ret (results_cell3 rfl _ _ _ _ _ _ _ rfl (zero_heap zhq hnq (Nat.le_refl _) _ _).1 Try.underlying38 rfl (by kernel_rfl)) rfl ?_)
          exact HandsG.no HG.out (zero_heap zhq hnq (Nat.le_refl _) _ _).2
        · have hd9 : decide (8 + 64 < (n : Int)) = false := decide_eq_false h9
          by_cases hl : b.length < n + 6
          · have HG := hid (HSH.out (by rw [hp]; omega) hl)
            have hdl : decide ((b.length : Int) < (n : Int) + 6) = true := decide_eq_true (by omega)
            go_enter Try.func100, Try.ntmps100
            go_upto_region 6 with fail
            go_quiet (fail)
            have hnq : Nw w ((w.alloc (.cells #[.int .u64 0, .slice none 0 0] 38)).drewN nq) := ((Nw.refl w).alloc _).drewN2 nq
            have zhq : ((w.alloc (.cells #[.int .u64 0, .slice none 0 0] 38)).drewN nq).heap[w.heap.size]? = some (.cells #[.int .u64 0, .slice none 0 0] 38 (0, 0)) := heap_new w _
            generalize (w.alloc (.cells #[.int .u64 0, .slice none 0 0] 38)).drewN nq = wq at *
            have zq0 := heap_cell zhq 0
            have zq1 := heap_cell zhq 1
            have zq2 := heap_frozen zhq 0
            have zq3 := heap_frozen zhq 1
            simp at zq0 zq1
            go_wp2
            ((try simp only [Exit.inBlock, Exit.then]); refine bodyPost_ret (results_cell3 rfl _ _ _ _ _ _ _ rfl (zero_heap zhq hnq (Nat.le_refl _) _ _).1 Try.underlying38 rfl (by kernel_rfl)) rfl ?_)
            exact HandsG.no HG.out (zero_heap zhq hnq (Nat.le_refl _) _ _).2
          · have hdl : decide ((b.length : Int) < (n : Int) + 6) = false := decide_eq_false (by omega)
            have hl3 := HLO.out (by rw [hp]; omega) hl
            have hbt : Bytes w (.slice (some ⟨bb, bo, none⟩) (n + 6) cap) (b.take (n + 6)) := Bytes.mk (by rw [u8s_take]; exact HC.out.take _) (by simp; omega) (by simp; omega) hmx (fun h => by cases h)
            have hbl : (b.take (n + 6)).length ≤ 1073741824 := by simp; omega
            have hcn : n + 6 ≤ cap := by omega
            cases hr : right (b.take (n + 6)) with
            | none =>
              rw [hr] at hl3
              have HG := hid hl3
              clear hl3
              go_enter Try.func100, Try.ntmps100
              go_upto_region 6 with fail
              go_quiet (fail)
              have hnq : Nw w ((w.alloc (.cells #[.int .u64 0, .slice none 0 0] 38)).drewN nq) := ((Nw.refl w).alloc _).drewN2 nq
              have zhq : ((w.alloc (.cells #[.int .u64 0, .slice none 0 0] 38)).drewN nq).heap[w.heap.size]? = some (.cells #[.int .u64 0, .slice none 0 0] 38 (0, 0)) := heap_new w _
              generalize (w.alloc (.cells #[.int .u64 0, .slice none 0 0] 38)).drewN nq = wq at *
              have zq0 := heap_cell zhq 0
              have zq1 := heap_cell zhq 1
              have zq2 := heap_frozen zhq 0
              have zq3 := heap_frozen zhq 1
              simp at zq0 zq1
              go_wp2_with (first
                | (go_at_call 74; refine (Sum.rright_c _ (b.take (n + 6)) _ (hbt.nw (by repeat (first | assumption | exact Nw.refl _ | refine Nw.alloc ?_ _ | refine Nw.drew ?_ | refine Nw.drewN2 ?_ _ | (refine Nw.trans ?_ (by assumption))))) hbl).mono ?_; rintro e w2 ⟨v2, rfl, hb2, hn2⟩; rw [hr] at hb2 ⊢; obtain ⟨p2, c2, rfl, _⟩ := hb2.open; have zh := hn2.heap zhq; have z0 := heap_cell zh 0; have z1 := heap_cell zh 1; have z2 := heap_frozen zh 0; have z3 := heap_frozen zh 1; simp at z0 z1))
              ((try simp only [Exit.inBlock, Exit.then]); refine bodyPost_ret (results_cell3 rfl _ _ _ _ _ _ _ rfl (zero_heap zh (hnq.trans hn2) (Nat.le_refl _) _ _).1 Try.underlying38 rfl (by kernel_rfl)) rfl ?_)
              exact HandsG.no HG.out (zero_heap zh (hnq.trans hn2) (Nat.le_refl _) _ _).2
            | some r =>
              rw [hr] at hl3
              dsimp only at hl3
              rw [ids_nats] at hl3
              unfold time at hl3
              have hrl := right_len hr
              have hrn : r.length = n + 2 := by rw [List.length_take] at hrl; omega
              have hTl : ((r.drop 2).take 8).length = 8 := by rw [List.length_take, List.length_drop]; omega
              have hDl : (r.drop 10).length = n - 8 := by rw [List.length_drop]; omega
              obtain ⟨T, hT⟩ : ∃ T, T = (r.drop 2).take 8 := ⟨_, rfl⟩
              obtain ⟨D, hD⟩ : ∃ D, D = r.drop 10 := ⟨_, rfl⟩
              rw [← hT] at hTl hl3
              rw [← hD] at hDl hl3
              have HT := hid hT
              have HD := hid hD
              have HL := hid hl3
              clear hl3 hT hD
              go_enter Try.func100, Try.ntmps100
              go_upto_region 6 with fail
              go_quiet (fail)
              have hnq : Nw w ((w.alloc (.cells #[.int .u64 0, .slice none 0 0] 38)).drewN nq) := ((Nw.refl w).alloc _).drewN2 nq
              have zhq : ((w.alloc (.cells #[.int .u64 0, .slice none 0 0] 38)).drewN nq).heap[w.heap.size]? = some (.cells #[.int .u64 0, .slice none 0 0] 38 (0, 0)) := heap_new w _
              generalize (w.alloc (.cells #[.int .u64 0, .slice none 0 0] 38)).drewN nq = wq at *
              have zq0 := heap_cell zhq 0
              have zq1 := heap_cell zhq 1
              have zq2 := heap_frozen zhq 0
              have zq3 := heap_frozen zhq 1
              simp at zq0 zq1
              go_wp2_with (first
                | (go_at_call 74; refine (Sum.rright_c _ (b.take (n + 6)) _ (hbt.nw (by repeat (first | assumption | exact Nw.refl _ | refine Nw.alloc ?_ _ | refine Nw.drew ?_ | refine Nw.drewN2 ?_ _ | (refine Nw.trans ?_ (by assumption))))) hbl).mono ?_; rintro e w2 ⟨v2, rfl, hb2, hn2⟩; rw [hr] at hb2 ⊢; obtain ⟨p2, c2, rfl, hc2, hm2, _, hcs2⟩ := Bytes.open (bs := r) hb2; obtain ⟨rb, ro, rfl⟩ := hcs2.place (by rw [u8s_length]; omega); have zh := hn2.heap zhq; have z0 := heap_cell zh 0; have z1 := heap_cell zh 1; have z2 := heap_frozen zh 0; have z3 := heap_frozen zh 1; simp at z0 z1; have hr10 : 10 ≤ c2 := (by omega))
                | fail)
              have HC8 := hid (show Cells w2 (some ⟨rb, ro + 2, none⟩) (u8s T) by rw [HT.out]; exact sub8 hcs2)
              have HC10 := hid (show Cells w2 (some ⟨rb, ro + 10, none⟩) (u8s D) by rw [HD.out]; exact sub10 hcs2)
              clear hcs2 hbt hb hb2
              obtain rfl : n = D.length + 8 := by omega
              have hDb : D.length < 65536 := by omega
              clear hDl
              push_cast
              go_loopw [11, 62] (fun _ i wr => ∃ k : Nat, k ≤ 8 ∧ i = .int .i64 k ∧ EvSt w2 w.heap.size w2.heap.size (val (T.take k)) (.slice none 0 0) [] wr) (fun _ i _ => 8 - (intOf i).toNat)
              case atStart => exact ⟨0, by omega, rfl, EvSt.new zh rfl⟩
              case round =>
                obtain ⟨k, hk, rfl, hst⟩ := hrel
                obtain ⟨r0, r1, r2, r3, r4, r5, r6, r7, r8⟩ := hst.read
                have hn8 := hst.2.2.2.1
                have HST := hid hst
                clear hst
                by_cases hlt : k < 8
                · have hdk : decide ((k : Int) < 8) = true := decide_eq_true (by omega)
                  obtain ⟨bx, ox, xb, e, hcell, hx, hlx⟩ := u8s_cell (HC8.out.nw hn8) k (by omega)
                  cases e
                  have HS := hid (val_snoc T k xb hx.out)
                  obtain ⟨v0, v1⟩ := val_lt (T.take k) k (by simp; omega)
                  have hor3 := or_time (val (T.take k)) xb.toNat v0 v1 (by omega) hlx
                  generalize val (T.take k) = A at *
                  rw [Nat.add_assoc] at hcell
                  have e2k : (2 + (k : Int)).toNat = 2 + k := by omega
                  have hrbw : rb < wr.heap.size := World.block_lt_of_cell? wr _ hcell
                  go_upto_region 18 with fail
                  refine wp_region_end rfl (by kernel_rfl) (by kernel_rfl) (by kernel_rfl) (by kernel_rfl) (by kernel_rfl) ?_
                  dsimp only [List.dropLast]
                  iterate 11
                    refine Stairs.is ?_ ?_ ?_
                    rotate_left 1
                    · intro x wR hR hd K hK
                      simp only [Act.put, List.setIfInBounds_toArray, List.set_cons_zero, List.set_cons_succ, Nat.reduceAdd, List.length_nil, List.length_cons, List.nil_append, List.cons_append, Say.ok] at hK ⊢
                      clear hd
                      change Hid _ at hK
                      obtain ⟨hcR, hfR, hzR⟩ := nwc hR
                      first | (refine wanted_yes ?_ ?_; rfl) | (refine wanted_no ?_ ?_; rfl)
                      go_wp2_with (first | fail)
                      all_goals (refine hK.out _ _ ?_ ?_ <;> first | (solve | (repeat (first | assumption | exact Nw.refl _ | refine Nw.alloc ?_ _ | refine Nw.drew ?_ | refine Nw.drewN2 ?_ _ | (refine Nw.trans ?_ (by assumption))))) | exact rfl)
                    try simp only [Act.put, List.setIfInBounds_toArray, List.set_cons_zero, List.set_cons_succ, Nat.reduceAdd, List.length_nil, List.length_cons, List.nil_append, List.cons_append]
                  refine Stairs.nil ?_
                  intro x wR hR hx
                  clear hx
                  obtain ⟨hcR, hfR, hzR⟩ := nwc hR
                  try dsimp only
                  go_wp2
                  go_roundw
                  case rel => exact ⟨k + 1, by omega, by go_num, by rw [HS.out]; exact (HST.out.nw hR).time _⟩
                  case measure => simp [intOf]; omega
                · obtain rfl : k = 8 := by omega
                  rw [show ((8 : Nat) : Int) = 8 from rfl]
                  have hdk : decide ((8 : Int) < 8) = false := rfl
                  have hst2 := HST.out
                  rw [List.take_of_length_le (by omega)] at hst2 r0
                  clear HST
                  by_cases hc10 : c2 = 10
                  · go_wp2
                    have hDz : c2 = 10 → D.length = 0 := by omega
                    go_loopw [13, 80] (fun _ i wr => ∃ k : Nat, k ≤ D.length ∧ i = .int .i64 k ∧ ∃ v L, Hid (L = (nats D).take k) ∧ EvSt w2 w.heap.size w2.heap.size (val T) v L wr) (fun _ i _ => D.length - (intOf i).toNat)
                    case atStart => exact ⟨0, Nat.zero_le _, rfl, _, [], (rfl : _ = _), hst2⟩
                    case round =>
                      obtain ⟨k, hk, rfl, v, L, HLe, hst⟩ := hrel
                      obtain ⟨r0, r1, r2, r3, r4, r5, r6, r7, r8⟩ := hst.read
                      obtain ⟨pv, cv, rfl, hcv, hmv, _⟩ := i64s_open hst.2.2.1.sl
                      have hnl : L.length ≤ k := by rw [HLe.out]; exact Nat.le_of_eq (nats_len D k hk)
                      have HST := hid hst
                      clear hst
                      by_cases hlt : k < D.length
                      · exfalso; first | omega | (have := hDz hc10; omega)
                      · obtain rfl : k = D.length := by omega
                        have hdk : decide (D.length < D.length) = false := decide_eq_false (by omega)
                        clear hnl
                        have hLD : nats D = L := by rw [HLe.out, nats_all]
                        have hslD := HST.out.2.2.1.sl
                        rw [hLD] at HL
                        clear HLe
                        generalize hvT : val T = tv at *
                        clear hLD hvT
                        cases hri : rises L 64 with
                        | false =>
                          have HG := hid (HL.out.trans (if_neg (by rw [hp, hri]; decide)))
                          go_wp2_with (first
                            | (go_at_call 77; refine (rids_c _ L _ _ hslD).mono ?_; rintro e w3 ⟨rfl, hn3⟩; have hs3 := HST.out.nw hn3; obtain ⟨s0, s1, s2, s3, s4, s5, s6, s7, s8⟩ := hs3.read))
                          ((try simp only [Exit.inBlock, Exit.then]); refine bodyPost_ret (results_cell3 rfl _ _ _ _ _ _ _ rfl (zero_heap hs3.2.1 (hnq.trans (hn2.trans hs3.2.2.2.1)) (Nat.le_refl _) _ _).1 Try.underlying38 rfl (by kernel_rfl)) rfl ?_)
                          exact HandsG.no HG.out (zero_heap hs3.2.1 (hnq.trans (hn2.trans hs3.2.2.2.1)) (Nat.le_refl _) _ _).2
                        | true =>
                          have HG := hid (HL.out.trans (if_pos (by rw [hp, hri])))
                          go_wp2_with (first
                            | (go_at_call 77; refine (rids_c _ L _ _ hslD).mono ?_; rintro e w3 ⟨rfl, hn3⟩; have hs3 := HST.out.nw hn3; obtain ⟨s0, s1, s2, s3, s4, s5, s6, s7, s8⟩ := hs3.read))
                          obtain ⟨d0, d2, d3⟩ := hs3.doneO (hnq.trans hn2) (Nat.le_refl _) rfl
                          ((try simp only [Exit.inBlock, Exit.then]); refine bodyPost_ret (results_cell3 rfl _ _ _ _ _ _ _ rfl d0 Try.underlying38 rfl (by kernel_rfl)) rfl ?_)
                          exact HandsG.yes HG.out (by have := hDz; omega) d2 d3
                  · go_wp2
                    have hDz : c2 = 10 → D.length = 0 := by omega
                    go_loopw [13, 80] (fun _ i wr => ∃ k : Nat, k ≤ D.length ∧ i = .int .i64 k ∧ ∃ v L, Hid (L = (nats D).take k) ∧ EvSt w2 w.heap.size w2.heap.size (val T) v L wr) (fun _ i _ => D.length - (intOf i).toNat)
                    case atStart => exact ⟨0, Nat.zero_le _, rfl, _, [], (rfl : _ = _), hst2⟩
                    case round =>
                      obtain ⟨k, hk, rfl, v, L, HLe, hst⟩ := hrel
                      obtain ⟨r0, r1, r2, r3, r4, r5, r6, r7, r8⟩ := hst.read
                      obtain ⟨pv, cv, rfl, hcv, hmv, _⟩ := i64s_open hst.2.2.1.sl
                      have hnl : L.length ≤ k := by rw [HLe.out]; exact Nat.le_of_eq (nats_len D k hk)
                      have HST := hid hst
                      clear hst
                      by_cases hlt : k < D.length
                      · have hdk : decide (k < D.length) = true := decide_eq_true hlt
                        obtain ⟨bx, ox, x, e, hcell, hx, hlx⟩ := u8s_cell (HC10.out.nw HST.out.2.2.2.1) k hlt
                        cases e
                        have HS := hid (nats_step D k x hx.out)
                        go_wp2_with (first
                          | ((at_builtin; refine app1b rfl _ _ _ rfl _ _ _ Try.underlying23 info_i64 rfl (by decide) ((by simp; omega)) (HST.out.2.2.1.nw ((Nw.refl _).alloc _)) rfl (Sl.new wr [_] _ _ (by simp [maxLen])) rfl (by simp [Value.oneCell']) ?_ ?_; rotate_left; (simp only [i64s_length, List.length_cons, List.length_nil]; omega); intro v1 w1 hown1 hm1); obtain ⟨p1, c1, rfl, hc1, hmx1, _⟩ := hown1.sl.open (n := L.length + 1) (by simp [i64s]); have q1 := (HST.out.mid (l1 := L ++ [(x.toNat : Int)]) hm1 hown1 (by simp [i64s])); have q2 := heap_cell q1.1 1; have q3 := heap_frozen q1.1 1; simp at q2)
                          | fail)
                        go_roundw
                        case rel => exact ⟨k + 1, by omega, by go_num, _, _, (by rw [HLe.out, HS.out] : _ = _), q1.2⟩
                        case measure => simp [intOf]; omega
                      · obtain rfl : k = D.length := by omega
                        have hdk : decide (D.length < D.length) = false := decide_eq_false (by omega)
                        clear hnl
                        have hLD : nats D = L := by rw [HLe.out, nats_all]
                        have hslD := HST.out.2.2.1.sl
                        rw [hLD] at HL
                        clear HLe
                        generalize hvT : val T = tv at *
                        clear hLD hvT
                        cases hri : rises L 64 with
                        | false =>
                          have HG := hid (HL.out.trans (if_neg (by rw [hp, hri]; decide)))
                          go_wp2_with (first
                            | (go_at_call 77; refine (rids_c _ L _ _ hslD).mono ?_; rintro e w3 ⟨rfl, hn3⟩; have hs3 := HST.out.nw hn3; obtain ⟨s0, s1, s2, s3, s4, s5, s6, s7, s8⟩ := hs3.read))
                          ((try simp only [Exit.inBlock, Exit.then]); refine bodyPost_ret (results_cell3 rfl _ _ _ _ _ _ _ rfl (zero_heap hs3.2.1 (hnq.trans (hn2.trans hs3.2.2.2.1)) (Nat.le_refl _) _ _).1 Try.underlying38 rfl (by kernel_rfl)) rfl ?_)
                          exact HandsG.no HG.out (zero_heap hs3.2.1 (hnq.trans (hn2.trans hs3.2.2.2.1)) (Nat.le_refl _) _ _).2
                        | true =>
                          have HG := hid (HL.out.trans (if_pos (by rw [hp, hri])))
                          go_wp2_with (first
                            | (go_at_call 77; refine (rids_c _ L _ _ hslD).mono ?_; rintro e w3 ⟨rfl, hn3⟩; have hs3 := HST.out.nw hn3; obtain ⟨s0, s1, s2, s3, s4, s5, s6, s7, s8⟩ := hs3.read))
                          obtain ⟨d0, d2, d3⟩ := hs3.doneO (hnq.trans hn2) (Nat.le_refl _) rfl
                          ((try simp only [Exit.inBlock, Exit.then]); refine bodyPost_ret (results_cell3 rfl _ _ _ _ _ _ _ rfl d0 Try.underlying38 rfl (by kernel_rfl)) rfl ?_)
                          exact HandsG.yes HG.out (by have := hDz; omega) d2 d3
theorem rget_o (vb : Value) (b : List UInt8) (p : Int) (w : World) (hb : Bytes w vb b) (hlen : b.length ≤ 1000000000) (hp1 : -9223372036854775808 ≤ p) (hp2 : p ≤ 9223372036854775807) :
    Calls Try.prog 100 #[vb, .int .i64 p] w (HandsGO w (get b p)) := by
  by_cases h0 : p < 0
  · exact rget_low vb b p w hb hlen hp1 h0
  · by_cases h1 : p ≤ 64
    · exact rget_mid vb b p w hb hlen (by omega) h1
    · exact rget_high vb b p w hb hlen (by omega) hp2
theorem rget_c (vb : Value) (b : List UInt8) (p : Int) (w : World) (hb : Bytes w vb b) (hlen : b.length ≤ 1000000000) (hp1 : -9223372036854775808 ≤ p) (hp2 : p ≤ 9223372036854775807) :
    Calls Try.prog 100 #[vb, .int .i64 p] w (HandsG w (get b p)) :=
  (rget_o vb b p w hb hlen hp1 hp2).mono fun e w' ⟨v, h1, h2, h3⟩ => ⟨v, h1, h2.sl, h3⟩

end Rec
end Go.Proofs.Ytdihoedehmfgfaa
