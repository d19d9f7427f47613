/- LexGaps walked. No condition but lengths. -/
import Derived.Test.YtfbokhodcgpppaaLexQ
namespace Go.Proofs.Ytfbokhodcgpppaa
open Go.ChangeShapes Go.WideShapes Go.ChangeAt Go.RowKit
namespace Lx
theorem str_one {A B t : List UInt8} (h : B = A ++ (t ++ [32])) : (⟨A.toArray⟩ : ByteArray) ++ (⟨t.toArray⟩ ++ ⟨#[32]⟩) = ⟨B.toArray⟩ := by
  rw [show (⟨#[32]⟩ : ByteArray) = ⟨[32].toArray⟩ from rfl, bapp, bapp, h]
theorem str_wide {A B t g : List UInt8} (h : B = A ++ (g ++ (t ++ g))) : (⟨A.toArray⟩ : ByteArray) ++ (⟨g.toArray⟩ ++ ⟨t.toArray⟩ ++ ⟨g.toArray⟩) = ⟨B.toArray⟩ := by
  rw [bapp, bapp, bapp, h, List.append_assoc]
theorem textOf_take (ps : List Pc) (k : Nat) : (textOf (ps.take k)).length ≤ (textOf ps).length := by
  have : textOf ps = textOf (ps.take k) ++ textOf (ps.drop k) := by
    conv => lhs; rw [← List.take_append_drop k ps]
    unfold textOf
    rw [List.flatMap_append]
  rw [this, List.length_append]
  omega
theorem one_le (ns : List UInt8) (k : Nat) : (textOf ((ones ns).take k)).length ≤ (textOf (ones ns)).length := textOf_take _ _
theorem wide_le (ns gs : List UInt8) (k : Nat) : (textOf ((wides ns gs).take k)).length ≤ (textOf (wides ns gs)).length := textOf_take _ _
set_option maxRecDepth 20000 in
set_option maxHeartbeats 8000000 in
theorem gaps_walk (u v : Value) (ns gs : List UInt8) (w : World) (hu : Bytes w u ns) (hv : Bytes w v gs) : Calls Try.prog 3 #[u, v] w fun e w' => e = .returned (.bool true) ∧ Nw w w' := by
  obtain ⟨p, cap, rfl, hcap, hmx, _, hc⟩ := hu.open
  obtain ⟨q, cap2, rfl, hcap2, hmx2, _, hc2⟩ := hv.open
  have HC := hid hc
  have HC2 := hid hc2
  clear hc hc2 hu hv
  by_cases hbig : 60 < ns.length
  · have hd : decide ((60 : Int) < ns.length) = true := decide_eq_true (by omega)
    go_enter Try.func3, Try.ntmps3
    go_wp2_with (first
      | (go_at_call 13; refine (awake_c _).mono ?_; rintro e w4 ⟨rfl, hn4⟩)
      | fail)
    go_ret
    exact ⟨rfl, (by repeat (first | assumption | exact Nw.refl _ | refine Nw.alloc ?_ _ | refine Nw.drew ?_ | refine Nw.drewN2 ?_ _ | (refine Nw.trans ?_ (by assumption))))⟩
  · have hd : decide ((60 : Int) < ns.length) = false := decide_eq_false (by omega)
    unfold maxLen at hmx hmx2
    go_enter Try.func3, Try.ntmps3
    go_wp2
    go_loopw [5, 6, 7, 8, 9, 23] (fun o1 o2 _ _ _ i wr => ∃ k : Nat, k ≤ ns.length ∧ i = .int .i64 k ∧ Hid (o1 = .string ⟨(textOf ((ones ns).take k)).toArray⟩) ∧ Hid (o2 = .string ⟨(textOf ((wides ns gs).take k)).toArray⟩) ∧ Nw w wr) (fun _ _ _ _ _ i _ => ns.length - (intOf i).toNat)
    case atStart => exact ⟨0, Nat.zero_le _, rfl, hid rfl, hid rfl, Nw.refl _⟩
    case round =>
      obtain ⟨k, hk, rfl, ho1, ho2, hn⟩ := hrel
      by_cases hlt : k < ns.length
      · have hdk : decide (k < ns.length) = true := decide_eq_true hlt
        obtain ⟨b1, off1, x, rfl, hcell, hx0, hx256⟩ := u8s_cell (HC.out.nw hn) k hlt
        have hx := hx0.out
        have HS1 := hid (ones_step ns k x hx)
        have HS2 := hid (wides_step ns gs k x hx)
        have HG := hid (show gap gs k = match gs[k]? with | none => [32] | some y => blanks.getD (y.toNat % 5) [] from rfl)
        clear hx hx0
        have ht5 := (tokS_good x).2
        have hA1 : (textOf ((ones ns).take k)).length ≤ 5000 := by
          have h1 := one_le ns k
          have h2 := ones_le ns
          omega
        have hA2 : (textOf ((wides ns gs).take k)).length ≤ 5000 := by
          have h1 := wide_le ns gs k
          have h2 := wides_le ns gs
          omega
        have hg3 := (gap_ok gs k).2.2
        have HW := hid (fun w => word_c x w)
        generalize tokS x = t at *
        obtain rfl := ho1.out
        obtain rfl := ho2.out
        generalize textOf ((ones ns).take k) = A1 at *
        generalize textOf ((wides ns gs).take k) = A2 at *
        by_cases hg : k < gs.length
        · have hdg : decide (k < gs.length) = true := decide_eq_true hg
          obtain ⟨b2, off2, y, rfl, hcell2, hy0, hy256⟩ := u8s_cell (HC2.out.nw hn) k hg
          have hy := hy0.out
          rw [hy] at HG
          clear hy hy0
          dsimp only at HG
          obtain ⟨m, hm⟩ : ∃ m, m = y.toNat % 5 := ⟨_, rfl⟩
          have hm5 : m < 5 := by omega
          have em : (y.toNat : Int) % 5 = m := by omega
          have hy255 : y.toNat ≤ 255 := by have := y.toNat_lt; omega
          have hdm : decide (m < 5) = true := decide_eq_true hm5
          rw [← hm] at HG
          have hcb := vss_new wr blanks 9 m hm5
          have hlb := lt_new wr (.cells (vss blanks).toArray 9)
          rw [← HG.out] at hcb
          clear hm HG
          generalize gap gs k = g at *
          have hcb2 : (wr.alloc (.cells #[.string ⟨#[32]⟩, .string ⟨#[10]⟩, .string ⟨#[32, 32]⟩, .string ⟨#[32, 10, 32]⟩, .string ⟨#[10, 10]⟩] 9)).cell? ⟨wr.heap.size, m, none⟩ = some (.string ⟨g.toArray⟩) := hcb
          have hce2 : (wr.alloc (.cells #[.string ⟨#[32]⟩, .string ⟨#[10]⟩, .string ⟨#[32, 32]⟩, .string ⟨#[32, 10, 32]⟩, .string ⟨#[10, 10]⟩] 9)).cell? ⟨b2, off2 + k, none⟩ = some (.int .u8 (y.toNat : Int)) := ((Nw.refl wr).alloc _).cell hcell2
          clear hcb
          go_upto_region 10 with fail
          clear hcb2 hce2 em
          have q1 : ¬ 9223372036854775807 < t.length + 1 := by omega
          have q2 : ¬ 9223372036854775807 < A1.length + (t.length + 1) := by omega
          have q3 : ¬ 9223372036854775807 < g.length + t.length := by omega
          have q4 : ¬ 9223372036854775807 < g.length + t.length + g.length := by omega
          have q5 : ¬ 9223372036854775807 < A2.length + (g.length + t.length + g.length) := by omega
          go_wp2_with (first
            | (go_at_call 14; refine (HW.out _).mono ?_; rintro e w1 ⟨rfl, hn1⟩)
            | fail)
          go_roundw
          case rel => exact ⟨k + 1, by omega, by go_num, hid (by rw [str_one HS1.out]), hid (congrArg Value.string (str_wide HS2.out)), (by repeat (first | assumption | exact Nw.refl _ | refine Nw.alloc ?_ _ | refine Nw.drew ?_ | refine Nw.drewN2 ?_ _ | (refine Nw.trans ?_ (by assumption))))⟩
          case measure => simp [intOf]; omega
        · have hdg : decide (k < gs.length) = false := decide_eq_false hg
          rw [List.getElem?_eq_none (by omega)] at HG
          dsimp only at HG
          generalize gap gs k = g at *
          obtain rfl := HG.out
          have q1 : ¬ 9223372036854775807 < t.length + 1 := by omega
          have q2 : ¬ 9223372036854775807 < A1.length + (t.length + 1) := by omega
          have q3 : ¬ 9223372036854775807 < 1 + t.length := by omega
          have q4 : ¬ 9223372036854775807 < 1 + t.length + 1 := by omega
          have q5 : ¬ 9223372036854775807 < A2.length + (1 + t.length + 1) := by omega
          go_wp2_with (first
            | (go_at_call 14; refine (HW.out _).mono ?_; rintro e w1 ⟨rfl, hn1⟩)
            | fail)
          go_roundw
          case rel => exact ⟨k + 1, by omega, by go_num, hid (by rw [str_one HS1.out]), hid (congrArg Value.string (str_wide HS2.out)), (by repeat (first | assumption | exact Nw.refl _ | refine Nw.alloc ?_ _ | refine Nw.drew ?_ | refine Nw.drewN2 ?_ _ | (refine Nw.trans ?_ (by assumption))))⟩
          case measure => simp [intOf]; omega
      · obtain rfl : k = ns.length := by omega
        have hdk : decide (ns.length < ns.length) = false := decide_eq_false (by omega)
        rw [List.take_of_length_le (by rw [ones_len]; exact Nat.le_refl _)] at ho1
        rw [List.take_of_length_le (by rw [wides_len]; exact Nat.le_refl _)] at ho2
        have hO := ones_le ns
        have hW := wides_le ns gs
        have hO2 : (textOf (ones ns)).length ≤ 2000 := by omega
        have hW2 : (textOf (wides ns gs)).length ≤ 2000 := by omega
        have h1 := fun w => lex_c (textOf (ones ns)) w (Nat.le_trans hO2 (by decide))
        have h2 := fun w => lex_c (textOf (wides ns gs)) w (Nat.le_trans hW2 (by decide))
        rw [lex_pieces _ (ones_ok ns) hO2] at h1
        rw [lex_pieces _ (wides_ok ns gs) hW2] at h2
        have hL : (toksOf 0 (ones ns) ++ [(⟨0, [], 0, (textOf (ones ns)).length⟩ : Tk)]).length = ns.length + 1 := by rw [List.length_append, toksOf_len, ones_len]; rfl
        have hM : (toksOf 0 (wides ns gs) ++ [(⟨0, [], 0, (textOf (wides ns gs)).length⟩ : Tk)]).length = ns.length + 1 := by rw [List.length_append, toksOf_len, wides_len]; rfl
        have HAT := hid (gaps_at ns gs)
        generalize toksOf 0 (ones ns) ++ [(⟨0, [], 0, (textOf (ones ns)).length⟩ : Tk)] = L at *
        generalize toksOf 0 (wides ns gs) ++ [(⟨0, [], 0, (textOf (wides ns gs)).length⟩ : Tk)] = M at *
        generalize textOf (ones ns) = O at *
        generalize textOf (wides ns gs) = W at *
        have H1 := hid h1
        have H2 := hid h2
        have HL := hid hL
        have HM := hid hM
        obtain rfl := ho1.out
        obtain rfl := ho2.out
        clear h1 h2 hL hM hO hW hlt
        go_upto_region 14 with (first
          | (go_at_call 15; refine (H1.out _).mono ?_; rintro e w1 ⟨v1, rfl, hown1, hn1⟩; obtain ⟨g, cap1, rfl, hcap1, hmx1, hc1⟩ := ts_open (TS.own hown1) (by rw [HL.out]; omega); clear hown1; dsimp only at hcap1 hc1 ⊢; rw [HL.out] at hcap1 ⊢)
          | fail)
        have HC3 := hid hc1
        clear hc1
        go_upto_region 17 with (first
          | (go_at_call 15; refine (H2.out _).mono ?_; rintro e w2 ⟨v2, rfl, hown2, hn2⟩; obtain ⟨g2, cap3, rfl, hcap3, hmx3, hc3⟩ := ts_open (TS.own hown2) (by rw [HM.out]; omega); clear hown2; dsimp only at hcap3 hc3 ⊢; rw [HM.out] at hcap3 ⊢)
          | fail)
        have HC4 := hid hc3
        have hnw2 : Nw w w2 := hn.trans (hn1.trans hn2)
        unfold maxLen at hmx1 hmx3
        clear hc3 ho1 ho2 hk hdk
        go_wp2
        go_loopw [16, 90] (fun _ i wq => ∃ k : Nat, k ≤ ns.length + 1 ∧ i = .int .i64 k ∧ Nw w2 wq) (fun _ i _ => ns.length + 1 - (intOf i).toNat)
        case atStart => exact ⟨0, Nat.zero_le _, rfl, Nw.refl _⟩
        case round =>
          obtain ⟨k, hk, rfl, hnq⟩ := hrel
          have hw12 := hn2.trans hnq
          by_cases hlt : k < ns.length + 1
          · have hdk : decide ((k : Int) < (ns.length : Int) + 1) = true := decide_eq_true (by omega)
            obtain ⟨K, T, N, a, b, hLk, hMk, hab, haO, hin, hend⟩ := HAT.out k (by omega)
            have a0 := hw12.cell (v := .int .i64 K) ((HC3.out k _ hLk 0 (by decide)).trans rfl)
            have a1 := hw12.cell (v := .string ⟨T.toArray⟩) ((HC3.out k _ hLk 1 (by decide)).trans rfl)
            have a2 := hw12.cell (v := .int .i64 N) ((HC3.out k _ hLk 2 (by decide)).trans rfl)
            have a3 := hw12.cell (v := .int .i64 (a : Int)) ((HC3.out k _ hLk 3 (by decide)).trans rfl)
            have b0 := hnq.cell (v := .int .i64 K) ((HC4.out k _ hMk 0 (by decide)).trans rfl)
            have b1 := hnq.cell (v := .string ⟨T.toArray⟩) ((HC4.out k _ hMk 1 (by decide)).trans rfl)
            have b2 := hnq.cell (v := .int .i64 N) ((HC4.out k _ hMk 2 (by decide)).trans rfl)
            have b3 := hnq.cell (v := .int .i64 (b : Int)) ((HC4.out k _ hMk 3 (by decide)).trans rfl)
            simp only [Nat.add_zero] at a0 b0
            have hg := World.block_lt_of_cell? wr _ a0
            have hg2 := World.block_lt_of_cell? wr _ b0
            simp only at hg hg2
            have hda : decide ((O.length : Int) < (a : Int)) = false := decide_eq_false (by omega)
            have hdb : decide ((b : Int) < (a : Int)) = false := decide_eq_false (by omega)
            have hda2 : decide (O.length < a) = false := decide_eq_false (by omega)
            have hdb2 : decide (b < a) = false := decide_eq_false (by omega)
            have HIN := hid hin
            have HEND := hid hend
            clear hLk hMk hin hend
            go_upto_region 20 with fail
            simp only [List.append_eq, List.cons_append, List.nil_append]
            go_quiet (fail)
            go_upto_region 22 with fail
            have hnz : Nw wr (wr.drewN nq) := (by repeat (first | assumption | exact Nw.refl _ | refine Nw.alloc ?_ _ | refine Nw.drew ?_ | refine Nw.drewN2 ?_ _ | (refine Nw.trans ?_ (by assumption))))
            have z0 := hnz.cell a0
            have z3 := hnz.cell a3
            have hgz := World.block_lt_of_cell? (wr.drewN nq) _ z0
            simp only at hgz
            have hwz : Nw w (wr.drewN nq) := hnw2.trans (hnq.trans hnz)
            have hwz2 : Nw w2 (wr.drewN nq) := hnq.trans hnz
            generalize wr.drewN nq = wz at *
            clear a0 a1 a2 a3 b0 b1 b2 b3 hda hda2 hdb hdb2 hg hg2
            by_cases hkn : k < ns.length
            · have hdn : decide (k < ns.length) = true := decide_eq_true hkn
              obtain ⟨b1, off1, x, rfl, hcell, hx0, hx256⟩ := u8s_cell (HC.out.nw hwz) k hkn
              obtain ⟨hK, hcut, hle⟩ := HIN.out x hx0.out
              have hK0 : (K == 0) = false := beq_eq_false_iff_ne.2 hK
              have hcs := cut_str O a (a + (tokS x).length)
              rw [hcut] at hcs
              have HW := hid (fun w => word_c x w)
              clear hcut HIN HEND hx0 hK
              have hgb := World.block_lt_of_cell? wz _ hcell
              simp only at hgb
              generalize tokS x = t at *
              refine wp_region_stairs (by kernel_rfl) (by kernel_rfl) (by kernel_rfl) ?_
              iterate 30
                refine Stairs.is ?_ ?_ ?_
                rotate_left 1
                · intro x wR hR hd K hK
                  simp only [Act.put, List.setIfInBounds_toArray, List.set_cons_zero, List.set_cons_succ, Nat.reduceAdd, List.length_nil, List.length_cons, List.nil_append, List.cons_append, Say.ok] at hK ⊢
                  clear hd
                  change Hid _ at hK
                  obtain ⟨hcR, hfR, hzR⟩ := nwc hR
                  first | (refine wanted_yes ?_ ?_; rfl) | (refine wanted_no ?_ ?_; rfl)
                  go_wp2_with (first | (go_at_call 14; refine (HW.out _).mono ?_; rintro e w5 ⟨rfl, hn5⟩))
                  all_goals (refine hK.out _ _ ?_ ?_ <;> first | (solve | (repeat (first | assumption | exact Nw.refl _ | refine Nw.alloc ?_ _ | refine Nw.drew ?_ | refine Nw.drewN2 ?_ _ | (refine Nw.trans ?_ (by assumption))))) | exact rfl | exact congrArg Value.string hcs)
                try simp only [Act.put, List.setIfInBounds_toArray, List.set_cons_zero, List.set_cons_succ, Nat.reduceAdd, List.length_nil, List.length_cons, List.nil_append, List.cons_append]
              iterate 1
                refine Stairs.is (Value.string ⟨t.toArray⟩) ?_ ?_
                · intro x wR hR hd K hK
                  simp only [Act.put, List.setIfInBounds_toArray, List.set_cons_zero, List.set_cons_succ, Nat.reduceAdd, List.length_nil, List.length_cons, List.nil_append, List.cons_append, Say.ok] at hK ⊢
                  clear hd
                  change Hid _ at hK
                  obtain ⟨hcR, hfR, hzR⟩ := nwc hR
                  first | (refine wanted_yes ?_ ?_; rfl) | (refine wanted_no ?_ ?_; rfl)
                  go_wp2_with (first | (go_at_call 14; refine (HW.out _).mono ?_; rintro e w5 ⟨rfl, hn5⟩))
                  all_goals (refine hK.out _ _ ?_ ?_ <;> first | (solve | (repeat (first | assumption | exact Nw.refl _ | refine Nw.alloc ?_ _ | refine Nw.drew ?_ | refine Nw.drewN2 ?_ _ | (refine Nw.trans ?_ (by assumption))))) | exact rfl | exact congrArg Value.string hcs)
                try simp only [Act.put, List.setIfInBounds_toArray, List.set_cons_zero, List.set_cons_succ, Nat.reduceAdd, List.length_nil, List.length_cons, List.nil_append, List.cons_append]
              iterate 8
                refine Stairs.is ?_ ?_ ?_
                rotate_left 1
                · intro x wR hR hd K hK
                  simp only [Act.put, List.setIfInBounds_toArray, List.set_cons_zero, List.set_cons_succ, Nat.reduceAdd, List.length_nil, List.length_cons, List.nil_append, List.cons_append, Say.ok] at hK ⊢
                  clear hd
                  change Hid _ at hK
                  obtain ⟨hcR, hfR, hzR⟩ := nwc hR
                  first | (refine wanted_yes ?_ ?_; rfl) | (refine wanted_no ?_ ?_; rfl)
                  go_wp2_with (first | (go_at_call 14; refine (HW.out _).mono ?_; rintro e w5 ⟨rfl, hn5⟩))
                  all_goals (refine hK.out _ _ ?_ ?_ <;> first | (solve | (repeat (first | assumption | exact Nw.refl _ | refine Nw.alloc ?_ _ | refine Nw.drew ?_ | refine Nw.drewN2 ?_ _ | (refine Nw.trans ?_ (by assumption))))) | exact rfl | exact congrArg Value.string hcs)
                try simp only [Act.put, List.setIfInBounds_toArray, List.set_cons_zero, List.set_cons_succ, Nat.reduceAdd, List.length_nil, List.length_cons, List.nil_append, List.cons_append]
              refine Stairs.nil ?_
              intro x wR hR hx
              clear hx
              obtain ⟨hcR, hfR, hzR⟩ := nwc hR
              go_wp2
              go_roundw
              case rel => exact ⟨k + 1, by omega, by go_num, hwz2.trans hR⟩
              case measure => simp [intOf]; omega
            · have hdn : decide (k < ns.length) = false := decide_eq_false hkn
              refine wp_region_stairs (by kernel_rfl) (by kernel_rfl) (by kernel_rfl) ?_
              iterate 39
                refine Stairs.is ?_ ?_ ?_
                rotate_left 1
                · intro x wR hR hd K hK
                  simp only [Act.put, List.setIfInBounds_toArray, List.set_cons_zero, List.set_cons_succ, Nat.reduceAdd, List.length_nil, List.length_cons, List.nil_append, List.cons_append, Say.ok] at hK ⊢
                  clear hd
                  change Hid _ at hK
                  obtain ⟨hcR, hfR, hzR⟩ := nwc hR
                  first | (refine wanted_yes ?_ ?_; rfl) | (refine wanted_no ?_ ?_; rfl)
                  go_wp2_with (first | fail)
                  all_goals (refine hK.out _ _ ?_ ?_ <;> first | (solve | (repeat (first | assumption | exact Nw.refl _ | refine Nw.alloc ?_ _ | refine Nw.drew ?_ | refine Nw.drewN2 ?_ _ | (refine Nw.trans ?_ (by assumption))))) | exact rfl)
                try simp only [Act.put, List.setIfInBounds_toArray, List.set_cons_zero, List.set_cons_succ, Nat.reduceAdd, List.length_nil, List.length_cons, List.nil_append, List.cons_append]
              refine Stairs.nil ?_
              intro x wR hR hx
              clear hx
              obtain ⟨hcR, hfR, hzR⟩ := nwc hR
              go_wp2
              go_roundw
              case rel => exact ⟨k + 1, by omega, by go_num, hwz2.trans hR⟩
              case measure => simp [intOf]; omega
          · obtain rfl : k = ns.length + 1 := by omega
            have hdk : decide (((ns.length + 1 : Nat) : Int) < (ns.length : Int) + 1) = false := decide_eq_false (by omega)
            obtain ⟨K, T, N, a, b, hLk, hMk, hab, haO, hin, hend⟩ := HAT.out ns.length (Nat.le_refl _)
            obtain ⟨rfl, rfl⟩ := hend rfl
            have a0 := hw12.cell (v := .int .i64 0) ((HC3.out ns.length _ hLk 0 (by decide)).trans rfl)
            have a3 := hw12.cell (v := .int .i64 (O.length : Int)) ((HC3.out ns.length _ hLk 3 (by decide)).trans rfl)
            simp only [Nat.add_zero] at a0
            have hg := World.block_lt_of_cell? wr _ a0
            simp only at hg
            clear hLk hMk hin hend
            go_wp2_with (first
              | (go_at_call 13; refine (awake_c _).mono ?_; rintro e w5 ⟨rfl, hn5⟩)
              | fail)
            go_ret
            exact ⟨rfl, (hnw2.trans hnq).trans (by repeat (first | assumption | exact Nw.refl _ | refine Nw.alloc ?_ _ | refine Nw.drew ?_ | refine Nw.drewN2 ?_ _ | (refine Nw.trans ?_ (by assumption))))⟩
end Lx
end Go.Proofs.Ytfbokhodcgpppaa
