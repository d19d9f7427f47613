/- ScanSpoilt walked: it returns true. No condition but lengths. -/
import Derived.Test.YtdihoedehmfgfaaScanH
import Derived.Test.YtdihoedehmfgfaaSpoil
set_option linter.unusedSimpArgs false
set_option linter.unusedVariables false
namespace Go.Proofs.Ytdihoedehmfgfaa
open Go.ChangeShapes Go.WideShapes Go.ChangeAt Go.RowKit
namespace Sc
open Go.Proofs.Ytdihoedehmfgfaa.Sum (Hands8)
open Go.Proofs.Ytdihoedehmfgfaa.Tr (T Es tm ids Evs EC Small makeP make_may make_len make_small make_c3 u16s u16s_length pqr)
open Go.Proofs.Ytdihoedehmfgfaa.Lg (encP rencode_c spoil_c spoilP spoil_len make_tb make_enc)
set_option maxRecDepth 20000 in
set_option maxHeartbeats 1600000 in
theorem spoilt_walk (start : Int) (h0 : 0 ≤ start) (h64 : start < 18446744073709551616) (v1 vm vs : Value) (ns : List Nat) (at_ cut : Nat) (x : UInt8) (more : List UInt8) (sc : List Int) (f q : Nat) (w : World) (hv1 : Sl w v1 (u16s ns)) (hns : ∀ n ∈ ns, n ≤ 65535) (hat : at_ ≤ 65535) (hcu : cut ≤ 65535) (hm : Bytes w vm more) (hlm : more.length ≤ 100000000)
    (hs : Sl w vs (i64s sc)) (hls : sc.length ≤ 1000000000) (hx : ∀ x ∈ sc, -9223372036854775808 ≤ x ∧ x ≤ 9223372036854775807) (hf : f ≤ 65535) (hq : q ≤ 65535) :
    Calls Try.prog 4 #[.int .u64 start, v1, .int .u16 (at_ : Int), .int .u16 (cut : Int), .int .u8 (x.toNat : Int), vm, vs, .int .u16 (f : Int), .int .u16 (q : Int)] w fun e w' => e = .returned (.bool true) ∧ Nw w w' := by
  have HM1 := hid (fun w' (h : Nw w w') => make_c3 start h0 h64 v1 ns w' (hv1.nw h) hns)
  have HEE := hid (fun (x y : Value) w' (h1 : Sl w' x (Lx.strs pqr)) (h2 : Evs w' y (makeP start ns).evs) => rencode_c x y (makeP start ns) w' h1 h2 (make_small start h0 ns) (Nat.le_trans (make_len start h0 ns) (by decide)) (make_tb start h0 ns))
  have hme := make_enc start h0 ns
  have s1 := spoil_len (encP (makeP start ns)) more at_ cut x
  have HSP := hid (fun (v : Value) w' (h1 : Bytes w' v (encP (makeP start ns))) (h2 : Nw w w') => spoil_c v vm _ more at_ cut x w' h1 (hm.nw h2) (by omega) hlm hat hcu)
  have HSL := hid (fun w' (h : Nw w w') => hs.nw h)
  obtain ⟨p5, k5, rfl, _, _, _, _⟩ := hv1.open (u16s_length ns)
  obtain ⟨p6, k6, rfl, _, _, _, _⟩ := hm.open
  obtain ⟨ps, ks, rfl, _, _, _, _⟩ := hs.open (i64s_length sc)
  clear hv1 hns hm hs
  generalize spoilP (encP (makeP start ns)) at_ cut x more = Y at *
  generalize encP (makeP start ns) = em at *
  generalize makeP start ns = a at *
  generalize ns.length = nl at *
  obtain ⟨N, hN⟩ : ∃ N, Y.length = N := ⟨_, rfl⟩
  have HN := hid hN
  have hNb : N ≤ 200000000 := by omega
  obtain ⟨fm, hfm⟩ : ∃ fm, fm = f % (N + 3) := ⟨_, rfl⟩
  obtain ⟨qm, hqm⟩ : ∃ qm, qm = q % (N + 2) := ⟨_, rfl⟩
  have hfb : fm < N + 3 := by rw [hfm]; exact Nat.mod_lt _ (by omega)
  have hqb : qm < N + 2 := by rw [hqm]; exact Nat.mod_lt _ (by omega)
  have hf1 : (f : Int) % ((N : Int) + 3) = (fm : Int) := by rw [show (N : Int) + 3 = ((N + 3 : Nat) : Int) by omega, hfm, ← Int.natCast_emod]
  have hf2 : (f : Int).tmod ((N : Int) + 3) = (fm : Int) := by rw [Int.tmod_eq_emod_of_nonneg (by omega)]; exact hf1
  have hq1 : (q : Int) % ((N : Int) + 2) = (qm : Int) := by rw [show (N : Int) + 2 = ((N + 2 : Nat) : Int) by omega, hqm, ← Int.natCast_emod]
  have hq2 : (q : Int).tmod ((N : Int) + 2) = (qm : Int) := by rw [Int.tmod_eq_emod_of_nonneg (by omega)]; exact hq1
  have hz1 : (((N : Int) + 3) == 0) = false := beq_eq_false_iff_ne.2 (by omega)
  have hz2 : (((N : Int) + 2) == 0) = false := beq_eq_false_iff_ne.2 (by omega)
  have hz3 : (N : Int) + 3 ≠ 0 := by omega
  have hz4 : (N : Int) + 2 ≠ 0 := by omega
  have HSC := hid (fun v w' (hv : Bytes w' v Y) (h : Nw w w') => scanned_c v _ Y sc ((fm : Int) - 1) (qm : Int) 3 w' hv (HSL.out w' h) (by omega) hls hx (by omega) (by omega) (by omega) (by omega) (by omega) (by omega))
  clear hN hfm hqm s1 hls hx
  go_enter Try.func4, Try.ntmps4
  go_upto_region 2 with (first
    | (go_at_call 18; refine (HM1.out _ (by repeat (first | assumption | exact Nw.refl _ | refine Nw.alloc ?_ _ | refine Nw.drew ?_ | refine Nw.drewN2 ?_ _ | (refine Nw.trans ?_ (by assumption))))).mono ?_; rintro e w2 ⟨q1, c1, q2, c2, rfl, hs1, he1, hn2⟩)
    | (go_at_call 17; refine (HEE.out _ _ _ hs1 he1).mono ?_; rintro e w3 ⟨v3, rfl, hown3, hn3⟩; have hbe : Bytes w3 v3 em := hown3.sl; obtain ⟨q3, c3, rfl, _⟩ := hbe.open)
    | (go_at_call 16; refine (HSP.out _ _ hbe (hn2.trans hn3)).mono ?_; rintro e w4 ⟨v4, rfl, hown4, hn4⟩; have hs4 : Bytes w4 v4 Y := hown4.sl; obtain ⟨q4, c4, rfl, _⟩ := hown4.sl.open (n := N) ((u8s_length _).trans HN.out))
    | fail)
  have hw4 := hn2.trans (hn3.trans hn4)
  have HS4 := hid (fun w' (h : Nw w4 w') => HSC.out _ w' (hs4.nw h) (hw4.trans h))
  clear hs1 he1 hn2 hn3 hn4 hown3 hown4 hbe hs4 HSC HSP HEE HM1
  refine wp_region_stairs (by kernel_rfl) (by kernel_rfl) (by kernel_rfl) ?_
  iterate 20
    refine Stairs.is ?_ ?_ ?_
    rotate_left 1
    · intro x wR hR hd K hK
      simp only [Act.put, List.setIfInBounds_toArray, List.set_cons_zero, List.set_cons_succ, Nat.reduceAdd, List.length_nil, List.length_cons, List.nil_append, List.cons_append, Say.ok] at hK ⊢
      clear hd
      change Hid _ at hK
      obtain ⟨hcR, hfR, hzR⟩ := nwc hR
      first | (refine wanted_yes ?_ ?_; rfl) | (refine wanted_no ?_ ?_; rfl)
      go_wp2_with (first 
    | (go_at_call 14; refine (HS4.out _ (by repeat (first | assumption | exact Nw.refl _ | refine Nw.alloc ?_ _ | refine Nw.drew ?_ | refine Nw.drewN2 ?_ _ | (refine Nw.trans ?_ (by assumption))))).mono ?_; rintro e w5 ⟨rfl, hn5⟩)
    | (go_at_call 15; refine (awake_c _).mono ?_; rintro e w5 ⟨rfl, hn5⟩))
      all_goals (refine hK.out _ _ ?_ ?_ <;> first | (solve | (repeat (first | assumption | exact Nw.refl _ | refine Nw.alloc ?_ _ | refine Nw.drew ?_ | refine Nw.drewN2 ?_ _ | (refine Nw.trans ?_ (by assumption))))) | exact rfl)
    try simp only [Act.put, List.setIfInBounds_toArray, List.set_cons_zero, List.set_cons_succ, Nat.reduceAdd, List.length_nil, List.length_cons, List.nil_append, List.cons_append]
  refine Stairs.nil ?_
  intro x wR hR hx
  clear hx
  obtain ⟨hcR, hfR, hzR⟩ := nwc hR
  go_wp2
  go_ret
  exact ⟨rfl, hw4.trans hR⟩
end Sc
end Go.Proofs.Ytdihoedehmfgfaa
