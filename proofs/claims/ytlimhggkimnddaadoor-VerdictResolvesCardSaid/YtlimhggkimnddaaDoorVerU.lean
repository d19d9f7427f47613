/- VerdictSpoilt, VerdictResolves walked. No condition but lengths, and what the library's variables hold. -/
import Derived.Test.YtlimhggkimnddaaDoorVerR
set_option linter.unusedSimpArgs false
set_option linter.unusedVariables false
namespace Go.Proofs.YtlimhggkimnddaaDoor
open Go.ChangeShapes Go.WideShapes Go.ChangeAt Go.RowKit
namespace Vd
theorem parsed_any (z : ByteArray) (w : World) (hm : Mx w) (hz : z.size ≤ 1000000000) : Calls Tryd.prog 12 #[.string z] w (Gives (.bool true) w) :=
  parsed_c z.data.toList w hm (by have : z.data.toList.length = z.size := Array.length_toList; omega)
theorem ext_size (T : List UInt8) (a b : Nat) : ((⟨T.toArray⟩ : ByteArray).extract a b).size ≤ T.length := by
  rw [ByteArray.size_extract]
  have : (⟨T.toArray⟩ : ByteArray).size = T.length := by simp [ByteArray.size]
  omega
set_option maxRecDepth 20000 in
set_option maxHeartbeats 1600000 in
theorem spoilt_walk (v : Value) (l : List It) (x y : Nat) (s : ByteArray) (w : World) (hm : Mx w) (ht : Tab w) (hv : Its w v l) (hr : ∀ x ∈ l, Rg x) (hl : l.length ≤ 2000000) (hs : s.size ≤ 100000000) (hx : (x : Int) ≤ 65535) (hy : (y : Int) ≤ 65535) :
    Calls Tryd.prog 5 #[v, .int .u16 (x : Int), .int .u16 (y : Int), .string s] w (Gives (.bool true) w) := by
  have HT := hid (fun w' (h : Nw w w') => rtext_c v l w' (hv.nw h) hr hl (ht.nw h))
  have HA := hid (fun w' (h : Nw w w') => awake_c w' (hm.nw h) (ht.nw h))
  have htl := text_len l
  have htb : (text l).length ≤ 102000000 := by omega
  clear htl
  generalize text l = T at *
  have HP := hid (fun a b c w' (h : Nw w w') => parsed_any ((⟨T.toArray⟩ : ByteArray).extract 0 a ++ s ++ (⟨T.toArray⟩ : ByteArray).extract b c) w' (hm.nw h) (by
    have h1 := ext_size T 0 a
    have h2 := ext_size T b c
    rw [ByteArray.size_append, ByteArray.size_append]; omega))
  have HQ := hid (fun a w' (h : Nw w w') => parsed_any ((⟨T.toArray⟩ : ByteArray).extract 0 a) w' (hm.nw h) (by
    have h1 := ext_size T 0 a
    omega))
  obtain ⟨N, hN⟩ : ∃ N, N = T.length := ⟨_, rfl⟩
  obtain ⟨i, hi⟩ : ∃ i, i = x % (N + 1) := ⟨_, rfl⟩
  obtain ⟨j, hj⟩ : ∃ j, j = y % 4 := ⟨_, rfl⟩
  have hiN : i ≤ N := by have := Nat.mod_lt x (show 0 < N + 1 by omega); omega
  have hj4 : j < 4 := by omega
  have hm1 : (x : Int) % ((N : Int) + 1) = (i : Int) := by rw [show (N : Int) + 1 = ((N + 1 : Nat) : Int) by omega, hi, ← Int.natCast_emod]
  have ht1 : (x : Int).tmod ((N : Int) + 1) = (i : Int) := by rw [Int.tmod_eq_emod_of_nonneg (by omega)]; exact hm1
  have hm2 : (y : Int) % 4 = (j : Int) := by omega
  have ht2 : (y : Int).tmod 4 = (j : Int) := by rw [Int.tmod_eq_emod_of_nonneg (by omega)]; exact hm2
  have hd0 : (((N : Int) + 1) == 0) = false := beq_eq_false_iff_ne.2 (by omega)
  have hdn : (N : Int) + 1 ≠ 0 := by omega
  subst hN
  clear hi hj
  go_enter Tryd.func5, Tryd.ntmps5
  go_upto_region 4 with (first
    | (go_at_call 10; refine (HT.out _ (by repeat (first | assumption | exact Nw.refl _ | refine Nw.alloc ?_ _ | refine Nw.drew ?_ | refine Nw.drewN2 ?_ _ | (refine Nw.trans ?_ (by assumption))))).mono ?_; rintro e w1 ⟨rfl, hn1⟩)
    | fail)
  generalize hM : min (T.length : Int) ((i : Int) + (j : Int)) = M
  obtain ⟨k, rfl⟩ : ∃ k : Nat, M = (k : Int) := ⟨M.toNat, by omega⟩
  have hkT : k ≤ T.length := by omega
  have z1 := ext_size T 0 i
  have z2 := ext_size T k T.length
  clear hM hm1 ht1 hm2 ht2 hd0 hdn
  refine wp_region_stairs (by kernel_rfl) (by kernel_rfl) (by kernel_rfl) ?_
  iterate 20
    refine Stairs.is ?_ ?_ ?_
    rotate_left 1
    · intro x wR hR hd K hK
      simp only [Act.put, List.setIfInBounds_toArray, List.set_cons_zero, List.set_cons_succ, Nat.reduceAdd, List.length_nil, List.length_cons, List.nil_append, List.cons_append, Say.ok] at hK ⊢
      clear hd
      change Hid _ at hK
      obtain ⟨hcR, hfR, hzR⟩ := nwc hR
      first | (refine wanted_yes ?_ ?_; rfl) | (refine wanted_no ?_ ?_; rfl)
      go_wp2_with (first 
    | (go_at_call 12; (first | (with_reducible refine (HP.out _ _ _ _ (by repeat (first | assumption | exact Nw.refl _ | refine Nw.alloc ?_ _ | refine Nw.drew ?_ | refine Nw.drewN2 ?_ _ | (refine Nw.trans ?_ (by assumption))))).mono ?_) | (with_reducible refine (HQ.out _ _ (by repeat (first | assumption | exact Nw.refl _ | refine Nw.alloc ?_ _ | refine Nw.drew ?_ | refine Nw.drewN2 ?_ _ | (refine Nw.trans ?_ (by assumption))))).mono ?_)); rintro e w5 ⟨rfl, hn5⟩)
    | (go_at_call 11; refine (HA.out _ (by repeat (first | assumption | exact Nw.refl _ | refine Nw.alloc ?_ _ | refine Nw.drew ?_ | refine Nw.drewN2 ?_ _ | (refine Nw.trans ?_ (by assumption))))).mono ?_; rintro e w5 ⟨rfl, hn5⟩))
      all_goals (refine hK.out _ _ ?_ ?_ <;> first | (solve | (repeat (first | assumption | exact Nw.refl _ | refine Nw.alloc ?_ _ | refine Nw.drew ?_ | refine Nw.drewN2 ?_ _ | (refine Nw.trans ?_ (by assumption))))) | exact rfl)
    try simp only [Act.put, List.setIfInBounds_toArray, List.set_cons_zero, List.set_cons_succ, Nat.reduceAdd, List.length_nil, List.length_cons, List.nil_append, List.cons_append]
  refine Stairs.nil ?_
  intro x wR hR hx
  clear hx
  obtain ⟨hcR, hfR, hzR⟩ := nwc hR
  go_wp2
  go_ret
  exact ⟨rfl, (by repeat (first | assumption | exact Nw.refl _ | refine Nw.alloc ?_ _ | refine Nw.drew ?_ | refine Nw.drewN2 ?_ _ | (refine Nw.trans ?_ (by assumption))))⟩
set_option maxRecDepth 20000 in
set_option maxHeartbeats 1600000 in
theorem resolves_walk (n : Int) (v : Value) (l : List It) (w : World) (hm : Mx w) (ht : Tab w) (hv : Its w v l) (hr : ∀ x ∈ l, Rg x) (hn : -9223372036854775808 ≤ n ∧ n ≤ 9223372036854775807) :
    Calls Tryd.prog 7 #[.int .i64 n, v] w (Gives (.bool true) w) := by
  have HA := hid (fun w' (h : Nw w w') => awake_c w' (hm.nw h) (ht.nw h))
  by_cases hb : 1000 < l.length
  · have d1 : decide ((1000 : Int) < l.length) = true := decide_eq_true (by omega)
    have d2 : decide (1000 < l.length) = true := decide_eq_true hb
    obtain ⟨p, cap, rfl, hcap, hmx, _, _⟩ := hv.open rfl
    go_enter Tryd.func7, Tryd.ntmps7
    go_wp2_with (first
      | (go_at_call 11; refine (HA.out _ (by repeat (first | assumption | exact Nw.refl _ | refine Nw.alloc ?_ _ | refine Nw.drew ?_ | refine Nw.drewN2 ?_ _ | (refine Nw.trans ?_ (by assumption))))).mono ?_; rintro e w3 ⟨rfl, hn3⟩)
      | fail)
    go_ret
    exact ⟨rfl, (by repeat (first | assumption | exact Nw.refl _ | refine Nw.alloc ?_ _ | refine Nw.drew ?_ | refine Nw.drewN2 ?_ _ | (refine Nw.trans ?_ (by assumption))))⟩
  · have d1 : decide ((1000 : Int) < l.length) = false := decide_eq_false (by omega)
    have d2 : decide (1000 < l.length) = false := decide_eq_false hb
    have HR := hid (fun w' (h : Nw w w') => resolve_c n v l w' (hv.nw h) hr (by omega) hn)
    have HQ := hid (fun w' (h : Nw w w') => rresolve_c n v l w' (hv.nw h) (by omega) hn)
    obtain ⟨p, cap, rfl, hcap, hmx, _, _⟩ := hv.open rfl
    unfold HandsV at HR HQ
    generalize res n l = r at *
    obtain ⟨bs, z⟩ := r
    simp only at HR HQ
    have HE := hid (fun w' va vb (h1 : Sl w' va (bls bs)) (h2 : Sl w' vb (bls bs)) => show Calls Tryd.prog 17 #[va, vb] w' (Gives (.bool true) w') by
      have := eqBs_c va vb bs bs w' h1 h2
      rwa [decide_eq_true rfl] at this)
    go_enter Tryd.func7, Tryd.ntmps7
    go_wp2_with (first
      | (go_at_call 15; refine (HR.out _ (by repeat (first | assumption | exact Nw.refl _ | refine Nw.alloc ?_ _ | refine Nw.drew ?_ | refine Nw.drewN2 ?_ _ | (refine Nw.trans ?_ (by assumption))))).mono ?_; rintro e w1 ⟨v1, rfl, ho1, hn1⟩)
      | (go_at_call 16; refine (HQ.out _ (by repeat (first | assumption | exact Nw.refl _ | refine Nw.alloc ?_ _ | refine Nw.drew ?_ | refine Nw.drewN2 ?_ _ | (refine Nw.trans ?_ (by assumption))))).mono ?_; rintro e w2 ⟨v2, rfl, ho2, hn2⟩; have ho3 := ho1.nw hn2)
      | (go_at_call 17; refine (HE.out _ _ _ ho3 ho2).mono ?_; rintro e w3 ⟨rfl, hn3⟩)
      | (go_at_call 11; refine (HA.out _ (by repeat (first | assumption | exact Nw.refl _ | refine Nw.alloc ?_ _ | refine Nw.drew ?_ | refine Nw.drewN2 ?_ _ | (refine Nw.trans ?_ (by assumption))))).mono ?_; rintro e w4 ⟨rfl, hn4⟩)
      | fail)
    go_ret
    exact ⟨rfl, (by repeat (first | assumption | exact Nw.refl _ | refine Nw.alloc ?_ _ | refine Nw.drew ?_ | refine Nw.drewN2 ?_ _ | (refine Nw.trans ?_ (by assumption))))⟩
end Vd
end Go.Proofs.YtlimhggkimnddaaDoor
