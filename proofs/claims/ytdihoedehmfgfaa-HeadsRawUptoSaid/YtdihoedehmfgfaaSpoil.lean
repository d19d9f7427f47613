/- The contract of the laws' Spoil of layer 10; what is known of a log that Make makes. No condition but lengths. -/
import Derived.Test.YtdihoedehmfgfaaLogC
import Derived.Test.YtdihoedehmfgfaaLogH
import Derived.Test.YtdihoedehmfgfaaJTs
set_option linter.unusedSimpArgs false
set_option linter.unusedVariables false
namespace Go.Proofs.Ytdihoedehmfgfaa
open Go.ChangeShapes Go.WideShapes Go.ChangeAt Go.RowKit
theorem Own.cut {w : World} {B g n cap : Nat} {e : TypeId} {xs : List Value} (h : Own w B e (.slice (some ⟨g, 0, none⟩) n cap) xs) (hn : n = xs.length) (m : Nat) (hm : m ≤ n) : Own w B e (.slice (some ⟨g, 0, none⟩) m cap) (xs.take m) := by
  subst hn
  obtain ⟨h1, h2⟩ := h
  have hl : (xs.take m).length = m := by rw [List.length_take]; omega
  unfold Own
  rw [hl]
  refine ⟨by rw [hl, Nat.mul_one], Or.inr ?_⟩
  rcases h2 with ⟨h3, _⟩ | ⟨g', cap', cur, h3, h4, h5, h6, h7, h8, h9⟩
  · cases h3
  · cases h3
    refine ⟨_, _, cur, rfl, h4, h5, by omega, h7, h8, ?_⟩
    rw [Nat.mul_one] at h9 ⊢
    rw [← h9, List.take_take, Nat.min_eq_left hm]
theorem own_at' {w : World} {B : Nat} {e : TypeId} {v : Value} {xs : List Value} {n : Nat} (h : Own w B e v xs) (hn : xs.length = n) (h0 : 0 < n) : ∃ g cap, v = .slice (some ⟨g, 0, none⟩) n cap ∧ B ≤ g ∧ n ≤ cap ∧ cap ≤ maxLen ∧ Own w B e (.slice (some ⟨g, 0, none⟩) n cap) xs ∧ Cells w (some ⟨g, 0, none⟩) xs := by
  subst hn
  obtain ⟨g, cap, h1, h2, h3, h4⟩ := h.opened h0
  subst h1
  obtain ⟨_, _, e, _, _, _, hc⟩ := h.sl
  cases e
  exact ⟨g, cap, rfl, h2, h3, h4, h, hc⟩
theorem u16_of (n : Int) (h : 0 ≤ n ∧ n ≤ 65535) : ∃ m : Nat, n = (m : Int) ∧ m ≤ 65535 := ⟨n.toNat, by omega, by omega⟩
namespace Lg
open Go.Proofs.Ytdihoedehmfgfaa.Lx (isIn nameB strs_open strs_cell)
open Go.Proofs.Ytdihoedehmfgfaa.Sum (byte put right Hands8 HandsR)
open Go.Proofs.Ytdihoedehmfgfaa.Tr (T Es tm ids mayP namesP nmB nOk Evs EC Small In EvIn box2 lt_alloc TrR evs_shape makeP make_may make_len make_small make_c3 u16s u16s_length pqr runM runM_facts runM_fine Fine)
/-! ### Spoil -/
theorem xor_val (a b : UInt8) : bits .xor .u8 (a.toNat : Int) (b.toNat : Int) = ((a ^^^ b).toNat : Int) := by
  have h1 := a.toNat_lt
  have h2 := b.toNat_lt
  rw [u8_xor_nat _ _ h1 h2, UInt8.toNat_xor]
def spoilP (b : List UInt8) (at_ cut : Nat) (x : UInt8) (more : List UInt8) : List UInt8 :=
  if b.length = 0 then more else (b.set (at_ % b.length) (b.getD (at_ % b.length) 0 ^^^ x)).take (b.length - cut % b.length) ++ more
set_option maxRecDepth 20000 in
set_option maxHeartbeats 1600000 in
theorem spoil_c (v vm : Value) (b more : List UInt8) (at_ cut : Nat) (x : UInt8) (w : World) (hb : Bytes w v b) (hm : Bytes w vm more) (hl : b.length ≤ 500000000) (hlm : more.length ≤ 100000000) (hat : at_ ≤ 65535) (hcu : cut ≤ 65535) :
    Calls Try.prog 16 #[v, .int .u16 (at_ : Int), .int .u16 (cut : Int), .int .u8 (x.toNat : Int), vm] w (Hands8 w (spoilP b at_ cut x more)) := by
  obtain ⟨q, cap, rfl, hcap, hmx, _, hci⟩ := hb.open
  obtain ⟨q2, cap2, rfl, hcap2, hmx2, _, _⟩ := hm.open
  clear hci
  by_cases hz : b.length = 0
  · have hd : decide ((0 : Int) < b.length) = false := decide_eq_false (by omega)
    have HF := hid (show spoilP b at_ cut x more = more by unfold spoilP; rw [if_pos hz])
    have hb0 : b = [] := List.eq_nil_of_length_eq_zero hz
    subst hb0
    clear hz hd
    go_enter Try.func16, Try.ntmps16
    go_upto_region 2 with (first
      | (at_builtin; refine app1 rfl _ _ _ rfl _ _ _ Try.underlying22 info_u8 rfl (by decide) ((Nw.refl w).alloc _) (Own.new w _ _ [] (Nat.le_refl _) (Nat.zero_le _)) rfl (hb.nw ((Nw.refl w).alloc _)) rfl (u8s_one _) ?_ ?_; rotate_left; (simp only [u8s_length, List.length_append, List.length_nil, List.length_cons, List.length_map]; omega); intro v1 w1 hown1 hg1 hn1; obtain ⟨p1, c1, rfl, hc1, hm1, _, hcs1⟩ := hown1.sl.open (n := 0) rfl)
      | fail)
    go_wp2_with (first
      | (at_builtin; refine app1 rfl _ _ _ rfl _ _ _ Try.underlying22 info_u8 rfl (by decide) (hn1) (hown1) rfl (hm.nw hn1) rfl (u8s_one _) ?_ ?_; rotate_left; (simp only [u8s_length, List.length_append, List.length_nil, List.length_cons, List.length_map]; omega); intro v2 w2 hown2 hg2 hn2)
      | fail)
    go_ret
    exact hands_own hown2 (by rw [HF.out]; rfl) hn2
  · obtain ⟨N, hN⟩ : ∃ N, N = b.length := ⟨_, rfl⟩
    have hNp : 0 < N := by omega
    have hN0 : (N : Int) ≠ 0 := by omega
    obtain ⟨j, hj⟩ : ∃ j, j = at_ % N := ⟨_, rfl⟩
    obtain ⟨k, hk⟩ : ∃ k, k = cut % N := ⟨_, rfl⟩
    have hjN : j < N := by rw [hj]; exact Nat.mod_lt _ hNp
    have hkN : k < N := by rw [hk]; exact Nat.mod_lt _ hNp
    have ht1 : (at_ : Int).tmod (N : Int) = (j : Int) := by rw [Int.tmod_eq_emod_of_nonneg (by omega), hj, ← Int.natCast_emod]
    have ht2 : (cut : Int).tmod (N : Int) = (k : Int) := by rw [Int.tmod_eq_emod_of_nonneg (by omega), hk, ← Int.natCast_emod]
    obtain ⟨M, hM⟩ : ∃ M, N = M + k := ⟨N - k, by omega⟩
    have hMp : 0 < M := by omega
    have HF := hid (show spoilP b at_ cut x more = (b.set j (b.getD j 0 ^^^ x)).take M ++ more by
      unfold spoilP
      rw [if_neg hz, ← hN, ← hj, ← hk, show N - k = M by omega])
    have hd : decide ((0 : Int) < N) = true := decide_eq_true (by omega)
    have hde : ((N : Int) == 0) = false := beq_eq_false_iff_ne.2 hN0
    obtain ⟨y, hy⟩ : ∃ y, b[j]? = some y := ⟨b[j]'(by omega), by rw [List.getElem?_eq_getElem]⟩
    have hyd : b.getD j 0 = y := by rw [List.getD_eq_getElem?_getD, hy]; rfl
    rw [hyd] at HF
    have hxv := xor_val y x
    have HXL := hid (show (u8s b).length = N by rw [u8s_length]; exact hN.symm)
    have HN := hid hN
    rw [← hN] at hl hcap
    have hb' : Bytes w (.slice q N cap) b := by rw [hN]; exact hb
    rw [← hN]
    have hsub : (N : Int) - (k : Int) = (M : Int) := by omega
    have hMN : M ≤ N := by omega
    have hm1' : (at_ : Int) % (N : Int) = (j : Int) := by rw [hj, ← Int.natCast_emod]
    have hm2' : (cut : Int) % (N : Int) = (k : Int) := by rw [hk, ← Int.natCast_emod]
    clear hb hyd hz hN hj hk hM
    go_enter Try.func16, Try.ntmps16
    go_upto_region 2 with (first
      | (at_builtin; refine app1 rfl _ _ _ rfl _ _ _ Try.underlying22 info_u8 rfl (by decide) ((Nw.refl w).alloc _) (Own.new w _ _ [] (Nat.le_refl _) (Nat.zero_le _)) rfl (hb'.nw ((Nw.refl w).alloc _)) rfl (u8s_one _) ?_ ?_; rotate_left; (simp only [u8s_length, List.length_nil, HXL.out]; omega); intro v1 w1 hown1 hg1 hn1; rw [List.nil_append] at hown1; obtain ⟨g, c1, rfl, hB1, hc1, hm1, hownb, hcs1⟩ := own_at' hown1 HXL.out (by omega))
      | fail)
    have q1 := hownb.cell HXL.out.symm j (by rw [HXL.out]; omega)
    rw [u8s_get b j y hy] at q1
    have q2' := hownb.frozen HXL.out.symm j
    have q3 := hownb.set HXL.out.symm j (.int .u8 ((y.toNat ^^^ x.toNat : Nat) : Int))
    rw [show (u8s b).set j (.int .u8 ((y.toNat ^^^ x.toNat : Nat) : Int)) = u8s (b.set j (y ^^^ x)) by rw [u8s_set, UInt8.toNat_xor]] at q3
    have q4 := q3.cut (by rw [u8s_length, List.length_set]; exact HN.out) M hMN
    rw [← u8s_take] at q4
    have q5 : Nw w (w1.setCell ⟨g, j, none⟩ (.int .u8 ((y.toNat ^^^ x.toNat : Nat) : Int))) := hn1.setCell hB1 _
    clear hcs1 hown1 hownb q3 hn1 hg1
    obtain ⟨Y, hY⟩ : ∃ Y, Y = (b.set j (y ^^^ x)).take M := ⟨_, rfl⟩
    have HYL := hid (show Y.length = M by rw [hY, List.length_take, List.length_set, ← HN.out]; omega)
    rw [← hY] at q4 HF
    clear hY
    go_upto_region 4 with fail
    generalize w1.setCell ⟨g, j, none⟩ (.int .u8 ((y.toNat ^^^ x.toNat : Nat) : Int)) = w2 at *
    clear q1 q2'
    have hMc : M ≤ c1 := by omega
    go_wp2_with (first
      | (at_builtin; refine app1 rfl _ _ _ rfl _ _ _ Try.underlying22 info_u8 rfl (by decide) (q5) (q4) rfl (hm.nw q5) rfl (u8s_one _) ?_ ?_; rotate_left; (simp only [u8s_length, HYL.out]; omega); intro v3 w3 hown3 hg3 hn3)
      | fail)
    go_ret
    exact hands_own hown3 (by rw [HF.out, u8s_append]) hn3
theorem spoil_len (b more : List UInt8) (at_ cut : Nat) (x : UInt8) : (spoilP b at_ cut x more).length ≤ b.length + more.length := by
  unfold spoilP
  split
  · omega
  · rw [List.length_append, List.length_take, List.length_set]; omega
/-! ### What Make makes -/
theorem make_tb (start : Int) (h0 : 0 ≤ start) (ns : List Nat) : Tb (makeP start ns).evs := by
  intro i hi
  have h1 := runM_fine start h0 (ns.take 60) i hi
  have h2 := runM_facts start h0 (ns.take 60)
  have h3 : (ns.take 60).length ≤ 60 := by rw [List.length_take]; omega
  refine ⟨h1.2.2.1, ?_⟩
  have h4 := h1.2.1
  show tm (runM start (ns.take 60)).2 i < _
  omega
theorem in_tb {b : Nat} {t : T} (h : In b t) : Tb t.evs := fun i hi => ⟨(h.i i hi).1.1, (h.i i hi).1.2⟩
theorem make_enc (start : Int) (h0 : 0 ≤ start) (ns : List Nat) : (encP (makeP start ns)).length ≤ 10000 := by
  have hm := make_may start h0 ns
  have := enc_small (makeP start ns) hm (makeP start ns).evs.length
  have hl := make_len start h0 ns
  rw [List.take_length] at this
  unfold encP
  rw [if_pos hm]
  omega
theorem enc_len9 (t : T) (h : mayP t = true) : 9 ≤ (encP t).length := by
  unfold encP
  rw [if_pos h, List.length_append, header_len]
  omega
end Lg
end Go.Proofs.Ytdihoedehmfgfaa
