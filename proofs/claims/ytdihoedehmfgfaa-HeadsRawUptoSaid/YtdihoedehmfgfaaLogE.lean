/- The contract of watchglassref8.Head. No condition but lengths. -/
import Derived.Test.YtdihoedehmfgfaaLogD
set_option linter.unusedSimpArgs false
set_option linter.unusedVariables false
namespace Go.Proofs.Ytdihoedehmfgfaa
open Go.ChangeShapes Go.WideShapes Go.ChangeAt Go.RowKit
namespace Lg
open Go.Proofs.Ytdihoedehmfgfaa.Lx (isIn nameB strs_open strs_cell contains_c)
open Go.Proofs.Ytdihoedehmfgfaa.Sum (byte put right Hands8 HandsR)
open Go.Proofs.Ytdihoedehmfgfaa.Tr (namesP nmB nOk namesTo rnm_c strs_one info_str)
/-- What follows behind the names. -/
def finR (b : List UInt8) (m : Int) : (List ByteArray × Nat) × Int → Hd
  | ((l, i), e) => if e ≠ 0 then noHd e else if b.length < i + 4 then noHd m else headE b l i
theorem headR_fin {b : List UInt8} {m : Int} {c : Nat} (hc : c = sz b 4) (h1 : ¬ b.length < 5) (h2 : ¬ (b.take 4 ≠ mark ∨ 64 < c)) : headR b m = finR b m (rgo b m c 5 []) := by
  subst hc
  unfold headR
  rw [if_neg h1, if_neg h2]
  rfl
theorem finR_e {b : List UInt8} {m e : Int} (h : e ≠ 0) : finR b m (([], 0), e) = noHd e := by
  show (if e ≠ 0 then noHd e else _) = _
  rw [if_pos h]
theorem finR_0 {b : List UInt8} {m : Int} {l : List ByteArray} {i : Nat} : finR b m ((l, i), 0) = if b.length < i + 4 then noHd m else headE b l i := rfl
theorem rgo_1 {b : List UInt8} {m : Int} {k i : Nat} {acc : List ByteArray} (hm : m ≠ 0) (h : b.length ≤ i) : finR b m (rgo b m (k + 1) i acc) = noHd m := by
  rw [rgo, if_pos h, finR_e hm]
theorem rgo_2 {b : List UInt8} {m : Int} {k i : Nat} {acc : List ByteArray} (h : ¬ b.length ≤ i) (h2 : sz b i < 1 ∨ 16 < sz b i) : finR b m (rgo b m (k + 1) i acc) = noHd 5 := by
  rw [rgo, if_neg h, if_pos h2, finR_e (by decide)]
theorem rgo_3 {b : List UInt8} {m : Int} {k i : Nat} {acc : List ByteArray} (hm : m ≠ 0) (h : ¬ b.length ≤ i) (h2 : ¬ (sz b i < 1 ∨ 16 < sz b i)) (h3 : b.length < i + 1 + sz b i) : finR b m (rgo b m (k + 1) i acc) = noHd m := by
  rw [rgo, if_neg h, if_neg h2, if_pos h3, finR_e hm]
theorem rgo_4 {b : List UInt8} {m : Int} {k i : Nat} {acc : List ByteArray} (h : ¬ b.length ≤ i) (h2 : ¬ (sz b i < 1 ∨ 16 < sz b i)) (h3 : ¬ b.length < i + 1 + sz b i) (h4 : nmB (cutS b (i + 1) (sz b i)) = false ∨ isIn (cutS b (i + 1) (sz b i)) acc = true) : finR b m (rgo b m (k + 1) i acc) = noHd 5 := by
  rw [rgo, if_neg h, if_neg h2, if_neg h3, if_pos h4, finR_e (by decide)]
theorem rgo_5 {b : List UInt8} {m : Int} {k i : Nat} {acc : List ByteArray} (h : ¬ b.length ≤ i) (h2 : ¬ (sz b i < 1 ∨ 16 < sz b i)) (h3 : ¬ b.length < i + 1 + sz b i) (h4 : ¬ (nmB (cutS b (i + 1) (sz b i)) = false ∨ isIn (cutS b (i + 1) (sz b i)) acc = true)) : rgo b m (k + 1) i acc = rgo b m k (i + 1 + sz b i) (acc ++ [cutS b (i + 1) (sz b i)]) := by
  rw [rgo, if_neg h, if_neg h2, if_neg h3, if_neg h4]
set_option maxRecDepth 20000 in
set_option maxHeartbeats 1600000 in
theorem rhead_c (v : Value) (b : List UInt8) (w : World) (hb : Bytes w v b) (hl : b.length ≤ 1000000000) : Calls Try.prog 41 #[v, .bool false] w (HandsHd w (headR b 5)) := by
  obtain ⟨p, cap, rfl, hcap, hmx, hp0, hc⟩ := hb.open
  have hmx' := hmx
  unfold maxLen at hmx
  clear hb
  by_cases h5 : b.length < 5
  · have HF := hid (show headR b 5 = noHd 5 by unfold headR; rw [if_pos h5])
    have hd : decide ((b.length : Int) < 5) = true := decide_eq_true (by omega)
    go_enter Try.func41, Try.ntmps41
    go_wp2
    go_ret3
    exact HandsHd.no HF.out (by repeat (first | assumption | exact Nw.refl _ | refine Nw.alloc ?_ _ | refine Nw.drew ?_ | refine Nw.drewN2 ?_ _ | (refine Nw.trans ?_ (by assumption))))
  · have hd : decide ((b.length : Int) < 5) = false := decide_eq_false (by omega)
    obtain ⟨pb, po, rfl⟩ := hc.place (by rw [u8s_length]; omega)
    have h4 := bcell hc 4 (by omega)
    have hs4 : (convert 22 9 (.slice (some ⟨pb, po, none⟩) 4 cap)).run Try.prog w = .ok (.string (str (b.take 4))) w := str_ok (bytes_front hc hcap hmx' hp0 4 (by omega))
    have hlt4 := sz_lt b 4
    have HC := hid hc
    have hN := fun (c : Nat) (hc : c = sz b 4) (h : b.take 4 ≠ mark ∨ 64 < c) => show headR b 5 = noHd 5 by subst hc; unfold headR; rw [if_neg h5, if_pos h]
    have hH := fun (c : Nat) (hc : c = sz b 4) (h : ¬ (b.take 4 ≠ mark ∨ 64 < c)) => headR_fin (m := 5) hc h5 h
    have HM1 := hid (mark_eq b)
    have HM2 := hid (mark_ne b)
    obtain ⟨c, hcs⟩ : ∃ c, c = sz b 4 := ⟨_, rfl⟩
    have HNc := hid (hN c hcs)
    have HHc := hid (hH c hcs)
    rw [← hcs] at h4 hlt4
    clear hN hH hcs hc hp0
    generalize str (b.take 4) = st at *
    by_cases hm : b.take 4 = mark
    · have hst := HM1.out hm
      subst hst
      by_cases h64 : 64 < c
      · have hd2 : decide ((64 : Int) < c) = true := decide_eq_true (by omega)
        go_enter Try.func41, Try.ntmps41
        go_wp2
        go_ret3
        exact HandsHd.no (HNc.out (Or.inr h64)) (by repeat (first | assumption | exact Nw.refl _ | refine Nw.alloc ?_ _ | refine Nw.drew ?_ | refine Nw.drewN2 ?_ _ | (refine Nw.trans ?_ (by assumption))))
      · have hd2 : decide ((64 : Int) < c) = false := decide_eq_false (by omega)
        have HR := hid (HHc.out (by rintro (h | h); exact h hm; exact h64 h))
        clear HHc HNc HM1 HM2 hm
        go_enter Try.func41, Try.ntmps41
        go_wp2
        go_loopw [9, 8, 10, 11, 34] (fun at_ nv _ _ i wr => ∃ (k j : Nat) (acc : List ByteArray), k ≤ c ∧ i = .int .i64 k ∧ at_ = .int .i64 j ∧ 5 ≤ j ∧ j ≤ b.length ∧ Hid (acc.length = k) ∧ Hid (headR b 5 = finR b 5 (rgo b 5 (c - k) j acc)) ∧ Own wr w.heap.size 9 nv (Lx.strs acc) ∧ Nw w wr) (fun _ _ _ _ i _ => c - (intOf i).toNat)
        case atStart => exact ⟨0, 5, [], Nat.zero_le _, rfl, rfl, by omega, by omega, hid rfl, hid HR.out, Own.nil _ _ _, Nw.refl _⟩
        case round =>
          obtain ⟨k, j, acc, hk, rfl, rfl, hj5, hjb, HL, HP, hown, hn⟩ := hrel
          clear h4 hs4 HR
          by_cases hlt : k < c
          · have hdk : decide ((k : Int) < c) = true := decide_eq_true (by omega)
            have hck : c - k = (c - (k + 1)) + 1 := by omega
            rw [hck] at HP
            clear hck
            obtain ⟨pr, cr, rfl, _⟩ := hown.sl.open (n := k) (by rw [Lx.strs_length]; exact HL.out)
            by_cases hjl : j < b.length
            · have hjn : ¬ b.length ≤ j := by omega
              have hd5 : decide ((b.length : Int) ≤ j) = false := decide_eq_false (by omega)
              have hcell := bcell (HC.out.nw hn) j hjl
              have hz := sz_lt b j
              have H1 := hid (fun h2 => HP.out.trans (rgo_2 hjn h2))
              have H2 := hid (fun h2 h3 => HP.out.trans (rgo_3 (by decide) hjn h2 h3))
              have H4 := hid (fun h2 h3 h4 => HP.out.trans (rgo_4 hjn h2 h3 h4))
              have H5 := hid (fun h2 h3 h4 => rgo_5 (m := 5) (k := c - (k + 1)) (acc := acc) hjn h2 h3 h4)
              generalize sz b j = z at *
              by_cases hz1 : z < 1
              · have HF := hid (H1.out (Or.inl hz1))
                have hd6 : decide ((z : Int) < 1) = true := decide_eq_true (by omega)
                clear H1 H2 H4 H5
                go_wp2
                go_ret3
                exact HandsHd.no HF.out hn
              · have hd6 : decide ((z : Int) < 1) = false := decide_eq_false (by omega)
                by_cases hz16 : 16 < z
                · have HF := hid (H1.out (Or.inr hz16))
                  have hd7 : decide ((16 : Int) < z) = true := decide_eq_true (by omega)
                  clear H1 H2 H4 H5
                  go_wp2
                  go_ret3
                  exact HandsHd.no HF.out hn
                · have hd7 : decide ((16 : Int) < z) = false := decide_eq_false (by omega)
                  have hzz : ¬ (z < 1 ∨ 16 < z) := by omega
                  by_cases hov : b.length < j + 1 + z
                  · have HF := hid (H2.out hzz hov)
                    have hd8 : decide ((b.length : Int) < j + 1 + z) = true := decide_eq_true (by omega)
                    clear H1 H2 H4 H5 hzz
                    go_wp2
                    go_ret3
                    exact HandsHd.no HF.out hn
                  · have hd8 : decide ((b.length : Int) < j + 1 + z) = false := decide_eq_false (by omega)
                    have HF4 := hid (fun h4 => H4.out hzz hov h4)
                    have HF5 := hid (fun h4 => H5.out hzz hov h4)
                    clear H1 H2 H4 H5 hzz
                    have hsz := cutS_size b (j + 1) z
                    have hst1 : ∀ w', Nw wr w' → (convert 22 9 (.slice (some ⟨pb, po + (j + 1), none⟩) z (cap - (j + 1)))).run Try.prog w' = .ok (.string (cutS b (j + 1) z)) w' := str_later (bytes_sub (HC.out.nw hn) hcap hmx' (j + 1) z (by omega))
                    generalize cutS b (j + 1) z = s at *
                    have hk63 : k ≤ 256 := by omega
                    have hcj : ¬ cap = j + 1 := by omega
                    have HNM := hid (fun w => rnm_c s (by omega) w)
                    have HCN := hid (fun w' (h : Nw wr w') => contains_c _ acc s w' (hown.sl.nw h))
                    by_cases h1 : nmB s = true
                    · by_cases h2 : isIn s acc = true
                      · have HF := hid (HF4.out (Or.inr h2))
                        clear HF4 HF5
                        go_wp2_with (first
                          | (go_at_call 73; refine (HNM.out _).mono ?_; rintro e w1 ⟨rfl, hn1⟩)
                          | (go_at_call 56; refine (HCN.out _ (by repeat (first | assumption | exact Nw.refl _ | refine Nw.alloc ?_ _ | refine Nw.drew ?_ | refine Nw.drewN2 ?_ _ | (refine Nw.trans ?_ (by assumption))))).mono ?_; rintro e w2 ⟨rfl, hn2⟩)
                          | fail)
                        go_ret3
                        exact HandsHd.no HF.out (hn.trans (hn1.trans hn2))
                      · rw [Bool.not_eq_true] at h2
                        have HF := hid (HF5.out (by rw [h1, h2]; simp))
                        clear HF4 HF5
                        go_wp2_with (first
                          | (go_at_call 73; refine (HNM.out _).mono ?_; rintro e w1 ⟨rfl, hn1⟩)
                          | (go_at_call 56; refine (HCN.out _ (by repeat (first | assumption | exact Nw.refl _ | refine Nw.alloc ?_ _ | refine Nw.drew ?_ | refine Nw.drewN2 ?_ _ | (refine Nw.trans ?_ (by assumption))))).mono ?_; rintro e w2 ⟨rfl, hn2⟩; have hnw2 := hn.trans (hn1.trans hn2); have how2 := hown.nw (hn1.trans hn2); clear hcell)
                          | (at_builtin; refine app1 rfl _ _ _ rfl _ _ _ Try.underlying31 info_str rfl (by decide) (hnw2.alloc _) (how2.nw ((Nw.refl _).alloc _)) rfl (Sl.new w2 [_] _ _ (by simp [maxLen])) rfl (by simp [Value.oneCell']) ?_ ?_; rotate_left; ((try rw [Lx.strs_length, HL.out]); simp only [List.length_cons, List.length_nil]; omega); intro v3 w3 hown3 hg3 hn3)
                          | fail)
                        go_roundw
                        case rel => exact ⟨k + 1, j + 1 + z, acc ++ [s], by omega, by go_num, by go_num, by omega, by omega, hid (by rw [List.length_append, HL.out]; rfl), hid (HP.out.trans (congrArg _ HF.out)), by rw [strs_snoc]; exact hown3, hn3⟩
                        case measure => (simp [intOf] <;> omega)
                    · rw [Bool.not_eq_true] at h1
                      have HF := hid (HF4.out (Or.inl h1))
                      clear HF4 HF5
                      go_wp2_with (first
                        | (go_at_call 73; refine (HNM.out _).mono ?_; rintro e w1 ⟨rfl, hn1⟩)
                        | (go_at_call 56; refine (HCN.out _ (by repeat (first | assumption | exact Nw.refl _ | refine Nw.alloc ?_ _ | refine Nw.drew ?_ | refine Nw.drewN2 ?_ _ | (refine Nw.trans ?_ (by assumption))))).mono ?_; rintro e w2 ⟨rfl, hn2⟩)
                        | fail)
                      go_ret3
                      exact HandsHd.no HF.out (hn.trans hn1)
            · have hd5 : decide ((b.length : Int) ≤ j) = true := decide_eq_true (by omega)
              have HF := hid (HP.out.trans (rgo_1 (by decide) (by omega)))
              go_wp2
              go_ret3
              exact HandsHd.no HF.out hn
          · obtain rfl : k = c := by omega
            have hdk : decide ((k : Int) < k) = false := decide_eq_false (by omega)
            rw [Nat.sub_self] at HP
            have HQ := hid (show headR b 5 = if b.length < j + 4 then noHd 5 else headE b acc j from HP.out.trans finR_0)
            clear HP
            by_cases h7 : b.length < j + 4
            · have hd7 : decide ((b.length : Int) < j + 4) = true := decide_eq_true (by omega)
              have HF := hid (HQ.out.trans (if_pos h7))
              go_wp2
              go_ret3
              exact HandsHd.no HF.out hn
            · have hd7 : decide ((b.length : Int) < j + 4) = false := decide_eq_false (by omega)
              have HRI := hid (fun w' (h : Nw wr w') => Sum.rright_c _ _ w' ((bytes_front (HC.out.nw hn) hcap hmx' (fun h => by cases h) (j + 4) (by omega)).nw h) (by rw [List.length_take]; omega))
              have HF := hid ((HQ.out.trans (if_neg h7)).trans (show headE b acc j = if (right (b.take (j + 4))).isSome = true then (acc, (j : Int) + 4, 0) else noHd 5 from rfl))
              have hsl := hown.sl
              clear hown HQ
              generalize b.take (j + 4) = bj at *
              have hj4 : j + 4 ≤ cap := by omega
              cases hG : (right bj).isSome with
              | true =>
                rw [hG] at HF
                go_wp2_with (first
                  | (go_at_call 74; refine (HRI.out _ (by repeat (first | assumption | exact Nw.refl _ | refine Nw.alloc ?_ _ | refine Nw.drew ?_ | refine Nw.drewN2 ?_ _ | (refine Nw.trans ?_ (by assumption))))).mono ?_; rintro e w2 ⟨v2, rfl, hb2, hn2⟩; rw [hG]; clear hb2)
                  | fail)
                go_ret3
                exact HandsHd.yes (HF.out.trans (if_pos (by trivial))) (hsl.nw hn2) (hn.trans hn2)
              | false =>
                rw [hG] at HF
                go_wp2_with (first
                  | (go_at_call 74; refine (HRI.out _ (by repeat (first | assumption | exact Nw.refl _ | refine Nw.alloc ?_ _ | refine Nw.drew ?_ | refine Nw.drewN2 ?_ _ | (refine Nw.trans ?_ (by assumption))))).mono ?_; rintro e w2 ⟨v2, rfl, hb2, hn2⟩; rw [hG]; clear hb2)
                  | fail)
                go_ret3
                exact HandsHd.no (HF.out.trans (if_neg (by decide))) (hn.trans hn2)
    · have hst := HM2.out hm
      have hd3 : ¬ st.toList = [87, 71, 76, 1] := toList_ne hst
      go_enter Try.func41, Try.ntmps41
      go_wp2
      go_ret3
      exact HandsHd.no (HNc.out (Or.inl hm)) (by repeat (first | assumption | exact Nw.refl _ | refine Nw.alloc ?_ _ | refine Nw.drew ?_ | refine Nw.drewN2 ?_ _ | (refine Nw.trans ?_ (by assumption))))

set_option maxRecDepth 20000 in
set_option maxHeartbeats 1600000 in
theorem rheadf_c (v : Value) (b : List UInt8) (w : World) (hb : Bytes w v b) (hl : b.length ≤ 1000000000) : Calls Try.prog 41 #[v, .bool true] w (HandsHd w (headR b 10)) := by
  obtain ⟨p, cap, rfl, hcap, hmx, hp0, hc⟩ := hb.open
  have hmx' := hmx
  unfold maxLen at hmx
  clear hb
  by_cases h5 : b.length < 5
  · have HF := hid (show headR b 10 = noHd 10 by unfold headR; rw [if_pos h5])
    have hd : decide ((b.length : Int) < 5) = true := decide_eq_true (by omega)
    go_enter Try.func41, Try.ntmps41
    go_wp2
    go_ret3
    exact HandsHd.no HF.out (by repeat (first | assumption | exact Nw.refl _ | refine Nw.alloc ?_ _ | refine Nw.drew ?_ | refine Nw.drewN2 ?_ _ | (refine Nw.trans ?_ (by assumption))))
  · have hd : decide ((b.length : Int) < 5) = false := decide_eq_false (by omega)
    obtain ⟨pb, po, rfl⟩ := hc.place (by rw [u8s_length]; omega)
    have h4 := bcell hc 4 (by omega)
    have hs4 : (convert 22 9 (.slice (some ⟨pb, po, none⟩) 4 cap)).run Try.prog w = .ok (.string (str (b.take 4))) w := str_ok (bytes_front hc hcap hmx' hp0 4 (by omega))
    have hlt4 := sz_lt b 4
    have HC := hid hc
    have hN := fun (c : Nat) (hc : c = sz b 4) (h : b.take 4 ≠ mark ∨ 64 < c) => show headR b 10 = noHd 5 by subst hc; unfold headR; rw [if_neg h5, if_pos h]
    have hH := fun (c : Nat) (hc : c = sz b 4) (h : ¬ (b.take 4 ≠ mark ∨ 64 < c)) => headR_fin (m := 10) hc h5 h
    have HM1 := hid (mark_eq b)
    have HM2 := hid (mark_ne b)
    obtain ⟨c, hcs⟩ : ∃ c, c = sz b 4 := ⟨_, rfl⟩
    have HNc := hid (hN c hcs)
    have HHc := hid (hH c hcs)
    rw [← hcs] at h4 hlt4
    clear hN hH hcs hc hp0
    generalize str (b.take 4) = st at *
    by_cases hm : b.take 4 = mark
    · have hst := HM1.out hm
      subst hst
      by_cases h64 : 64 < c
      · have hd2 : decide ((64 : Int) < c) = true := decide_eq_true (by omega)
        go_enter Try.func41, Try.ntmps41
        go_wp2
        go_ret3
        exact HandsHd.no (HNc.out (Or.inr h64)) (by repeat (first | assumption | exact Nw.refl _ | refine Nw.alloc ?_ _ | refine Nw.drew ?_ | refine Nw.drewN2 ?_ _ | (refine Nw.trans ?_ (by assumption))))
      · have hd2 : decide ((64 : Int) < c) = false := decide_eq_false (by omega)
        have HR := hid (HHc.out (by rintro (h | h); exact h hm; exact h64 h))
        clear HHc HNc HM1 HM2 hm
        go_enter Try.func41, Try.ntmps41
        go_wp2
        go_loopw [9, 8, 10, 11, 34] (fun at_ nv _ _ i wr => ∃ (k j : Nat) (acc : List ByteArray), k ≤ c ∧ i = .int .i64 k ∧ at_ = .int .i64 j ∧ 5 ≤ j ∧ j ≤ b.length ∧ Hid (acc.length = k) ∧ Hid (headR b 10 = finR b 10 (rgo b 10 (c - k) j acc)) ∧ Own wr w.heap.size 9 nv (Lx.strs acc) ∧ Nw w wr) (fun _ _ _ _ i _ => c - (intOf i).toNat)
        case atStart => exact ⟨0, 5, [], Nat.zero_le _, rfl, rfl, by omega, by omega, hid rfl, hid HR.out, Own.nil _ _ _, Nw.refl _⟩
        case round =>
          obtain ⟨k, j, acc, hk, rfl, rfl, hj5, hjb, HL, HP, hown, hn⟩ := hrel
          clear h4 hs4 HR
          by_cases hlt : k < c
          · have hdk : decide ((k : Int) < c) = true := decide_eq_true (by omega)
            have hck : c - k = (c - (k + 1)) + 1 := by omega
            rw [hck] at HP
            clear hck
            obtain ⟨pr, cr, rfl, _⟩ := hown.sl.open (n := k) (by rw [Lx.strs_length]; exact HL.out)
            by_cases hjl : j < b.length
            · have hjn : ¬ b.length ≤ j := by omega
              have hd5 : decide ((b.length : Int) ≤ j) = false := decide_eq_false (by omega)
              have hcell := bcell (HC.out.nw hn) j hjl
              have hz := sz_lt b j
              have H1 := hid (fun h2 => HP.out.trans (rgo_2 hjn h2))
              have H2 := hid (fun h2 h3 => HP.out.trans (rgo_3 (by decide) hjn h2 h3))
              have H4 := hid (fun h2 h3 h4 => HP.out.trans (rgo_4 hjn h2 h3 h4))
              have H5 := hid (fun h2 h3 h4 => rgo_5 (m := 10) (k := c - (k + 1)) (acc := acc) hjn h2 h3 h4)
              generalize sz b j = z at *
              by_cases hz1 : z < 1
              · have HF := hid (H1.out (Or.inl hz1))
                have hd6 : decide ((z : Int) < 1) = true := decide_eq_true (by omega)
                clear H1 H2 H4 H5
                go_wp2
                go_ret3
                exact HandsHd.no HF.out hn
              · have hd6 : decide ((z : Int) < 1) = false := decide_eq_false (by omega)
                by_cases hz16 : 16 < z
                · have HF := hid (H1.out (Or.inr hz16))
                  have hd7 : decide ((16 : Int) < z) = true := decide_eq_true (by omega)
                  clear H1 H2 H4 H5
                  go_wp2
                  go_ret3
                  exact HandsHd.no HF.out hn
                · have hd7 : decide ((16 : Int) < z) = false := decide_eq_false (by omega)
                  have hzz : ¬ (z < 1 ∨ 16 < z) := by omega
                  by_cases hov : b.length < j + 1 + z
                  · have HF := hid (H2.out hzz hov)
                    have hd8 : decide ((b.length : Int) < j + 1 + z) = true := decide_eq_true (by omega)
                    clear H1 H2 H4 H5 hzz
                    go_wp2
                    go_ret3
                    exact HandsHd.no HF.out hn
                  · have hd8 : decide ((b.length : Int) < j + 1 + z) = false := decide_eq_false (by omega)
                    have HF4 := hid (fun h4 => H4.out hzz hov h4)
                    have HF5 := hid (fun h4 => H5.out hzz hov h4)
                    clear H1 H2 H4 H5 hzz
                    have hsz := cutS_size b (j + 1) z
                    have hst1 : ∀ w', Nw wr w' → (convert 22 9 (.slice (some ⟨pb, po + (j + 1), none⟩) z (cap - (j + 1)))).run Try.prog w' = .ok (.string (cutS b (j + 1) z)) w' := str_later (bytes_sub (HC.out.nw hn) hcap hmx' (j + 1) z (by omega))
                    generalize cutS b (j + 1) z = s at *
                    have hk63 : k ≤ 256 := by omega
                    have hcj : ¬ cap = j + 1 := by omega
                    have HNM := hid (fun w => rnm_c s (by omega) w)
                    have HCN := hid (fun w' (h : Nw wr w') => contains_c _ acc s w' (hown.sl.nw h))
                    by_cases h1 : nmB s = true
                    · by_cases h2 : isIn s acc = true
                      · have HF := hid (HF4.out (Or.inr h2))
                        clear HF4 HF5
                        go_wp2_with (first
                          | (go_at_call 73; refine (HNM.out _).mono ?_; rintro e w1 ⟨rfl, hn1⟩)
                          | (go_at_call 56; refine (HCN.out _ (by repeat (first | assumption | exact Nw.refl _ | refine Nw.alloc ?_ _ | refine Nw.drew ?_ | refine Nw.drewN2 ?_ _ | (refine Nw.trans ?_ (by assumption))))).mono ?_; rintro e w2 ⟨rfl, hn2⟩)
                          | fail)
                        go_ret3
                        exact HandsHd.no HF.out (hn.trans (hn1.trans hn2))
                      · rw [Bool.not_eq_true] at h2
                        have HF := hid (HF5.out (by rw [h1, h2]; simp))
                        clear HF4 HF5
                        go_wp2_with (first
                          | (go_at_call 73; refine (HNM.out _).mono ?_; rintro e w1 ⟨rfl, hn1⟩)
                          | (go_at_call 56; refine (HCN.out _ (by repeat (first | assumption | exact Nw.refl _ | refine Nw.alloc ?_ _ | refine Nw.drew ?_ | refine Nw.drewN2 ?_ _ | (refine Nw.trans ?_ (by assumption))))).mono ?_; rintro e w2 ⟨rfl, hn2⟩; have hnw2 := hn.trans (hn1.trans hn2); have how2 := hown.nw (hn1.trans hn2); clear hcell)
                          | (at_builtin; refine app1 rfl _ _ _ rfl _ _ _ Try.underlying31 info_str rfl (by decide) (hnw2.alloc _) (how2.nw ((Nw.refl _).alloc _)) rfl (Sl.new w2 [_] _ _ (by simp [maxLen])) rfl (by simp [Value.oneCell']) ?_ ?_; rotate_left; ((try rw [Lx.strs_length, HL.out]); simp only [List.length_cons, List.length_nil]; omega); intro v3 w3 hown3 hg3 hn3)
                          | fail)
                        go_roundw
                        case rel => exact ⟨k + 1, j + 1 + z, acc ++ [s], by omega, by go_num, by go_num, by omega, by omega, hid (by rw [List.length_append, HL.out]; rfl), hid (HP.out.trans (congrArg _ HF.out)), by rw [strs_snoc]; exact hown3, hn3⟩
                        case measure => (simp [intOf] <;> omega)
                    · rw [Bool.not_eq_true] at h1
                      have HF := hid (HF4.out (Or.inl h1))
                      clear HF4 HF5
                      go_wp2_with (first
                        | (go_at_call 73; refine (HNM.out _).mono ?_; rintro e w1 ⟨rfl, hn1⟩)
                        | (go_at_call 56; refine (HCN.out _ (by repeat (first | assumption | exact Nw.refl _ | refine Nw.alloc ?_ _ | refine Nw.drew ?_ | refine Nw.drewN2 ?_ _ | (refine Nw.trans ?_ (by assumption))))).mono ?_; rintro e w2 ⟨rfl, hn2⟩)
                        | fail)
                      go_ret3
                      exact HandsHd.no HF.out (hn.trans hn1)
            · have hd5 : decide ((b.length : Int) ≤ j) = true := decide_eq_true (by omega)
              have HF := hid (HP.out.trans (rgo_1 (by decide) (by omega)))
              go_wp2
              go_ret3
              exact HandsHd.no HF.out hn
          · obtain rfl : k = c := by omega
            have hdk : decide ((k : Int) < k) = false := decide_eq_false (by omega)
            rw [Nat.sub_self] at HP
            have HQ := hid (show headR b 10 = if b.length < j + 4 then noHd 10 else headE b acc j from HP.out.trans finR_0)
            clear HP
            by_cases h7 : b.length < j + 4
            · have hd7 : decide ((b.length : Int) < j + 4) = true := decide_eq_true (by omega)
              have HF := hid (HQ.out.trans (if_pos h7))
              go_wp2
              go_ret3
              exact HandsHd.no HF.out hn
            · have hd7 : decide ((b.length : Int) < j + 4) = false := decide_eq_false (by omega)
              have HRI := hid (fun w' (h : Nw wr w') => Sum.rright_c _ _ w' ((bytes_front (HC.out.nw hn) hcap hmx' (fun h => by cases h) (j + 4) (by omega)).nw h) (by rw [List.length_take]; omega))
              have HF := hid ((HQ.out.trans (if_neg h7)).trans (show headE b acc j = if (right (b.take (j + 4))).isSome = true then (acc, (j : Int) + 4, 0) else noHd 5 from rfl))
              have hsl := hown.sl
              clear hown HQ
              generalize b.take (j + 4) = bj at *
              have hj4 : j + 4 ≤ cap := by omega
              cases hG : (right bj).isSome with
              | true =>
                rw [hG] at HF
                go_wp2_with (first
                  | (go_at_call 74; refine (HRI.out _ (by repeat (first | assumption | exact Nw.refl _ | refine Nw.alloc ?_ _ | refine Nw.drew ?_ | refine Nw.drewN2 ?_ _ | (refine Nw.trans ?_ (by assumption))))).mono ?_; rintro e w2 ⟨v2, rfl, hb2, hn2⟩; rw [hG]; clear hb2)
                  | fail)
                go_ret3
                exact HandsHd.yes (HF.out.trans (if_pos (by trivial))) (hsl.nw hn2) (hn.trans hn2)
              | false =>
                rw [hG] at HF
                go_wp2_with (first
                  | (go_at_call 74; refine (HRI.out _ (by repeat (first | assumption | exact Nw.refl _ | refine Nw.alloc ?_ _ | refine Nw.drew ?_ | refine Nw.drewN2 ?_ _ | (refine Nw.trans ?_ (by assumption))))).mono ?_; rintro e w2 ⟨v2, rfl, hb2, hn2⟩; rw [hG]; clear hb2)
                  | fail)
                go_ret3
                exact HandsHd.no (HF.out.trans (if_neg (by decide))) (hn.trans hn2)
    · have hst := HM2.out hm
      have hd3 : ¬ st.toList = [87, 71, 76, 1] := toList_ne hst
      go_enter Try.func41, Try.ntmps41
      go_wp2
      go_ret3
      exact HandsHd.no (HNc.out (Or.inl hm)) (by repeat (first | assumption | exact Nw.refl _ | refine Nw.alloc ?_ _ | refine Nw.drew ?_ | refine Nw.drewN2 ?_ _ | (refine Nw.trans ?_ (by assumption))))

end Lg
end Go.Proofs.Ytdihoedehmfgfaa
