/- The contracts of log.Encode and watchglassref8.Encode. No condition but lengths, and that times are none below 0. -/
import Derived.Test.YtdihoedehmfgfaaLogB
set_option linter.unusedSimpArgs false
set_option linter.unusedVariables false
namespace Go.Proofs.Ytdihoedehmfgfaa
open Go.ChangeShapes Go.WideShapes Go.ChangeAt Go.RowKit
namespace Lg
open Go.Proofs.Ytdihoedehmfgfaa.Lx (isIn nameB strs strs_open strs_cell)
open Go.Proofs.Ytdihoedehmfgfaa.Rec (rises rec_ get putE rec_len put_len i64s_open i64_cell)
open Go.Proofs.Ytdihoedehmfgfaa.Sum (byte put right Hands8)
open Go.Proofs.Ytdihoedehmfgfaa.Tr (T Es tm ids mayP namesP nmB nOk namesTo Evs EC Small may_c rmay_c box2 lt_alloc)
/-- Times are numbers of 64 bits. -/
def Tb (es : Es) : Prop := ∀ i, i < es.length → 0 ≤ tm es i ∧ tm es i < 18446744073709551616
theorem may_ids {t : T} (h : mayP t = true) (i : Nat) (hi : i < t.evs.length) : rises (ids t.evs i) 64 = true := by
  have h64 := names_le (may_names h)
  exact Rec.rises_mono (Tr.may_rises h i hi) (by omega)
theorem enc_small (t : T) (h : mayP t = true) (k : Nat) : (headerP t.names ++ recsX (t.evs.take k)).length ≤ 2000 + 78 * t.evs.length := by
  have h64 := names_le (may_names h)
  have h1 := head_len t.names (names_small (may_names h))
  have h2 := recs_len (t.evs.take k) (fun i hi => by
    rw [List.length_take] at hi
    rw [Tr.ids_take _ _ _ (by omega)]
    have := Rec.rises_len (by decide) (may_ids h i (by omega))
    omega)
  have h3 : (t.evs.take k).length ≤ t.evs.length := by rw [List.length_take]; omega
  rw [List.length_append]
  unfold headerP
  rw [put_len]
  omega
set_option maxRecDepth 20000 in
set_option maxHeartbeats 1600000 in
theorem encode_c (vn ve : Value) (t : T) (w : World) (hvn : Sl w vn (strs t.names)) (hve : Evs w ve t.evs) (hsm : Small t) (hlen : t.evs.length ≤ 10000000) (htb : Tb t.evs) :
    Calls Try.prog 20 #[.agg #[vn, ve]] w (Hands8 w (encP t)) := by
  have HMY := hid (fun w' (h : Nw w w') => may_c vn ve t w' (hvn.nw h) (hve.nw h) hsm.s)
  have HHD := hid (fun w' (h : Nw w w') hl hs => header_c vn t.names w' (hvn.nw h) hl hs)
  have HSI := hid hsm.i
  obtain ⟨pn, kn, rfl, _, _, _, _⟩ := strs_open hvn
  obtain ⟨p, cap, rfl, hcap, hmx, _, hec⟩ := hve
  have HE := hid hec
  clear hvn hsm hec
  generalize hM : mayP t = m at *
  have HEN := hid (show encP t = if m = true then headerP t.names ++ recsX t.evs else [] by rw [← hM]; rfl)
  have HMM := hid hM
  clear hM
  go_enter Try.func20, Try.ntmps20
  go_upto_region 1 with fail
  obtain ⟨x0, x1⟩ := box2 w (.slice pn t.names.length kn) (.slice p t.evs.length cap) 34
  have hn := (Nw.refl w).alloc (.cells #[.slice pn t.names.length kn, .slice p t.evs.length cap] 34)
  have hz := lt_alloc w (.cells #[.slice pn t.names.length kn, .slice p t.evs.length cap] 34)
  generalize w.alloc (.cells #[.slice pn t.names.length kn, .slice p t.evs.length cap] 34) = w0 at *
  cases m with
  | false =>
    go_wp2_with (first
      | (go_at_call 48; refine (HMY.out _ (by repeat (first | assumption | exact Nw.refl _ | refine Nw.alloc ?_ _ | refine Nw.drew ?_ | refine Nw.drewN2 ?_ _ | (refine Nw.trans ?_ (by assumption))))).mono ?_; rintro e w1 ⟨rfl, hn1⟩)
      | fail)
    go_ret
    exact hands_own (Own.nil _ _ _) (by rw [HEN.out]; rfl) (by repeat (first | assumption | exact Nw.refl _ | refine Nw.alloc ?_ _ | refine Nw.drew ?_ | refine Nw.drewN2 ?_ _ | (refine Nw.trans ?_ (by assumption))))
  | true =>
    have HSM := hid (enc_small t HMM.out)
    have HRI := hid (may_ids HMM.out)
    have HNL := hid (names_le (may_names HMM.out))
    have HNS := hid (names_small (may_names HMM.out))
    have HEN2 := hid (HEN.out.trans (if_pos rfl))
    clear HEN
    obtain ⟨names, es⟩ := t
    dsimp only at *
    go_upto_region 4 with (first
      | (go_at_call 48; refine (HMY.out _ (by repeat (first | assumption | exact Nw.refl _ | refine Nw.alloc ?_ _ | refine Nw.drew ?_ | refine Nw.drewN2 ?_ _ | (refine Nw.trans ?_ (by assumption))))).mono ?_; rintro e w1 ⟨rfl, hn1⟩; replace x0 := hn1.cell x0; replace x1 := hn1.cell x1)
      | (go_at_call 49; refine (HHD.out _ (by repeat (first | assumption | exact Nw.refl _ | refine Nw.alloc ?_ _ | refine Nw.drew ?_ | refine Nw.drewN2 ?_ _ | (refine Nw.trans ?_ (by assumption)))) HNL.out HNS.out).mono ?_; rintro e w2 ⟨v2, rfl, hown2, hn2⟩; replace x1 := hn2.cell x1)
      | fail)
    have hw2 : Nw w w2 := hn.trans (hn1.trans hn2)
    have hown := Own.mono hown2 (Nat.le_trans hn.size hn1.size)
    clear hown2
    go_wp2
    go_loopw [3, 5, 15] (fun r _ i wr => ∃ k : Nat, k ≤ es.length ∧ i = .int .i64 k ∧ Own wr w.heap.size 5 r (u8s (headerP names ++ recsX (es.take k))) ∧ Nw w wr) (fun _ _ i _ => es.length - (intOf i).toNat)
    case atStart => exact ⟨0, Nat.zero_le _, rfl, by rw [List.take_zero]; simpa [recsX] using hown, hw2⟩
    case round =>
      clear hown x0 x1
      obtain ⟨k, hk, rfl, hown, hnr⟩ := hrel
      have hsm := HSM.out k
      by_cases hlt : k < es.length
      · have hdk : decide (k < es.length) = true := decide_eq_true hlt
        obtain ⟨b1, o1, vi, rfl, c0, c1, hsl⟩ := (HE.out.nw hnr) k hlt
        obtain ⟨q, c, rfl, hcq, hmq, _, _⟩ := i64s_open hsl
        have hli := HSI.out k hlt
        have hri := HRI.out k hlt
        obtain ⟨ht0, ht1⟩ := htb k hlt
        have HT := hid (recs_snoc es k hlt)
        have hr64 := Rec.rises_len (by decide) hri
        generalize ids es k = l at *
        generalize tm es k = tk at *
        generalize headerP names = H at *
        generalize recsX (es.take k) = R at *
        go_upto_region 7 with fail
        obtain ⟨z0, z1⟩ := box2 wr (.int .u64 tk) (.slice q l.length c) 38
        have hnz := (Nw.refl wr).alloc (.cells #[.int .u64 tk, .slice q l.length c] 38)
        have hsz := hsl.nw hnz
        have hoz := Own.nw hown hnz
        replace hnz := hnr.trans hnz
        clear c0 c1 hsl hown
        generalize wr.alloc (.cells #[.int .u64 tk, .slice q l.length c] 38) = wz at *
        go_wp2_with (first
          | (go_at_call 50; refine (Rec.put_c _ _ [] tk l _ (Bytes.nil _) (hsz.nw (by repeat (first | assumption | exact Nw.refl _ | refine Nw.alloc ?_ _ | refine Nw.drew ?_ | refine Nw.drewN2 ?_ _ | (refine Nw.trans ?_ (by assumption))))) ht0 ht1 (by simp)).mono ?_; rintro e w4 ⟨v4, rfl, hown4, hn4⟩; rw [Rec.putE_yes hri, List.nil_append] at hown4)
          | (at_builtin; refine app1 rfl _ _ _ rfl _ _ _ Try.underlying22 info_u8 rfl (by decide) (hnz.trans hn4) (hoz.nw hn4) rfl (hown4.sl) rfl (u8s_one _) ?_ ?_; rotate_left; (simp only [u8s_length, List.length_append, rec_len] at *; omega); intro v5 w5 hown5 hg5 hn5)
          | fail)
        go_roundw
        case rel => exact ⟨k + 1, by omega, by go_num, by rw [HT.out, ← List.append_assoc]; simpa [u8s] using hown5, hn5⟩
        case measure => (simp [intOf] <;> omega)
      · obtain rfl : k = es.length := by omega
        have hdk : decide (es.length < es.length) = false := decide_eq_false (by omega)
        rw [List.take_length] at hown
        go_wp2
        go_ret
        exact hands_own hown (by rw [HEN2.out]) hnr

set_option maxRecDepth 20000 in
set_option maxHeartbeats 1600000 in
theorem rencode_c (vn ve : Value) (t : T) (w : World) (hvn : Sl w vn (strs t.names)) (hve : Evs w ve t.evs) (hsm : Small t) (hlen : t.evs.length ≤ 10000000) (htb : Tb t.evs) :
    Calls Try.prog 17 #[.agg #[vn, ve]] w (Hands8 w (encP t)) := by
  have HMY := hid (fun w' (h : Nw w w') => rmay_c vn ve t w' (hvn.nw h) (hve.nw h) hsm.s)
  have HHD := hid (fun w' (h : Nw w w') hl hs => rheader_c vn t.names w' (hvn.nw h) hl hs)
  have HSI := hid hsm.i
  obtain ⟨pn, kn, rfl, _, _, _, _⟩ := strs_open hvn
  obtain ⟨p, cap, rfl, hcap, hmx, _, hec⟩ := hve
  have HE := hid hec
  clear hvn hsm hec
  generalize hM : mayP t = m at *
  have HEN := hid (show encP t = if m = true then headerP t.names ++ recsX t.evs else [] by rw [← hM]; rfl)
  have HMM := hid hM
  clear hM
  go_enter Try.func17, Try.ntmps17
  go_upto_region 1 with fail
  obtain ⟨x0, x1⟩ := box2 w (.slice pn t.names.length kn) (.slice p t.evs.length cap) 34
  have hn := (Nw.refl w).alloc (.cells #[.slice pn t.names.length kn, .slice p t.evs.length cap] 34)
  have hz := lt_alloc w (.cells #[.slice pn t.names.length kn, .slice p t.evs.length cap] 34)
  generalize w.alloc (.cells #[.slice pn t.names.length kn, .slice p t.evs.length cap] 34) = w0 at *
  cases m with
  | false =>
    go_wp2_with (first
      | (go_at_call 43; refine (HMY.out _ (by repeat (first | assumption | exact Nw.refl _ | refine Nw.alloc ?_ _ | refine Nw.drew ?_ | refine Nw.drewN2 ?_ _ | (refine Nw.trans ?_ (by assumption))))).mono ?_; rintro e w1 ⟨rfl, hn1⟩)
      | fail)
    go_ret
    exact hands_own (Own.nil _ _ _) (by rw [HEN.out]; rfl) (by repeat (first | assumption | exact Nw.refl _ | refine Nw.alloc ?_ _ | refine Nw.drew ?_ | refine Nw.drewN2 ?_ _ | (refine Nw.trans ?_ (by assumption))))
  | true =>
    have HSM := hid (enc_small t HMM.out)
    have HRI := hid (may_ids HMM.out)
    have HNL := hid (names_le (may_names HMM.out))
    have HNS := hid (names_small (may_names HMM.out))
    have HEN2 := hid (HEN.out.trans (if_pos rfl))
    clear HEN
    obtain ⟨names, es⟩ := t
    dsimp only at *
    go_upto_region 4 with (first
      | (go_at_call 43; refine (HMY.out _ (by repeat (first | assumption | exact Nw.refl _ | refine Nw.alloc ?_ _ | refine Nw.drew ?_ | refine Nw.drewN2 ?_ _ | (refine Nw.trans ?_ (by assumption))))).mono ?_; rintro e w1 ⟨rfl, hn1⟩; replace x0 := hn1.cell x0; replace x1 := hn1.cell x1)
      | (go_at_call 44; refine (HHD.out _ (by repeat (first | assumption | exact Nw.refl _ | refine Nw.alloc ?_ _ | refine Nw.drew ?_ | refine Nw.drewN2 ?_ _ | (refine Nw.trans ?_ (by assumption)))) HNL.out HNS.out).mono ?_; rintro e w2 ⟨v2, rfl, hown2, hn2⟩; replace x1 := hn2.cell x1)
      | fail)
    have hw2 : Nw w w2 := hn.trans (hn1.trans hn2)
    have hown := Own.mono hown2 (Nat.le_trans hn.size hn1.size)
    clear hown2
    go_wp2
    go_loopw [3, 5, 15] (fun r _ i wr => ∃ k : Nat, k ≤ es.length ∧ i = .int .i64 k ∧ Own wr w.heap.size 5 r (u8s (headerP names ++ recsX (es.take k))) ∧ Nw w wr) (fun _ _ i _ => es.length - (intOf i).toNat)
    case atStart => exact ⟨0, Nat.zero_le _, rfl, by rw [List.take_zero]; simpa [recsX] using hown, hw2⟩
    case round =>
      clear hown x0 x1
      obtain ⟨k, hk, rfl, hown, hnr⟩ := hrel
      have hsm := HSM.out k
      by_cases hlt : k < es.length
      · have hdk : decide (k < es.length) = true := decide_eq_true hlt
        obtain ⟨b1, o1, vi, rfl, c0, c1, hsl⟩ := (HE.out.nw hnr) k hlt
        obtain ⟨q, c, rfl, hcq, hmq, _, _⟩ := i64s_open hsl
        have hli := HSI.out k hlt
        have hri := HRI.out k hlt
        obtain ⟨ht0, ht1⟩ := htb k hlt
        have HT := hid (recs_snoc es k hlt)
        have hr64 := Rec.rises_len (by decide) hri
        generalize ids es k = l at *
        generalize tm es k = tk at *
        generalize headerP names = H at *
        generalize recsX (es.take k) = R at *
        go_upto_region 7 with fail
        obtain ⟨z0, z1⟩ := box2 wr (.int .u64 tk) (.slice q l.length c) 38
        have hnz := (Nw.refl wr).alloc (.cells #[.int .u64 tk, .slice q l.length c] 38)
        have hsz := hsl.nw hnz
        have hoz := Own.nw hown hnz
        replace hnz := hnr.trans hnz
        clear c0 c1 hsl hown
        generalize wr.alloc (.cells #[.int .u64 tk, .slice q l.length c] 38) = wz at *
        go_wp2_with (first
          | (go_at_call 45; refine (Rec.rput_c _ _ (H ++ R) tk l _ (Own.sl (hoz.nw (by repeat (first | assumption | exact Nw.refl _ | refine Nw.alloc ?_ _ | refine Nw.drew ?_ | refine Nw.drewN2 ?_ _ | (refine Nw.trans ?_ (by assumption)))))) (hsz.nw (by repeat (first | assumption | exact Nw.refl _ | refine Nw.alloc ?_ _ | refine Nw.drew ?_ | refine Nw.drewN2 ?_ _ | (refine Nw.trans ?_ (by assumption))))) ht0 ht1 (by omega)).mono ?_; rintro e w4 ⟨v4, rfl, hown4, hn4⟩; rw [Rec.putE_yes hri] at hown4)
          | fail)
        go_roundw
        case rel => exact ⟨k + 1, by omega, by go_num, by rw [HT.out, ← List.append_assoc]; exact Own.mono hown4 hnz.size, hnz.trans hn4⟩
        case measure => (simp [intOf] <;> omega)
      · obtain rfl : k = es.length := by omega
        have hdk : decide (es.length < es.length) = false := decide_eq_false (by omega)
        rw [List.take_length] at hown
        go_wp2
        go_ret
        exact hands_own hown (by rw [HEN2.out]) hnr

end Lg
end Go.Proofs.Ytdihoedehmfgfaa
