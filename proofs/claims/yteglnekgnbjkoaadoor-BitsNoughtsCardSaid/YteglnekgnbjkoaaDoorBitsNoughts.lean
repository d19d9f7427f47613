/- BitsNoughts walked: for any two sets, noughts behind them, any number it returns true. -/
import Derived.Test.YteglnekgnbjkoaaDoorBitsLaws
import Derived.Test.YteglnekgnbjkoaaDoorAppZ
namespace Go.Proofs.YteglnekgnbjkoaaDoor
open Go.ChangeShapes Go.WideShapes Go.ChangeAt Go.RowKit
namespace Words
theorem wd_pad (a : List Wd) (k i : Nat) : wd (a ++ List.replicate k 0) i = wd a i := by
  by_cases h : i < a.length
  · simp [wd, List.getD_eq_getElem?_getD, List.getElem?_append_left h]
  · have e : wd (a ++ List.replicate k 0) i = wd (List.replicate k 0) (i - a.length) := by
      simp only [wd, List.getD_eq_getElem?_getD]
      rw [List.getElem?_append_right (by omega)]
    rw [e, wd_noughts, wd_ge a i (by omega)]
theorem ws_pad (a : List Wd) (k : Nat) : ws (a ++ List.replicate k 0) = [] ++ ws a ++ List.replicate k (.int .u64 0) := by simp [ws, wv]
/-- What the four results are, as the loop reads them. -/
def Told (w : World) (g : Nat) (k : Nat) : Prop := ∃ p c, ∃ s : List Wd, w.cell? ⟨g, k, none⟩ = some (.slice p s.length c) ∧ Set w (.slice p s.length c) s ∧ trim s = s
theorem Told.nw {w w' : World} {g k : Nat} (h : Told w g k) (hn : Nw w w') : Told w' g k := by
  obtain ⟨p, c, s, h1, h2, h3⟩ := h
  exact ⟨p, c, s, hn.cell h1, h2.nw hn, h3⟩
theorem told_new {w : World} {p0 p1 p2 p3 : Option Addr} {c0 c1 c2 c3 : Nat} {s0 s1 s2 s3 : List Wd} {e : TypeId} {vs : Array Value} {w' : World} (hvs : vs = #[.slice p0 s0.length c0, .slice p1 s1.length c1, .slice p2 s2.length c2, .slice p3 s3.length c3])
    (hw : w' = w.alloc (.cells vs e)) (h0 : Set w (.slice p0 s0.length c0) s0) (h1 : Set w (.slice p1 s1.length c1) s1) (h2 : Set w (.slice p2 s2.length c2) s2) (h3 : Set w (.slice p3 s3.length c3) s3)
    (t0 : trim s0 = s0) (t1 : trim s1 = s1) (t2 : trim s2 = s2) (t3 : trim s3 = s3) : ∀ k, k < 4 → Told w' w.heap.size k := by
  subst hvs hw
  intro k hk
  have hc := fun i (h : i < 4) => cell_new w #[Value.slice p0 s0.length c0, .slice p1 s1.length c1, .slice p2 s2.length c2, .slice p3 s3.length c3] e (0, 0) i h
  simp only [Nat.zero_add] at hc
  have hn : Nw w (w.alloc (.cells #[Value.slice p0 s0.length c0, .slice p1 s1.length c1, .slice p2 s2.length c2, .slice p3 s3.length c3] e)) := (Nw.refl w).alloc _
  match k, hk with
  | 0, _ => exact ⟨p0, c0, s0, hc 0 (by decide), h0.nw hn, t0⟩
  | 1, _ => exact ⟨p1, c1, s1, hc 1 (by decide), h1.nw hn, t1⟩
  | 2, _ => exact ⟨p2, c2, s2, hc 2 (by decide), h2.nw hn, t2⟩
  | 3, _ => exact ⟨p3, c3, s3, hc 3 (by decide), h3.nw hn, t3⟩
set_option maxRecDepth 20000 in
set_option maxHeartbeats 16000000 in
theorem noughts_walk (u v : Value) (a b : List Wd) (m : Nat) (n : Int) (w : World) (ht : Tz w) (hu : Set w u a) (hv : Set w v b) (hm : m ≤ 255) (hn1 : -9223372036854775808 ≤ n) (hn2 : n ≤ 9223372036854775807) :
    Calls Tryd.prog 7 #[u, v, .int .u8 (m : Int), .int .i64 n] w (Gives (.bool true) w) := by
  obtain ⟨p, cap, rfl, hcap, hmx, _, _⟩ := hu.open
  obtain ⟨p2, cap2, rfl, hcap2, hmx2, _, _⟩ := hv.open
  unfold maxLen at hmx hmx2
  by_cases hl : a.length ≤ 60
  · have hd : decide ((60 : Int) < a.length) = false := decide_eq_false (by omega)
    by_cases hs : b.length ≤ 60
    · have hd2 : decide ((60 : Int) < b.length) = false := decide_eq_false (by omega)
      have HA : Small a := Nat.le_trans hl (by decide)
      have HB : Small b := Nat.le_trans hs (by decide)
      obtain ⟨c, hc⟩ : ∃ c, c = a ++ List.replicate (m % 5) 0 := ⟨_, rfl⟩
      obtain ⟨d, hdd⟩ : ∃ d, d = b ++ List.replicate (m / 5 % 5) 0 := ⟨_, rfl⟩
      have hwc : ∀ i, wd c i = wd a i := fun i => by rw [hc]; exact wd_pad a _ i
      have hwd : ∀ i, wd d i = wd b i := fun i => by rw [hdd]; exact wd_pad b _ i
      have HC : Small c := by rw [hc]; unfold Small; simp; omega
      have HD : Small d := by rw [hdd]; unfold Small; simp; omega
      have h1 : decide (or a b = or c d) = true := decide_eq_true (ext (or_trim _ _) (or_trim _ _) fun i => by rw [wd_or, wd_or, hwc, hwd])
      have h2 : decide (and a b = and c d) = true := decide_eq_true (ext (and_trim _ _) (and_trim _ _) fun i => by rw [wd_and, wd_and, hwc, hwd])
      have h3 : decide (less a b = less c d) = true := decide_eq_true (ext (less_trim _ _) (less_trim _ _) fun i => by rw [wd_less, wd_less, hwc, hwd])
      have h4 : decide (cut a n = cut c n) = true := decide_eq_true (ext (cut_trim _ _) (cut_trim _ _) fun i => by rw [wd_cut, wd_cut, hwc])
      have h5 : same a c = true := same_yes fun i => (hwc i).symm
      have h6 : within c a = true := (within_iff c a).2 fun i => by rw [hwc]; exact BitVec.and_not_self _
      have h7 : ((count a : Int) == (count c : Int)) = true := by rw [count_ext hwc]; exact beq_self_eq_true _
      have t0 := or_trim c d
      have t1 := and_trim c d
      have t2 := less_trim c d
      have t3 := cut_trim c n
      have HP := hid (ws_pad a (m % 5))
      have HP2 := hid (ws_pad b (m / 5 % 5))
      rw [← hc] at HP
      rw [← hdd] at HP2
      clear hwc hwd hc hdd
      have HT := hid (And.intro t0 (And.intro t1 (And.intro t2 t3)))
      clear t0 t1 t2 t3
      go_enter Tryd.func7, Tryd.ntmps7
      go_wp2_with (first
        | (at_builtin; refine app1 rfl _ _ _ rfl _ _ _ Tryd.underlying23 info_u64 rfl (by decide) ((Nw.refl w).alloc _) (Own.new w _ _ [] (Nat.le_refl _) (Nat.zero_le _)) rfl (Set.nw hu ((Nw.refl w).alloc _)) rfl (ws_one _) ?_ ?_; rotate_left; (simp only [ws_length, List.length_nil]; omega); intro v1 w1 hown1 hg1 hn1)
        | (at_builtin; refine app0 rfl _ _ _ _ _ rfl _ _ _ Tryd.underlying23 Tryd.underlying3 info_u64 rfl rfl (by decide) hn1 hown1 rfl (m % 5) rfl ?_ ?_ ?_; rotate_left; omega; (simp [ws]; omega); (intro v2 w2 hown2 hn2; rw [← HP.out] at hown2; clear hown1; obtain ⟨p3, c3, rfl, _⟩ := Set.open (s := c) hown2.sl))
        | (at_builtin; refine app1 rfl _ _ _ rfl _ _ _ Tryd.underlying23 info_u64 rfl (by decide) ((Nw.refl w2).alloc _) ((Own.new w2 _ _ [] (Nat.le_refl _) (Nat.zero_le _))) rfl (Set.nw (Set.nw hv hn2) ((Nw.refl w2).alloc _)) rfl (ws_one _) ?_ ?_; rotate_left; (simp only [ws_length, List.length_nil]; omega); intro v3 w3 hown3 hg3 hn3)
        | (at_builtin; refine app0 rfl _ _ _ _ _ rfl _ _ _ Tryd.underlying23 Tryd.underlying3 info_u64 rfl rfl (by decide) hn3 hown3 rfl (m / 5 % 5) rfl ?_ ?_ ?_; rotate_left; omega; (simp [ws]; omega); (intro v4 w4 hown4 hn4; rw [← HP2.out] at hown4; clear hown3; obtain ⟨p4, c4, rfl, _⟩ := Set.open (s := d) hown4.sl))
        | (go_at_call 24; refine (or_c _ _ _ _ _ (Set.nw (s := c) hown2.sl (show Nw w2 w4 from (by repeat (first | assumption | exact Nw.refl _ | refine Nw.alloc ?_ _ | refine Nw.drew ?_ | refine Nw.drewN2 ?_ _ | (refine Nw.trans ?_ (by assumption)))))) (show Set w4 _ d from hown4.sl) (small_le (by repeat (first | assumption | refine or_small ?_ ?_ | refine and_small ?_ ?_ | refine less_small ?_ | refine cut_small ?_ | exact of_small _))) (small_le (by repeat (first | assumption | refine or_small ?_ ?_ | refine and_small ?_ ?_ | refine less_small ?_ | refine cut_small ?_ | exact of_small _)))).mono ?_; rintro e w5 ⟨v5, rfl, hs5, hf5, hn5⟩; obtain ⟨p5, c5, rfl, _⟩ := hs5.open)
        | (go_at_call 26; refine (and_c _ _ _ _ _ (Set.nw (s := c) hown2.sl (show Nw w2 w5 from (by repeat (first | assumption | exact Nw.refl _ | refine Nw.alloc ?_ _ | refine Nw.drew ?_ | refine Nw.drewN2 ?_ _ | (refine Nw.trans ?_ (by assumption)))))) (Set.nw (s := d) hown4.sl hn5) (small_le (by repeat (first | assumption | refine or_small ?_ ?_ | refine and_small ?_ ?_ | refine less_small ?_ | refine cut_small ?_ | exact of_small _))) (small_le (by repeat (first | assumption | refine or_small ?_ ?_ | refine and_small ?_ ?_ | refine less_small ?_ | refine cut_small ?_ | exact of_small _)))).mono ?_; rintro e w6 ⟨v6, rfl, hs6, hf6, hn6⟩; obtain ⟨p6, c6, rfl, _⟩ := hs6.open)
        | (go_at_call 28; refine (less_c _ _ _ _ _ (Set.nw (s := c) hown2.sl (show Nw w2 w6 from (by repeat (first | assumption | exact Nw.refl _ | refine Nw.alloc ?_ _ | refine Nw.drew ?_ | refine Nw.drewN2 ?_ _ | (refine Nw.trans ?_ (by assumption)))))) (Set.nw (s := d) hown4.sl (hn5.trans hn6)) (small_le (by repeat (first | assumption | refine or_small ?_ ?_ | refine and_small ?_ ?_ | refine less_small ?_ | refine cut_small ?_ | exact of_small _))) (small_le (by repeat (first | assumption | refine or_small ?_ ?_ | refine and_small ?_ ?_ | refine less_small ?_ | refine cut_small ?_ | exact of_small _)))).mono ?_; rintro e w7 ⟨v7, rfl, hs7, hf7, hn7⟩; obtain ⟨p7, c7, rfl, _⟩ := hs7.open)
        | (go_at_call 31; refine (cut_c _ _ _ _ (Set.nw (s := c) hown2.sl (show Nw w2 w7 from (by repeat (first | assumption | exact Nw.refl _ | refine Nw.alloc ?_ _ | refine Nw.drew ?_ | refine Nw.drewN2 ?_ _ | (refine Nw.trans ?_ (by assumption)))))) (small_le (by repeat (first | assumption | refine or_small ?_ ?_ | refine and_small ?_ ?_ | refine less_small ?_ | refine cut_small ?_ | exact of_small _))) (by omega)).mono ?_; rintro e w8 ⟨v8, rfl, hs8, hf8, hn8⟩; obtain ⟨p8, c8, rfl, _⟩ := hs8.open))
      have hT := told_new rfl rfl (hs5.nw (by repeat (first | assumption | exact Nw.refl _ | refine Nw.alloc ?_ _ | refine Nw.drew ?_ | refine Nw.drewN2 ?_ _ | (refine Nw.trans ?_ (by assumption))))) (hs6.nw (by repeat (first | assumption | exact Nw.refl _ | refine Nw.alloc ?_ _ | refine Nw.drew ?_ | refine Nw.drewN2 ?_ _ | (refine Nw.trans ?_ (by assumption))))) (hs7.nw (by repeat (first | assumption | exact Nw.refl _ | refine Nw.alloc ?_ _ | refine Nw.drew ?_ | refine Nw.drewN2 ?_ _ | (refine Nw.trans ?_ (by assumption))))) hs8 HT.out.1 HT.out.2.1 HT.out.2.2.1 HT.out.2.2.2 (w := w8) (e := 23)
      have hcc : Set w8 (.slice p3 c.length c3) c := Set.nw (s := c) hown2.sl (show Nw w2 w8 from (by repeat (first | assumption | exact Nw.refl _ | refine Nw.alloc ?_ _ | refine Nw.drew ?_ | refine Nw.drewN2 ?_ _ | (refine Nw.trans ?_ (by assumption)))))
      have hdd : Set w8 (.slice p4 d.length c4) d := Set.nw (s := d) hown4.sl (show Nw w4 w8 from (by repeat (first | assumption | exact Nw.refl _ | refine Nw.alloc ?_ _ | refine Nw.drew ?_ | refine Nw.drewN2 ?_ _ | (refine Nw.trans ?_ (by assumption)))))
      have hw8 : Nw w w8 := (by repeat (first | assumption | exact Nw.refl _ | refine Nw.alloc ?_ _ | refine Nw.drew ?_ | refine Nw.drewN2 ?_ _ | (refine Nw.trans ?_ (by assumption))))
      have hu8 := hu.nw hw8
      have hv8 := hv.nw hw8
      have HTo := hid hT
      have hg8 : w8.heap.size < (w8.alloc (.cells #[Value.slice p5 (or c d).length c5, .slice p6 (and c d).length c6, .slice p7 (less c d).length c7, .slice p8 (cut c n).length c8] 23)).heap.size := by simp
      have hn9 : Nw w8 (w8.alloc (.cells #[Value.slice p5 (or c d).length c5, .slice p6 (and c d).length c6, .slice p7 (less c d).length c7, .slice p8 (cut c n).length c8] 23)) := (Nw.refl w8).alloc _
      have htz := ht.nw hw8
      clear hs5 hs6 hs7 hs8 hown2 hown4 hT hu hv hg1 hg3 HP HP2 HT
      generalize hW9 : w8.alloc (.cells #[Value.slice p5 (or c d).length c5, .slice p6 (and c d).length c6, .slice p7 (less c d).length c7, .slice p8 (cut c n).length c8] 23) = w9 at *
      have hdc : decide ((0 : Int) < 4) = true := rfl
      go_loopw [12, 51] (fun _ i wr => ∃ k : Nat, k ≤ 4 ∧ i = .int .i64 k ∧ Nw w9 wr) (fun _ i _ => 4 - (intOf i).toNat)
      case atStart => exact ⟨0, by omega, rfl, Nw.refl _⟩
      case round =>
        obtain ⟨k, hk, rfl, hnr⟩ := hrel
        by_cases hlt : k < 4
        · have hdk : decide ((k : Int) < 4) = true := decide_eq_true (by omega)
          obtain ⟨ps, cs, s, hcell, hset, htr⟩ := (HTo.out k hlt).nw hnr
          have hcan := (trim_canon s).1 htr
          obtain ⟨_, _, e, hcs, hms, _, hcl⟩ := hset.open
          cases e
          unfold maxLen at hms
          by_cases hs0 : s.length = 0
          · have hz : decide ((0 : Int) < s.length) = false := decide_eq_false (by omega)
            clear hcan hcl
            go_wp2
            go_roundw
            case rel => exact ⟨k + 1, by omega, by go_num, hnr⟩
            case measure => simp [intOf]; omega
          · have hz : decide ((0 : Int) < s.length) = true := decide_eq_true (by omega)
            obtain ⟨bs, os, rfl, hcell2⟩ := ws_cell hcl (s.length - 1) (by omega)
            have hne : wd s (s.length - 1) ≠ 0 := by
              rcases hcan with h | h
              · rw [h] at hs0; exact absurd rfl hs0
              · exact h
            have hlast : (((wd s (s.length - 1)).toNat : Int) == 0) = false := beq_eq_false_iff_ne.2 (fun h => hne (wd_zero_iff.1 h))
            have ek : ((s.length : Int) - 1).toNat = s.length - 1 := by omega
            clear hcan hcl
            generalize wd s (s.length - 1) = x at *
            go_wp2
            go_roundw
            case rel => exact ⟨k + 1, by omega, by go_num, hnr⟩
            case measure => simp [intOf]; omega
        · obtain rfl : k = 4 := by omega
          have hdk : decide ((4 : Int) < 4) = false := rfl
          have hw : Nw w8 wr := hn9.trans hnr
          have hcc2 := hcc.nw hw
          have hdd2 := hdd.nw hw
          have hu2 := hu8.nw hw
          have hv2 := hv8.nw hw
          have ht := htz.nw hw
          clear hcc hdd hu8 hv8
          go_wp2_with (first
            | (go_at_call 24; refine (or_c _ _ _ _ _ (Set.nw (by assumption) (by repeat (first | assumption | exact Nw.refl _ | refine Nw.alloc ?_ _ | refine Nw.drew ?_ | refine Nw.drewN2 ?_ _ | (refine Nw.trans ?_ (by assumption))))) (Set.nw (by assumption) (by repeat (first | assumption | exact Nw.refl _ | refine Nw.alloc ?_ _ | refine Nw.drew ?_ | refine Nw.drewN2 ?_ _ | (refine Nw.trans ?_ (by assumption))))) (small_le (by repeat (first | assumption | refine or_small ?_ ?_ | refine and_small ?_ ?_ | refine less_small ?_ | refine cut_small ?_ | exact of_small _))) (small_le (by repeat (first | assumption | refine or_small ?_ ?_ | refine and_small ?_ ?_ | refine less_small ?_ | refine cut_small ?_ | exact of_small _)))).mono ?_; rintro e wB ⟨vB, rfl, hsB, hfB, hnB⟩; obtain ⟨pB, cB, rfl, _⟩ := hsB.open)
                    | (go_at_call 26; refine (and_c _ _ _ _ _ (Set.nw (by assumption) (by repeat (first | assumption | exact Nw.refl _ | refine Nw.alloc ?_ _ | refine Nw.drew ?_ | refine Nw.drewN2 ?_ _ | (refine Nw.trans ?_ (by assumption))))) (Set.nw (by assumption) (by repeat (first | assumption | exact Nw.refl _ | refine Nw.alloc ?_ _ | refine Nw.drew ?_ | refine Nw.drewN2 ?_ _ | (refine Nw.trans ?_ (by assumption))))) (small_le (by repeat (first | assumption | refine or_small ?_ ?_ | refine and_small ?_ ?_ | refine less_small ?_ | refine cut_small ?_ | exact of_small _))) (small_le (by repeat (first | assumption | refine or_small ?_ ?_ | refine and_small ?_ ?_ | refine less_small ?_ | refine cut_small ?_ | exact of_small _)))).mono ?_; rintro e wB ⟨vB, rfl, hsB, hfB, hnB⟩; obtain ⟨pB, cB, rfl, _⟩ := hsB.open)
                    | (go_at_call 28; refine (less_c _ _ _ _ _ (Set.nw (by assumption) (by repeat (first | assumption | exact Nw.refl _ | refine Nw.alloc ?_ _ | refine Nw.drew ?_ | refine Nw.drewN2 ?_ _ | (refine Nw.trans ?_ (by assumption))))) (Set.nw (by assumption) (by repeat (first | assumption | exact Nw.refl _ | refine Nw.alloc ?_ _ | refine Nw.drew ?_ | refine Nw.drewN2 ?_ _ | (refine Nw.trans ?_ (by assumption))))) (small_le (by repeat (first | assumption | refine or_small ?_ ?_ | refine and_small ?_ ?_ | refine less_small ?_ | refine cut_small ?_ | exact of_small _))) (small_le (by repeat (first | assumption | refine or_small ?_ ?_ | refine and_small ?_ ?_ | refine less_small ?_ | refine cut_small ?_ | exact of_small _)))).mono ?_; rintro e wB ⟨vB, rfl, hsB, hfB, hnB⟩; obtain ⟨pB, cB, rfl, _⟩ := hsB.open)
                    | (go_at_call 25; refine (ror_c _ _ _ _ _ (Set.nw (by assumption) (by repeat (first | assumption | exact Nw.refl _ | refine Nw.alloc ?_ _ | refine Nw.drew ?_ | refine Nw.drewN2 ?_ _ | (refine Nw.trans ?_ (by assumption))))) (Set.nw (by assumption) (by repeat (first | assumption | exact Nw.refl _ | refine Nw.alloc ?_ _ | refine Nw.drew ?_ | refine Nw.drewN2 ?_ _ | (refine Nw.trans ?_ (by assumption))))) (small_le (by repeat (first | assumption | refine or_small ?_ ?_ | refine and_small ?_ ?_ | refine less_small ?_ | refine cut_small ?_ | exact of_small _))) (small_le (by repeat (first | assumption | refine or_small ?_ ?_ | refine and_small ?_ ?_ | refine less_small ?_ | refine cut_small ?_ | exact of_small _)))).mono ?_; rintro e wB ⟨vB, rfl, hsB, hfB, hnB⟩; obtain ⟨pB, cB, rfl, _⟩ := hsB.open)
                    | (go_at_call 27; refine (rand_c _ _ _ _ _ (Set.nw (by assumption) (by repeat (first | assumption | exact Nw.refl _ | refine Nw.alloc ?_ _ | refine Nw.drew ?_ | refine Nw.drewN2 ?_ _ | (refine Nw.trans ?_ (by assumption))))) (Set.nw (by assumption) (by repeat (first | assumption | exact Nw.refl _ | refine Nw.alloc ?_ _ | refine Nw.drew ?_ | refine Nw.drewN2 ?_ _ | (refine Nw.trans ?_ (by assumption))))) (small_le (by repeat (first | assumption | refine or_small ?_ ?_ | refine and_small ?_ ?_ | refine less_small ?_ | refine cut_small ?_ | exact of_small _))) (small_le (by repeat (first | assumption | refine or_small ?_ ?_ | refine and_small ?_ ?_ | refine less_small ?_ | refine cut_small ?_ | exact of_small _)))).mono ?_; rintro e wB ⟨vB, rfl, hsB, hfB, hnB⟩; obtain ⟨pB, cB, rfl, _⟩ := hsB.open)
                    | (go_at_call 22; refine (rless_c _ _ _ _ _ (Set.nw (by assumption) (by repeat (first | assumption | exact Nw.refl _ | refine Nw.alloc ?_ _ | refine Nw.drew ?_ | refine Nw.drewN2 ?_ _ | (refine Nw.trans ?_ (by assumption))))) (Set.nw (by assumption) (by repeat (first | assumption | exact Nw.refl _ | refine Nw.alloc ?_ _ | refine Nw.drew ?_ | refine Nw.drewN2 ?_ _ | (refine Nw.trans ?_ (by assumption))))) (small_le (by repeat (first | assumption | refine or_small ?_ ?_ | refine and_small ?_ ?_ | refine less_small ?_ | refine cut_small ?_ | exact of_small _))) (small_le (by repeat (first | assumption | refine or_small ?_ ?_ | refine and_small ?_ ?_ | refine less_small ?_ | refine cut_small ?_ | exact of_small _)))).mono ?_; rintro e wB ⟨vB, rfl, hsB, hfB, hnB⟩; obtain ⟨pB, cB, rfl, _⟩ := hsB.open)
                    | (go_at_call 31; refine (cut_c _ _ _ _ (Set.nw (by assumption) (by repeat (first | assumption | exact Nw.refl _ | refine Nw.alloc ?_ _ | refine Nw.drew ?_ | refine Nw.drewN2 ?_ _ | (refine Nw.trans ?_ (by assumption))))) (small_le (by repeat (first | assumption | refine or_small ?_ ?_ | refine and_small ?_ ?_ | refine less_small ?_ | refine cut_small ?_ | exact of_small _))) (by omega)).mono ?_; rintro e wB ⟨vB, rfl, hsB, hfB, hnB⟩; obtain ⟨pB, cB, rfl, _⟩ := hsB.open)
                    | (go_at_call 32; refine (rcut_c _ _ _ _ (Set.nw (by assumption) (by repeat (first | assumption | exact Nw.refl _ | refine Nw.alloc ?_ _ | refine Nw.drew ?_ | refine Nw.drewN2 ?_ _ | (refine Nw.trans ?_ (by assumption))))) (small_le (by repeat (first | assumption | refine or_small ?_ ?_ | refine and_small ?_ ?_ | refine less_small ?_ | refine cut_small ?_ | exact of_small _))) (by omega)).mono ?_; rintro e wB ⟨vB, rfl, hsB, hfB, hnB⟩; obtain ⟨pB, cB, rfl, _⟩ := hsB.open)
                    | (go_at_call 23; refine (rtrim_c _ _ _ (Set.nw (by assumption) (by repeat (first | assumption | exact Nw.refl _ | refine Nw.alloc ?_ _ | refine Nw.drew ?_ | refine Nw.drewN2 ?_ _ | (refine Nw.trans ?_ (by assumption))))) (small_le (by repeat (first | assumption | refine or_small ?_ ?_ | refine and_small ?_ ?_ | refine less_small ?_ | refine cut_small ?_ | exact of_small _)))).mono ?_; rintro e wB ⟨vB, rfl, hsB, hfB, hnB⟩; obtain ⟨pB, cB, rfl, _⟩ := hsB.open)
                    | (go_at_call 13; refine (of_c _ _ _ (Sl.nw (by assumption) (by repeat (first | assumption | exact Nw.refl _ | refine Nw.alloc ?_ _ | refine Nw.drew ?_ | refine Nw.drewN2 ?_ _ | (refine Nw.trans ?_ (by assumption)))))).mono ?_; rintro e wB ⟨vB, rfl, hsB, hfB, hnB⟩; obtain ⟨pB, cB, rfl, _⟩ := hsB.open)
                    | (go_at_call 15; refine (rof_c _ _ _ (Sl.nw (by assumption) (by repeat (first | assumption | exact Nw.refl _ | refine Nw.alloc ?_ _ | refine Nw.drew ?_ | refine Nw.drewN2 ?_ _ | (refine Nw.trans ?_ (by assumption)))))).mono ?_; rintro e wB ⟨vB, rfl, hsB, hfB, hnB⟩; obtain ⟨pB, cB, rfl, _⟩ := hsB.open)
                    | (go_at_call 16; refine (has_c _ _ _ _ (Set.nw (by assumption) (by repeat (first | assumption | exact Nw.refl _ | refine Nw.alloc ?_ _ | refine Nw.drew ?_ | refine Nw.drewN2 ?_ _ | (refine Nw.trans ?_ (by assumption))))) (by omega)).mono ?_; rintro e wB ⟨rfl, hnB⟩)
                    | (go_at_call 17; refine (rhas_c _ _ _ _ (Set.nw (by assumption) (by repeat (first | assumption | exact Nw.refl _ | refine Nw.alloc ?_ _ | refine Nw.drew ?_ | refine Nw.drewN2 ?_ _ | (refine Nw.trans ?_ (by assumption))))) (by omega)).mono ?_; rintro e wB ⟨rfl, hnB⟩)
                    | (go_at_call 14; refine (samewords_c _ _ _ _ _ (Set.nw (by assumption) (by repeat (first | assumption | exact Nw.refl _ | refine Nw.alloc ?_ _ | refine Nw.drew ?_ | refine Nw.drewN2 ?_ _ | (refine Nw.trans ?_ (by assumption))))) (Set.nw (by assumption) (by repeat (first | assumption | exact Nw.refl _ | refine Nw.alloc ?_ _ | refine Nw.drew ?_ | refine Nw.drewN2 ?_ _ | (refine Nw.trans ?_ (by assumption)))))).mono ?_; rintro e wB ⟨rfl, hnB⟩)
                    | (go_at_call 29; refine (within_c _ _ _ _ _ (Set.nw (by assumption) (by repeat (first | assumption | exact Nw.refl _ | refine Nw.alloc ?_ _ | refine Nw.drew ?_ | refine Nw.drewN2 ?_ _ | (refine Nw.trans ?_ (by assumption))))) (Set.nw (by assumption) (by repeat (first | assumption | exact Nw.refl _ | refine Nw.alloc ?_ _ | refine Nw.drew ?_ | refine Nw.drewN2 ?_ _ | (refine Nw.trans ?_ (by assumption)))))).mono ?_; rintro e wB ⟨rfl, hnB⟩)
                    | (go_at_call 30; refine (same_c _ _ _ _ _ (Set.nw (by assumption) (by repeat (first | assumption | exact Nw.refl _ | refine Nw.alloc ?_ _ | refine Nw.drew ?_ | refine Nw.drewN2 ?_ _ | (refine Nw.trans ?_ (by assumption))))) (Set.nw (by assumption) (by repeat (first | assumption | exact Nw.refl _ | refine Nw.alloc ?_ _ | refine Nw.drew ?_ | refine Nw.drewN2 ?_ _ | (refine Nw.trans ?_ (by assumption)))))).mono ?_; rintro e wB ⟨rfl, hnB⟩)
                    | (go_at_call 21; refine (count_c _ _ _ (Set.nw (by assumption) (by repeat (first | assumption | exact Nw.refl _ | refine Nw.alloc ?_ _ | refine Nw.drew ?_ | refine Nw.drewN2 ?_ _ | (refine Nw.trans ?_ (by assumption))))) (small_le (by repeat (first | assumption | refine or_small ?_ ?_ | refine and_small ?_ ?_ | refine less_small ?_ | refine cut_small ?_ | exact of_small _)))).mono ?_; rintro e wB ⟨rfl, hnB⟩)
                    | (go_at_call 19; refine (list_c _ _ _ (Set.nw (by assumption) (by repeat (first | assumption | exact Nw.refl _ | refine Nw.alloc ?_ _ | refine Nw.drew ?_ | refine Nw.drewN2 ?_ _ | (refine Nw.trans ?_ (by assumption))))) (small_le (by repeat (first | assumption | refine or_small ?_ ?_ | refine and_small ?_ ?_ | refine less_small ?_ | refine cut_small ?_ | exact of_small _))) (ht.nw (by repeat (first | assumption | exact Nw.refl _ | refine Nw.alloc ?_ _ | refine Nw.drew ?_ | refine Nw.drewN2 ?_ _ | (refine Nw.trans ?_ (by assumption)))))).mono ?_; rintro e wB ⟨vB, rfl, hsB, hfB, hnB⟩; obtain ⟨pB, cB, rfl, _⟩ := nums_open hsB)
                    | (go_at_call 20; refine (rlist_c _ _ _ (Set.nw (by assumption) (by repeat (first | assumption | exact Nw.refl _ | refine Nw.alloc ?_ _ | refine Nw.drew ?_ | refine Nw.drewN2 ?_ _ | (refine Nw.trans ?_ (by assumption))))) (small_le (by repeat (first | assumption | refine or_small ?_ ?_ | refine and_small ?_ ?_ | refine less_small ?_ | refine cut_small ?_ | exact of_small _)))).mono ?_; rintro e wB ⟨vB, rfl, hsB, hfB, hnB⟩; obtain ⟨pB, cB, rfl, _⟩ := nums_open hsB)
                    | (go_at_call 18; refine (equal_c _ _ _ _ _ (Sl.nw (by assumption) (by repeat (first | assumption | exact Nw.refl _ | refine Nw.alloc ?_ _ | refine Nw.drew ?_ | refine Nw.drewN2 ?_ _ | (refine Nw.trans ?_ (by assumption))))) (Sl.nw (by assumption) (by repeat (first | assumption | exact Nw.refl _ | refine Nw.alloc ?_ _ | refine Nw.drew ?_ | refine Nw.drewN2 ?_ _ | (refine Nw.trans ?_ (by assumption)))))).mono ?_; rintro e wB ⟨rfl, hnB⟩)
                    | (go_at_call 12; refine (awake_c _ (ht.nw (by repeat (first | assumption | exact Nw.refl _ | refine Nw.alloc ?_ _ | refine Nw.drew ?_ | refine Nw.drewN2 ?_ _ | (refine Nw.trans ?_ (by assumption)))))).mono ?_; rintro e wB ⟨rfl, hnB⟩)
          )
          go_ret
          exact Gives.b rfl (by repeat (first | assumption | exact Nw.refl _ | refine Nw.alloc ?_ _ | refine Nw.drew ?_ | refine Nw.drewN2 ?_ _ | (refine Nw.trans ?_ (by assumption))))
    · have hd2 : decide ((60 : Int) < b.length) = true := decide_eq_true (by omega)
      go_enter Tryd.func7, Tryd.ntmps7
      go_wp2_with (go_at_call 12; refine (awake_c _ (ht.nw (by repeat (first | assumption | exact Nw.refl _ | refine Nw.alloc ?_ _ | refine Nw.drew ?_ | refine Nw.drewN2 ?_ _ | (refine Nw.trans ?_ (by assumption)))))).mono ?_; rintro e wB ⟨rfl, hnB⟩)
      go_ret
      exact Gives.b rfl (by repeat (first | assumption | exact Nw.refl _ | refine Nw.alloc ?_ _ | refine Nw.drew ?_ | refine Nw.drewN2 ?_ _ | (refine Nw.trans ?_ (by assumption))))
  · have hd : decide ((60 : Int) < a.length) = true := decide_eq_true (by omega)
    go_enter Tryd.func7, Tryd.ntmps7
    go_wp2_with (go_at_call 12; refine (awake_c _ (ht.nw (by repeat (first | assumption | exact Nw.refl _ | refine Nw.alloc ?_ _ | refine Nw.drew ?_ | refine Nw.drewN2 ?_ _ | (refine Nw.trans ?_ (by assumption)))))).mono ?_; rintro e wB ⟨rfl, hnB⟩)
    go_ret
    exact Gives.b rfl (by repeat (first | assumption | exact Nw.refl _ | refine Nw.alloc ?_ _ | refine Nw.drew ?_ | refine Nw.drewN2 ?_ _ | (refine Nw.trans ?_ (by assumption))))
end Words
end Go.Proofs.YteglnekgnbjkoaaDoor
