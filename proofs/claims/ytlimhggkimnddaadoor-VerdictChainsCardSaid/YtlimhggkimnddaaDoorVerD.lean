/- The contracts of told, line, and of the reference's counted, Line. No condition but that the library's table of powers of ten lies as it is laid. -/
import Derived.Test.YtlimhggkimnddaaDoorVerM
set_option linter.unusedSimpArgs false
set_option linter.unusedVariables false
namespace Go.Proofs.YtlimhggkimnddaaDoor
open Go.ChangeShapes Go.WideShapes Go.ChangeAt Go.RowKit
namespace Vd
/-- The library's table of powers of ten lies as it is laid, here and in every world that grows from here. -/
def Tab (w : World) : Prop := ∀ w', Nw w w' → Lib.TabIs Tryd.prog w' "internal/strconv.uint64pow10" .u64 Lib.pow10Tab
theorem Tab.nw {w w' : World} (h : Tab w) (hn : Nw w w') : Tab w' := fun w'' h' => h w'' (hn.trans h')
theorem nw_grow (w : World) (k : Nat) (os : Array Obj) : Nw w (Go.Sort.grow (w.drewN k) os) :=
  ⟨rfl, rfl, rfl, by simp [Go.Sort.grow, World.drewN], fun b hb => by simp [Go.Sort.grow, World.drewN, Array.getElem?_append, hb]⟩
theorem itoa_c (n : Int) (w : World) (h0 : -9223372036854775808 ≤ n) (h1 : n ≤ 9223372036854775807) (ht : Tab w) :
    Calls Tryd.prog 26 #[.int .i64 n] w (Gives (.string ⟨(Lib.itoa n).toArray⟩) w) :=
  (Tryd.strconv_Itoa n h0 h1 w (ht w (Nw.refl w))).mono fun _ _ ⟨he, k, os, hw⟩ => ⟨he, by rw [hw]; exact nw_grow w k os⟩
theorem fb_c (b : Bool) (w : World) : Calls Tryd.prog 28 #[.bool b] w (Gives (.string ⟨(fb b).toArray⟩) w) :=
  (Tryd.strconv_FormatBool b w).mono fun _ _ ⟨he, hw⟩ => ⟨by rw [he, fb_lib], by rw [hw]; exact Nw.refl w⟩
theorem bapp (a b : List UInt8) : (⟨a.toArray⟩ : ByteArray) ++ ⟨b.toArray⟩ = ⟨(a ++ b).toArray⟩ := by
  apply ByteArray.ext
  simp
theorem string_eq {a b : ByteArray} (h : a = b) : Ending.returned (.string a) = .returned (.string b) := by rw [h]
theorem told_c (n : Int) (w : World) : Calls Tryd.prog 27 #[.int .i64 n] w (Gives (.bool (told n)) w) := by
  by_cases h1 : 0 ≤ n <;> by_cases h2 : n ≤ 999999999999999999
  all_goals
    go_enter Tryd.func27, Tryd.ntmps27
    go_wp2
    go_ret
    refine Gives.b ?_ (by repeat (first | assumption | exact Nw.refl _ | refine Nw.alloc ?_ _ | refine Nw.drew ?_ | refine Nw.drewN2 ?_ _ | (refine Nw.trans ?_ (by assumption))))
    unfold told
    simp [h1, h2]
theorem counted_c (n : Int) (w : World) : Calls Tryd.prog 30 #[.int .i64 n] w (Gives (.bool (told n)) w) := by
  by_cases h1 : 0 ≤ n <;> by_cases h2 : n < 1000000000000000000
  all_goals
    go_enter Tryd.func30, Tryd.ntmps30
    go_wp2
    go_ret
    refine Gives.b ?_ (by repeat (first | assumption | exact Nw.refl _ | refine Nw.alloc ?_ _ | refine Nw.drew ?_ | refine Nw.drewN2 ?_ _ | (refine Nw.trans ?_ (by assumption))))
    unfold told
    by_cases h3 : n ≤ 999999999999999999
    · simp [h1, h2, h3]
      try omega
    · simp [h1, h2, h3]
      try omega
set_option maxHeartbeats 800000 in
theorem line_c (k i t : Int) (b : Bool) (w : World) (hr : Rg (k, i, b, t)) (ht : Tab w) :
    Calls Tryd.prog 18 #[itv (k, i, b, t)] w (Gives (.string ⟨(line (k, i, b, t)).toArray⟩) w) := by
  obtain ⟨_, ⟨r1, r2⟩, ⟨r3, r4⟩⟩ := hr
  simp only at r1 r2 r3 r4
  have la := Lib.itoa_length_le i (by omega) (by omega)
  have lb := Lib.itoa_length_le t (by omega) (by omega)
  have lc := fb_len b
  cases h1 : told i
  · have HL := hid (show line (k, i, b, t) = [] by unfold line; rw [if_neg (by rw [h1]; decide)])
    go_enter Tryd.func18, Tryd.ntmps18
    unfold itv
    go_wp2_with (first
      | (go_at_call 26; refine (itoa_c _ _ (by omega) (by omega) (ht.nw (by repeat (first | assumption | exact Nw.refl _ | refine Nw.alloc ?_ _ | refine Nw.drew ?_ | refine Nw.drewN2 ?_ _ | (refine Nw.trans ?_ (by assumption)))))).mono ?_; rintro e w1 ⟨rfl, hn1⟩; obtain ⟨hc1, hf1, hz1⟩ := nwc hn1)
      | (go_at_call 27; refine (told_c _ _).mono ?_; rintro e w2 ⟨rfl, hn2⟩; obtain ⟨hc2, hf2, hz2⟩ := nwc (hn1.trans hn2); simp only [h1]))
    go_ret
    refine ⟨?_, (by repeat (first | assumption | exact Nw.refl _ | refine Nw.alloc ?_ _ | refine Nw.drew ?_ | refine Nw.drewN2 ?_ _ | (refine Nw.trans ?_ (by assumption))))⟩
    rw [HL.out]; rfl
  · cases hk1 : k == 1
    · cases hk2 : k == 2
      · have HL := hid (show line (k, i, b, t) = [] by
          unfold line; simp only at *; rw [if_pos h1, if_neg (by simpa using hk1), if_neg (by rintro ⟨q, _⟩; simp [q] at hk2)])
        go_enter Tryd.func18, Tryd.ntmps18
        unfold itv
        go_wp2_with (first
          | (go_at_call 26; refine (itoa_c _ _ (by omega) (by omega) (ht.nw (by repeat (first | assumption | exact Nw.refl _ | refine Nw.alloc ?_ _ | refine Nw.drew ?_ | refine Nw.drewN2 ?_ _ | (refine Nw.trans ?_ (by assumption)))))).mono ?_; rintro e w1 ⟨rfl, hn1⟩; obtain ⟨hc1, hf1, hz1⟩ := nwc hn1)
          | (go_at_call 27; refine (told_c _ _).mono ?_; rintro e w2 ⟨rfl, hn2⟩; obtain ⟨hc2, hf2, hz2⟩ := nwc (hn1.trans hn2); simp only [h1]))
        go_ret
        refine ⟨?_, (by repeat (first | assumption | exact Nw.refl _ | refine Nw.alloc ?_ _ | refine Nw.drew ?_ | refine Nw.drewN2 ?_ _ | (refine Nw.trans ?_ (by assumption))))⟩
        rw [HL.out]; rfl
      · cases h2 : told t
        · have HL := hid (show line (k, i, b, t) = [] by
            unfold line; simp only at *; rw [if_pos h1, if_neg (by simpa using hk1), if_neg (by rintro ⟨_, q⟩; simp [q] at h2)])
          go_enter Tryd.func18, Tryd.ntmps18
          unfold itv
          go_wp2_with (first
            | (go_at_call 26; refine (itoa_c _ _ (by omega) (by omega) (ht.nw (by repeat (first | assumption | exact Nw.refl _ | refine Nw.alloc ?_ _ | refine Nw.drew ?_ | refine Nw.drewN2 ?_ _ | (refine Nw.trans ?_ (by assumption)))))).mono ?_; rintro e w1 ⟨rfl, hn1⟩; obtain ⟨hc1, hf1, hz1⟩ := nwc hn1)
            | (go_at_call 27; (with_reducible refine (told_c i _).mono ?_); rintro e w2 ⟨rfl, hn2⟩; obtain ⟨hc2, hf2, hz2⟩ := nwc (hn1.trans hn2); simp only [h1])
            | (go_at_call 27; (with_reducible refine (told_c t _).mono ?_); rintro e w3 ⟨rfl, hn3⟩; obtain ⟨hc3, hf3, hz3⟩ := nwc (hn1.trans (hn2.trans hn3)); simp only [h2]))
          go_ret
          refine ⟨?_, (by repeat (first | assumption | exact Nw.refl _ | refine Nw.alloc ?_ _ | refine Nw.drew ?_ | refine Nw.drewN2 ?_ _ | (refine Nw.trans ?_ (by assumption))))⟩
          rw [HL.out]; rfl
        · have HL := hid (show line (k, i, b, t) = Lib.itoa i ++ [32, 61, 32] ++ Lib.itoa t by
            unfold line; simp only at *; rw [if_pos h1, if_neg (by simpa using hk1), if_pos ⟨by simpa using hk2, h2⟩]; simp)
          go_enter Tryd.func18, Tryd.ntmps18
          unfold itv
          go_wp2_with (first
            | (go_at_call 26; (with_reducible refine (itoa_c i _ ?_ ?_ ?_).mono ?_); (try exact r1); (try exact r2); (try exact ht.nw (by repeat (first | assumption | exact Nw.refl _ | refine Nw.alloc ?_ _ | refine Nw.drew ?_ | refine Nw.drewN2 ?_ _ | (refine Nw.trans ?_ (by assumption))))); rintro e w1 ⟨rfl, hn1⟩; obtain ⟨hc1, hf1, hz1⟩ := nwc hn1)
            | (go_at_call 26; (with_reducible refine (itoa_c t _ ?_ ?_ ?_).mono ?_); (try exact r3); (try exact r4); (try exact ht.nw (by repeat (first | assumption | exact Nw.refl _ | refine Nw.alloc ?_ _ | refine Nw.drew ?_ | refine Nw.drewN2 ?_ _ | (refine Nw.trans ?_ (by assumption))))); rintro e w4 ⟨rfl, hn4⟩; obtain ⟨hc4, hf4, hz4⟩ := nwc hn4)
            | (go_at_call 27; (with_reducible refine (told_c i _).mono ?_); rintro e w2 ⟨rfl, hn2⟩; obtain ⟨hc2, hf2, hz2⟩ := nwc (hn1.trans hn2); simp only [h1])
            | (go_at_call 27; (with_reducible refine (told_c t _).mono ?_); rintro e w3 ⟨rfl, hn3⟩; obtain ⟨hc3, hf3, hz3⟩ := nwc (hn1.trans (hn2.trans hn3)); simp only [h2]))
          go_ret
          refine ⟨?_, (by repeat (first | assumption | exact Nw.refl _ | refine Nw.alloc ?_ _ | refine Nw.drew ?_ | refine Nw.drewN2 ?_ _ | (refine Nw.trans ?_ (by assumption))))⟩
          rw [HL.out]
          exact string_eq (by simp only [bapp]; try simp)
    · have HL := hid (show line (k, i, b, t) = Lib.itoa i ++ [32] ++ fb b by
        unfold line; simp only at *; rw [if_pos h1, if_pos (by simpa using hk1)]; simp)
      go_enter Tryd.func18, Tryd.ntmps18
      unfold itv
      go_wp2_with (first
        | (go_at_call 26; refine (itoa_c _ _ (by omega) (by omega) (ht.nw (by repeat (first | assumption | exact Nw.refl _ | refine Nw.alloc ?_ _ | refine Nw.drew ?_ | refine Nw.drewN2 ?_ _ | (refine Nw.trans ?_ (by assumption)))))).mono ?_; rintro e w1 ⟨rfl, hn1⟩; obtain ⟨hc1, hf1, hz1⟩ := nwc hn1)
        | (go_at_call 27; refine (told_c _ _).mono ?_; rintro e w2 ⟨rfl, hn2⟩; obtain ⟨hc2, hf2, hz2⟩ := nwc (hn1.trans hn2); simp only [h1])
        | (go_at_call 28; refine (fb_c _ _).mono ?_; rintro e w3 ⟨rfl, hn3⟩; obtain ⟨hc3, hf3, hz3⟩ := nwc (hn1.trans (hn2.trans hn3))))
      go_ret
      refine ⟨?_, (by repeat (first | assumption | exact Nw.refl _ | refine Nw.alloc ?_ _ | refine Nw.drew ?_ | refine Nw.drewN2 ?_ _ | (refine Nw.trans ?_ (by assumption))))⟩
      rw [HL.out]
      exact string_eq (by simp only [bapp]; try simp)
end Vd
end Go.Proofs.YtlimhggkimnddaaDoor
