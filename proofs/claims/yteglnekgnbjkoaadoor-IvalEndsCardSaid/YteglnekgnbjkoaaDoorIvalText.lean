/- The contracts of intervals' texts, and of the law's own Span, for any interval. -/
import Derived.Test.YteglnekgnbjkoaaDoorIvalB
import Derived.Test.YteglnekgnbjkoaaDoorSeq
import Derived.Test.YteglnekgnbjkoaaDoorShelf
import Derived.Lib.ItoaLen
namespace Go.Proofs.YteglnekgnbjkoaaDoor
open Go.ChangeShapes Go.WideShapes Go.ChangeAt Go.RowKit
namespace Ival
/-- The library's table of powers of ten lies as it is laid, here and in every world that grows from here. -/
def Tab (w : World) : Prop := ∀ w', Nw w w' → Lib.TabIs Tryd.prog w' "internal/strconv.uint64pow10" .u64 Lib.pow10Tab
theorem Tab.nw {w w' : World} (h : Tab w) (hn : Nw w w') : Tab w' := fun w'' h' => h w'' (hn.trans h')
theorem nw_grow (w : World) (k : Nat) (os : Array Obj) : Nw w (Go.Sort.grow (w.drewN k) os) :=
  ⟨rfl, rfl, rfl, by simp [Go.Sort.grow, World.drewN], fun b hb => by simp [Go.Sort.grow, World.drewN, Array.getElem?_append, hb]⟩
theorem itoa_c (n : Int) (w : World) (h0 : -9223372036854775808 ≤ n) (h1 : n ≤ 9223372036854775807) (ht : Tab w) :
    Calls Tryd.prog 55 #[.int .i64 n] w (Gives (.string ⟨(Lib.itoa n).toArray⟩) w) :=
  (Tryd.strconv_Itoa n h0 h1 w (ht w (Nw.refl w))).mono fun _ _ ⟨he, k, os, hw⟩ => ⟨he, by rw [hw]; exact nw_grow w k os⟩
theorem itoa_small (n : Nat) (w : World) (h : n < 100) :
    Calls Tryd.prog 55 #[.int .i64 n] w (Gives (.string ⟨(Lib.decDigits n).toArray⟩) w) :=
  (Tryd.strconv_Itoa_small n h w).mono fun _ _ ⟨he, hw⟩ => ⟨he, by rw [hw]; exact Nw.refl w⟩
theorem bapp (a b : List UInt8) : (⟨a.toArray⟩ : ByteArray) ++ ⟨b.toArray⟩ = ⟨(a ++ b).toArray⟩ := by
  apply ByteArray.ext
  simp
theorem string_eq {a b : ByteArray} (h : a = b) : Ending.returned (.string a) = .returned (.string b) := by rw [h]
def text (lo hi : Int) : List UInt8 := if may lo hi = true then [91] ++ Lib.itoa lo ++ [44] ++ (if hi = -1 then [42] else Lib.itoa hi) ++ [93] else []
set_option maxHeartbeats 400000 in
theorem span_c (lo more : Int) (o : Bool) (w : World) (h0 : 0 ≤ lo ∧ lo ≤ 65535) (h1 : 0 ≤ more ∧ more ≤ 65535) :
    Calls Tryd.prog 33 #[.int .u16 lo, .int .u16 more, .bool o] w (Gives (span (lo % 10000) (if o = true then -1 else min 9999 (lo % 10000 + more))) w) := by
  obtain ⟨a1, a2⟩ := h0
  obtain ⟨a3, a4⟩ := h1
  cases o
  all_goals
    go_enter Tryd.func33, Tryd.ntmps33
    go_wp2
    refine bodyPost_ret (by simp [results, Tryd.results33, go_sem]; rfl) rfl ⟨?_, (by repeat (first | assumption | exact Nw.refl _ | refine Nw.alloc ?_ _ | refine Nw.drew ?_ | refine Nw.drewN2 ?_ _ | (refine Nw.trans ?_ (by assumption))))⟩
    simp [span]
set_option maxHeartbeats 400000 in
theorem text_c (lo hi : Int) (w : World) (hlo : -9223372036854775808 ≤ lo ∧ lo ≤ 9223372036854775807) (ht : Tab w) :
    Calls Tryd.prog 42 #[span lo hi] w (Gives (.string ⟨(text lo hi).toArray⟩) w) := by
  rcases Bool.eq_false_or_eq_true (may lo hi) with hm | hm
  · have HL := hid (show text lo hi = [91] ++ Lib.itoa lo ++ [44] ++ (if hi = -1 then [42] else Lib.itoa hi) ++ [93] from if_pos hm)
    obtain ⟨b1, b2, b3⟩ := may_yes hm
    have b4 : -1 ≤ hi := by omega
    have b5 : hi ≤ 9999 := by omega
    have la := Lib.itoa_length_le lo (by omega) (by omega)
    have lb := Lib.itoa_length_le hi (by omega) (by omega)
    clear b3
    go_enter Tryd.func42, Tryd.ntmps42
    unfold span
    go_wp2_with (first
      | (go_at_call 39; refine (may_c _ _ _).mono ?_; rintro e w1 ⟨rfl, hn1⟩; obtain ⟨hc1, hf1, hz1⟩ := nwc hn1)
      | (go_at_call 55; refine (itoa_c _ _ (by omega) (by omega) (ht.nw (by repeat (first | assumption | exact Nw.refl _ | refine Nw.alloc ?_ _ | refine Nw.drew ?_ | refine Nw.drewN2 ?_ _ | (refine Nw.trans ?_ (by assumption)))))).mono ?_; rintro e w1 ⟨rfl, hn1⟩; obtain ⟨hc1, hf1, hz1⟩ := nwc hn1))
    all_goals
      go_ret
      refine ⟨?_, (by repeat (first | assumption | exact Nw.refl _ | refine Nw.alloc ?_ _ | refine Nw.drew ?_ | refine Nw.drewN2 ?_ _ | (refine Nw.trans ?_ (by assumption))))⟩
      rw [HL.out]
      (try simp only [beq_iff_eq, bne_eq_false_iff_eq, beq_eq_false_iff_ne, bne_iff_ne, decide_eq_true_eq, decide_eq_false_iff_not] at *)
      exact string_eq (by simp only [bapp]; try simp [*])
  · have HL := hid (show text lo hi = [] from if_neg (by simp [hm]))
    go_enter Tryd.func42, Tryd.ntmps42
    unfold span
    go_wp2_with (go_at_call 39; refine (may_c _ _ _).mono ?_; rintro e w1 ⟨rfl, hn1⟩; obtain ⟨hc1, hf1, hz1⟩ := nwc hn1)
    go_ret
    exact ⟨by rw [HL.out]; rfl, (by repeat (first | assumption | exact Nw.refl _ | refine Nw.alloc ?_ _ | refine Nw.drew ?_ | refine Nw.drewN2 ?_ _ | (refine Nw.trans ?_ (by assumption))))⟩

end Ival
end Go.Proofs.YteglnekgnbjkoaaDoor
