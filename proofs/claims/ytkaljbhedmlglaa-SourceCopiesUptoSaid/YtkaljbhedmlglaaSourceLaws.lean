/- SourceNil: for every input the law returns true, and each argument reads as it did. No condition. -/
import Derived.Test.YtkaljbhedmlglaaSource
namespace Go.Proofs.Ytkaljbhedmlglaa
open Go.ChangeShapes Go.WideShapes Go.ChangeAt Go.RowKit
open Go.ChangeMaps (open_string shut_string)
namespace Src
theorem read_nil (at_ most : Int) (w : World) : Calls Try.prog 23 #[.pointer none, .int .i64 at_, .int .i64 most] w fun e w' => e = .returned (.tuple #[.slice none 0 0, .int .i64 1]) ∧ w = w' := by
  go_enter Try.func23, Try.ntmps23
  go_wp2
  go_ret2
  exact ⟨rfl, rfl⟩
theorem len_nil (w : World) : Calls Try.prog 26 #[.pointer none] w fun e w' => e = .returned (.int .i64 0) ∧ w = w' := by
  go_enter Try.func26, Try.ntmps26
  go_wp2
  go_ret
  exact ⟨rfl, rfl⟩
theorem reads_nil (w : World) : Calls Try.prog 25 #[.pointer none] w fun e w' => e = .returned (.int .i64 0) ∧ w = w' := by
  go_enter Try.func25, Try.ntmps25
  go_wp2
  go_ret
  exact ⟨rfl, rfl⟩
set_option maxRecDepth 20000 in
set_option maxHeartbeats 1000000 in
theorem awake_c (w : World) : Calls Try.prog 27 #[] w fun e w' => e = .returned (.bool true) ∧ Nw w w' := by
  have kc := kconst
  have q0 : rt 4 (-1) = 4 := by decide
  have q1 : read [97, 98, 99, 100] [3] 4 0 0 4 = ([97, 98, 99], 0, 1) := by decide +kernel
  have q2 : read [97, 98, 99, 100] [3] 4 1 3 4 = ([100], 0, 2) := by decide +kernel
  have Q0 := hid q0
  have Q1 := hid q1
  have Q2 := hid q2
  clear q0 q1 q2
  go_enter Try.func27, Try.ntmps27
  go_upto_region 2 with (first
    | (go_at_call 21; refine (new_c _ _ [97, 98, 99, 100] [3] (-1) _ (Bytes.nw (Bytes.new _ [97, 98, 99, 100] _ _ (by decide)) (by repeat (first | assumption | exact Nw.refl _ | refine Nw.alloc ?_ _ | refine Nw.drew ?_ | (refine Nw.trans ?_ (by assumption))))) (Sl.newAt _ [.int .i64 3] _ _ _ _ (by simp) rfl (by decide)) (by decide) (by decide)).mono ?_; rintro e w1 ⟨a, rfl, his1, ha, hlt, hn1⟩))
  have hz1 := his1
  rw [show rt ([97, 98, 99, 100] : List UInt8).length (-1) = 4 from Q0.out] at hz1
  have hn0 : Nw w w1 := Nw.trans (by repeat (first | assumption | exact Nw.refl _ | refine Nw.alloc ?_ _ | refine Nw.drew ?_ | (refine Nw.trans ?_ (by assumption)))) hn1
  have hwa : w.heap.size ≤ a := by simp at ha; omega
  clear his1 hn1
  go_upto_region 3 with (go_at_call 23; refine (read_c _ a [97, 98, 99, 100] [3] 4 0 _ _ _ hz1 (by intro h; omega) (by decide) (by decide) (by decide) (by decide) (by decide)).mono ?_; rw [Q1.out]; rintro e w2 ⟨v2, rfl, hown2, his2, hm2⟩)
  go_upto_region 4 with (go_at_call 23; refine (read_c _ a [97, 98, 99, 100] [3] 4 1 _ _ _ his2 (by intro h; omega) (by decide) (by decide) (by decide) (by decide) (by decide)).mono ?_; rw [Q2.out]; rintro e w3 ⟨v3, rfl, hown3, his3, hm3⟩)
  have hs2 := str_ok (hown2.mods hm3 (fun k hk e => by subst e; omega)).sl
  have hs3 := str_ok hown3.sl
  go_wp2_with (first
    | (go_at_call 26; refine (len_c _ _ _ _ _ _ _ his3).mono ?_; rintro e w' ⟨rfl, rfl⟩)
    | (go_at_call 25; refine (reads_c _ _ _ _ _ _ _ his3).mono ?_; rintro e w' ⟨rfl, rfl⟩))
  go_ret
  exact ⟨rfl, (hn0.ofMods hm2 (fun k hk => by subst hk; exact hwa)).ofMods hm3 (fun k hk => by subst hk; exact hwa)⟩
set_option maxRecDepth 20000 in
set_option maxHeartbeats 1000000 in
theorem nil_walk (at_ most : Int) (w : World) : Calls Try.prog 11 #[.int .i64 at_, .int .i64 most] w fun e w' => e = .returned (.bool true) ∧ Nw w w' := by
  go_enter Try.func11, Try.ntmps11
  go_wp2_with (first
    | (go_at_call 23; refine (read_nil _ _ _).mono ?_; rintro e w' ⟨rfl, rfl⟩)
    | (go_at_call 26; refine (len_nil _).mono ?_; rintro e w' ⟨rfl, rfl⟩)
    | (go_at_call 25; refine (reads_nil _).mono ?_; rintro e w' ⟨rfl, rfl⟩)
    | (go_at_call 27; refine (awake_c _).mono ?_; rintro e w5 ⟨rfl, hn5⟩))
  go_ret
  exact ⟨rfl, (by repeat (first | assumption | exact Nw.refl _ | refine Nw.alloc ?_ _ | refine Nw.drew ?_ | (refine Nw.trans ?_ (by assumption))))⟩
end Src
end Go.Proofs.Ytkaljbhedmlglaa
