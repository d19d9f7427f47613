/- The contracts of verdict.Parse and the reference's Parse. No condition but the length that any string has, and that the library's variable MaxLen holds a number. -/
import Derived.Test.YtlimhggkimnddaaDoorVerJ
set_option linter.unusedSimpArgs false
set_option linter.unusedVariables false
namespace Go.Proofs.YtlimhggkimnddaaDoor
open Go.ChangeShapes Go.WideShapes Go.ChangeAt Go.RowKit
namespace Vd
def HandsP (w : World) (r : Res) (e : Ending) (w' : World) : Prop := ∃ v, e = .returned (.tuple #[v, .int .i64 r.2.1, .int .i64 r.2.2]) ∧ IOwn w' w.heap.size v r.1 ∧ Nw w w'
def lenOf : Value → Nat | .string b => b.size | _ => 0
theorem handsP_bad {w w' : World} {r : Res} {acc : List It} {z : Int} (h : bad acc = r) (hz : z = (acc.length : Int) + 1) (hn : Nw w w') : HandsP w r (.returned (.tuple #[.slice none 0 0, .int .i64 z, .int .i64 2])) w' := by
  subst h hz
  exact ⟨_, rfl, IOwn.nil _ _, hn⟩
set_option maxRecDepth 20000 in
set_option maxHeartbeats 2000000 in
theorem parse_c (s : List UInt8) (w : World) (hm : Mx w) (hs : s.length ≤ 1000000000) : Calls Tryd.prog 13 #[.string ⟨s.toArray⟩] w (HandsP w (parse s)) := by
  go_enter Tryd.func13, Tryd.ntmps13
  go_wp2
  go_loopw [0, 5, 6, 7, 8, 9, 10] (fun s0 o _ _ _ _ _ wr => ∃ (r : List UInt8) (acc : List It), s0 = .string ⟨r.toArray⟩ ∧ IOwn wr w.heap.size o acc ∧ Hid (go [] acc r = parse s) ∧ acc.length + r.length ≤ s.length ∧ Nw w wr) (fun s0 _ _ _ _ _ _ _ => lenOf s0)
  case atStart => exact ⟨s, [], rfl, IOwn.nil _ _, hid rfl, by simp, Nw.refl _⟩
  case round =>
    obtain ⟨r, acc, rfl, ho, hg, hl, hnr⟩ := hrel
    obtain ⟨q, cq, rfl, _⟩ := ho.its.open rfl
    have hla : acc.length ≤ 1000000000 := by omega
    have hlr : r.length ≤ 1000000000 := by omega
    cases r with
    | nil =>
      have HG := hid (hg.out.symm.trans (show go [] acc [] = (acc, 0, 0) by rw [go, if_pos rfl]))
      clear hg
      generalize parse s = PS at *
      obtain rfl := HG.out
      go_wp2
      refine bodyPost_ret (by simp [results, Tryd.results13, go_sem]; rfl) rfl ?_
      exact ⟨_, rfl, ho, hnr⟩
    | cons c0 r0 =>
      obtain ⟨r, hr⟩ : ∃ r, Hid (r = c0 :: r0) := ⟨_, hid rfl⟩
      have hne : r.isEmpty = false := by rw [hr.out]; rfl
      have hne2 : r ≠ [] := by rw [hr.out]; simp
      rw [← hr.out] at hg hl hlr ⊢
      clear hr
      have HC := hid (fun w' (h : Nw wr w') => cut_c r [10] w' ((hm.nw hnr).nw h) hlr)
      rcases cut10 r with ⟨e, hno⟩ | ⟨a, b, e, hrs, hno⟩
      · have HB := hid ((step_end acc hno hne2).symm.trans hg.out)
        rw [e] at HC
        have HI := hid (fun w' (h : Nw wr w') => item_c r w' ((hm.nw hnr).nw h) hlr)
        unfold HandsI itv at HI
        clear e hno hne2 hg
        go_wp2_with (first
          | (go_at_call 23; refine (HC.out _ (by repeat (first | assumption | exact Nw.refl _ | refine Nw.alloc ?_ _ | refine Nw.drew ?_ | refine Nw.drewN2 ?_ _ | (refine Nw.trans ?_ (by assumption))))).mono ?_; rintro e w1 ⟨rfl, hn1⟩)
          | (go_at_call 24; refine (HI.out _ (by repeat (first | assumption | exact Nw.refl _ | refine Nw.alloc ?_ _ | refine Nw.drew ?_ | refine Nw.drewN2 ?_ _ | (refine Nw.trans ?_ (by assumption))))).mono ?_; rintro e w2 ⟨⟨x0, x1, x2, x3⟩, rfl, _, hn2⟩)
          | fail)
        go_ret3
        exact handsP_bad HB.out rfl (by repeat (first | assumption | exact Nw.refl _ | refine Nw.alloc ?_ _ | refine Nw.drew ?_ | refine Nw.drewN2 ?_ _ | (refine Nw.trans ?_ (by assumption))))
      · rw [e] at HC
        have hal := congrArg List.length hrs
        simp only [List.length_append, List.length_cons] at hal
        have HI := hid (fun w' (h : Nw wr w') => item_c a w' ((hm.nw hnr).nw h) (by omega))
        unfold HandsI itv at HI
        clear e hne2
        cases hi : item a with
        | none =>
          have HB := hid ((show bad acc = go [] acc r by rw [hrs, step_no acc hno hi]).trans hg.out)
          rw [hi] at HI
          clear hno hg hrs hi
          go_wp2_with (first
            | (go_at_call 23; refine (HC.out _ (by repeat (first | assumption | exact Nw.refl _ | refine Nw.alloc ?_ _ | refine Nw.drew ?_ | refine Nw.drewN2 ?_ _ | (refine Nw.trans ?_ (by assumption))))).mono ?_; rintro e w1 ⟨rfl, hn1⟩)
            | (go_at_call 24; refine (HI.out _ (by repeat (first | assumption | exact Nw.refl _ | refine Nw.alloc ?_ _ | refine Nw.drew ?_ | refine Nw.drewN2 ?_ _ | (refine Nw.trans ?_ (by assumption))))).mono ?_; rintro e w2 ⟨⟨x0, x1, x2, x3⟩, rfl, _, hn2⟩)
            | fail)
          go_ret3
          exact handsP_bad HB.out rfl (by repeat (first | assumption | exact Nw.refl _ | refine Nw.alloc ?_ _ | refine Nw.drew ?_ | refine Nw.drewN2 ?_ _ | (refine Nw.trans ?_ (by assumption))))
        | some y =>
          obtain ⟨y0, y1, y2, y3⟩ := y
          have HG := hid ((show go [] (acc ++ [(y0, y1, y2, y3)]) b = go [] acc r by rw [hrs, step_yes acc hno hi]).trans hg.out)
          rw [hi] at HI
          have HI2 := hid (fun w' (h : Nw wr w') => show Calls Tryd.prog 24 #[.string ⟨a.toArray⟩] w' (Gives (.tuple #[.agg #[.int .i64 y0, .int .i64 y1, .bool y2, .int .i64 y3], .bool true]) w') from
            (HI.out w' h).mono fun e w'' ⟨x, he, hx, hn⟩ => by
              have := hx _ rfl
              subst this
              exact ⟨he, hn⟩)
          clear hno hg hrs hi HI
          have HO := hid ho
          clear ho
          go_wp2_with (first
            | (go_at_call 23; refine (HC.out _ (by repeat (first | assumption | exact Nw.refl _ | refine Nw.alloc ?_ _ | refine Nw.drew ?_ | refine Nw.drewN2 ?_ _ | (refine Nw.trans ?_ (by assumption))))).mono ?_; rintro e w1 ⟨rfl, hn1⟩)
            | (go_at_call 24; refine (HI2.out _ (by repeat (first | assumption | exact Nw.refl _ | refine Nw.alloc ?_ _ | refine Nw.drew ?_ | refine Nw.drewN2 ?_ _ | (refine Nw.trans ?_ (by assumption))))).mono ?_; rintro e w2 ⟨rfl, hn2⟩; have hn12 := hn1.trans hn2; have hz2 := hn12.size; have hz1 := hnr.size)
            | (at_builtin; refine appI rfl _ _ _ rfl Tryd.underlying22 (y0, y1, y2, y3) rfl (IOwn.nw HO.out (hn12.alloc _)) (Nat.le_trans hz1 (Nat.le_trans hz2 ((Nw.refl w2).alloc _).size)) rfl rfl (by simp) ?_ (by omega); intro v4 w4 ho4 hm4)
            | fail)
          have hn4 : Nw w w4 := Nw.ofMods (hnr.trans (hn12.alloc _)) hm4 (fun k hk => hk)
          obtain ⟨q4, c4, e4, _⟩ := ho4.its.open rfl
          go_roundw
          case rel => exact ⟨b, acc ++ [(y0, y1, y2, y3)], rfl, ho4, HG, by rw [List.length_append, List.length_singleton]; omega, hn4⟩
          case measure => simp [lenOf, ByteArray.size]; omega
end Vd
end Go.Proofs.YtlimhggkimnddaaDoor
