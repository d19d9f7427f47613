/- MemoPlays walked. No condition. -/
import Derived.Test.YthellicimicieaaMemoQ
set_option linter.unusedSimpArgs false
set_option linter.unusedVariables false
namespace Go.Proofs.Ythellicimicieaa
open Go.ChangeShapes Go.WideShapes Go.ChangeAt Go.RowKit
namespace Mm
open Go.Proofs.Ythellicimicieaa.Words (Wd wd trim Set ws ws_one ws_length same same_c samewords_c rtrim_c HandsW)
theorem MI.ext {w w' : World} {P P' : Nat → Prop} {B a : Nat} {v : Value} {f : Nat → V3} {m : Me} (h : MI w P B a v f m) (hn : Nw w w') (he : Ext w P w' P') : MI w' P' B a v f m :=
  h.frame (hn.mods fun _ => False) he (fun q => q) (fun _ _ q => q) (fun _ q => q.elim)
theorem RI.ext {w w' : World} {P P' : Nat → Prop} {B a : Nat} {v : Value} {f : Nat → V3} {m : Me} (h : RI w P B a v f m) (hn : Nw w w') (he : Ext w P w' P') : RI w' P' B a v f m :=
  h.frame (hn.mods fun _ => False) he (fun q => q) (fun _ _ q => q) (fun _ q => q.elim)
set_option maxRecDepth 20000 in
set_option maxHeartbeats 1600000 in
theorem plays_walk (room : Int) (vl : Value) (l : List Ac) (w : World) (hl : Acs w vl l) : Calls Try.prog 4 #[.int .i64 room, vl] w fun en w' => en = .returned (.bool true) ∧ Nw w w' := by
  have HG := hid (great_c vl l w hl)
  have HLL := hid hl
  obtain ⟨p, cap, rfl, hcap, hmx, _, _⟩ := hl
  go_enter Try.func4, Try.ntmps4
  go_upto_region 1 with fail
  have HG2 := hid (HG.out)
  clear HG
  go_upto_region 3 with (first
    | (go_at_call 19; refine HG2.out.mono ?_; rintro en w1 ⟨hn1, h1⟩; rcases h1 with ⟨rfl, hf⟩ | ⟨rfl, hf⟩)
    | (go_at_call 20; refine (awake_c _).mono ?_; rintro en w8 ⟨rfl, hn8⟩)
    | fail)
  · have HN := hid (new_c (fun _ => False) room w1)
    clear HG2
    go_upto_region 4 with (first
      | (go_at_call 21; refine HN.out.mono ?_; rintro en w2 ⟨am, rfl, ha1, ha2, hn2, hm⟩)
      | fail)
    have HR := hid (rnew_c (fun k => False ∨ k = am) room w2)
    have hs1 := hn1.size
    have hs2 := hn2.size
    clear HN
    go_wp2_with (first
      | (go_at_call 23; refine HR.out.mono ?_; rintro en w3 ⟨ar, rfl, hb1, hb2, hn3, hr⟩; have hs3 := hn3.size; have HD := hid (did_c w _ l w3 HLL.out hf.ok (fun k => (False ∨ k = am) ∨ k = ar) am ar am ar _ _ _ _ _ (hm.ext hn3 ⟨fun k q => Or.inl q, fun k q => q.imp_right (fun e => by omega), fun k q => by rcases q with (q | q) | q; exact q.elim; omega; omega⟩) hr (fun k q => by rcases q with (q | q) | q; exact q.elim; omega; omega) (fun k q => by rcases q with (q | q) | q; exact q.elim; omega; omega) (hn1.trans (hn2.trans hn3))))
      | (go_at_call 22; refine HD.out.mono ?_; rintro en w4 ⟨rfl, hdo⟩)
      | (go_at_call 20; refine (awake_c _).mono ?_; rintro en w8 ⟨rfl, hn8⟩)
      | fail)
    go_ret
    obtain ⟨P1, vm1, fm1, vr1, fr1, hmid⟩ := hdo.mid
    exact ⟨rfl, ((hn1.trans (hn2.trans hn3)).ofMods hmid.md (fun k q => by rcases q with (q | q) | (q | q); omega; cases q; omega; cases q)).trans hn8⟩
  · go_ret
    exact ⟨rfl, hn1.trans hn8⟩
end Mm
end Go.Proofs.Ythellicimicieaa
