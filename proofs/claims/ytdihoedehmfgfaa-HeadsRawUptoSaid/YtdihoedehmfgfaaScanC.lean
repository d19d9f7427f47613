/- The contracts of scan.header's part and want. No condition but lengths. -/
import Derived.Test.YtdihoedehmfgfaaJSa
import Derived.Test.YtdihoedehmfgfaaModR
set_option linter.unusedSimpArgs false
set_option linter.unusedVariables false
namespace Go.Proofs.Ytdihoedehmfgfaa
open Go.ChangeShapes Go.WideShapes Go.ChangeAt Go.RowKit
namespace Sc
/-- A header that is being read: its block g behind the source's. -/
def HSt (w : World) (B a g : Nat) (b : List UInt8) (sc : List Int) (r : Nat) (acc : List UInt8) (e : Int) (vb : Value) (n : Nat) : Prop :=
  w.heap[g]? = some (.cells #[.pointer (some ⟨a, 0, none⟩), vb, .int .i64 e] 94 (0, 0)) ∧ Own w (g + 1) 5 vb (u8s acc) ∧ SI w B a b sc r n ∧ a < g
theorem HSt.lt {w : World} {B a g : Nat} {b : List UInt8} {sc : List Int} {r : Nat} {acc : List UInt8} {e : Int} {vb : Value} {n : Nat} (h : HSt w B a g b sc r acc e vb n) : g < w.heap.size := lt_of_heap h.1
theorem HSt.mods {w w' : World} {B a g : Nat} {b : List UInt8} {sc : List Int} {r : Nat} {acc : List UInt8} {e : Int} {vb : Value} {n : Nat} (h : HSt w B a g b sc r acc e vb n) {S : Nat → Prop} (hm : Mods S w w') (hS : ∀ k, S k → g < k) (hv : ∀ k, vb.ownBlock = some k → ¬ S k) : HSt w' B a g b sc r acc e vb n := by
  obtain ⟨h1, h2, h3, h4⟩ := h
  refine ⟨hm.heap h1 (fun q => by have := hS _ q; omega), ?_, h3.mods hm (fun k hk => by have := hS _ hk; omega), h4⟩
  exact Own.modsR h2 hm hv
theorem HSt.nw {w w' : World} {B a g : Nat} {b : List UInt8} {sc : List Int} {r : Nat} {acc : List UInt8} {e : Int} {vb : Value} {n : Nat} (h : HSt w B a g b sc r acc e vb n) (hn : Nw w w') : HSt w' B a g b sc r acc e vb n :=
  ⟨hn.heap h.1, h.2.1.nw hn, h.2.2.1.nw hn, h.2.2.2⟩
set_option maxRecDepth 20000 in
theorem want_no (B a g : Nat) (b : List UInt8) (sc : List Int) (r : Nat) (acc : List UInt8) (e : Int) (vb : Value) (n : Nat) (ok : Bool) (w : World) (h : HSt w B a g b sc r acc e vb n) (hne : e ≠ 0 ∨ ok = true) :
    Calls Try.prog 54 #[.pointer (some ⟨g, 0, none⟩), .bool ok] w fun e' w' => e' = .returned (.tuple #[]) ∧ w = w' := by
  have c2 := heap_cell h.1 2
  simp only [List.getElem?_toArray, List.getElem?_cons_succ, List.getElem?_cons_zero] at c2
  clear h
  by_cases he : e = 0
  · subst he
    obtain rfl : ok = true := by rcases hne with q | q; exact absurd rfl q; exact q
    go_enter Try.func54, Try.ntmps54
    go_wp2
    go_end0
    exact ⟨rfl, rfl⟩
  · have hd : (e == 0) = false := beq_eq_false_iff_ne.2 he
    clear hne he
    go_enter Try.func54, Try.ntmps54
    go_wp2
    go_end0
    exact ⟨rfl, rfl⟩
set_option maxRecDepth 20000 in
theorem want_yes (B a g : Nat) (b : List UInt8) (sc : List Int) (r : Nat) (acc : List UInt8) (vb : Value) (n : Nat) (w : World) (h : HSt w B a g b sc r acc 0 vb n) :
    Calls Try.prog 54 #[.pointer (some ⟨g, 0, none⟩), .bool false] w fun e' w' => e' = .returned (.tuple #[]) ∧ HSt w' B a g b sc r acc 5 vb n ∧ Mods (· = g) w w' := by
  have c2 := heap_cell h.1 2
  have f2 := heap_frozen h.1 2
  simp only [List.getElem?_toArray, List.getElem?_cons_succ, List.getElem?_cons_zero] at c2
  have hm : Mods (· = g) w (w.setCell ⟨g, 2, none⟩ (.int .i64 5)) := Mods.setCell (S := (· = g)) (Mods.refl _ w) (p := ⟨g, 2, none⟩) rfl _
  have hs : HSt (w.setCell ⟨g, 2, none⟩ (.int .i64 5)) B a g b sc r acc 5 vb n := by
    have hh := heap_set h.1 2 (.int .i64 5)
    obtain ⟨h1, h2, h3, h4⟩ := h
    exact ⟨by simpa using hh, Own.modsR h2 hm (fun k hk e => by have := (World.ownsRow.lt h2 k hk).1; omega), h3.mods hm (fun k hk => by omega), h4⟩
  clear h
  go_enter Try.func54, Try.ntmps54
  go_wp2
  go_end0
  exact ⟨rfl, hs, hm⟩
set_option maxRecDepth 20000 in
theorem part_no (B a g : Nat) (b : List UInt8) (sc : List Int) (r : Nat) (acc : List UInt8) (e : Int) (vb : Value) (n : Nat) (k : Int) (w : World) (h : HSt w B a g b sc r acc e vb n) (he : e ≠ 0) :
    Calls Try.prog 53 #[.pointer (some ⟨g, 0, none⟩), .int .i64 k] w fun e' w' => e' = .returned (.slice none 0 0) ∧ w = w' := by
  have c2 := heap_cell h.1 2
  simp only [List.getElem?_toArray, List.getElem?_cons_succ, List.getElem?_cons_zero] at c2
  have hd : (e != 0) = true := by simpa using he
  clear h he
  go_enter Try.func53, Try.ntmps53
  go_wp2
  go_ret
  exact ⟨rfl, rfl⟩
/-- What part hands back where it reads on. -/
def PartOk (w : World) (B a g : Nat) (b : List UInt8) (sc : List Int) (r : Nat) (acc xs : List UInt8) (vb : Value) (n k : Nat) (e : Ending) (w' : World) : Prop :=
  ∃ v vb' n', e = .returned v ∧ Own w' w.heap.size 5 v (u8s xs) ∧ HSt w' B a g b sc r (acc ++ xs) 0 vb' n' ∧ n' ≤ n + k ∧ (∀ j, vb'.ownBlock = some j → (vb.ownBlock = some j ∨ w.heap.size ≤ j) ∧ v.ownBlock ≠ some j) ∧ Mods (fun j => j = a ∨ j = g ∨ vb.ownBlock = some j) w w'
/-- And where it can't. -/
def PartErr (w : World) (B a g : Nat) (b : List UInt8) (sc : List Int) (r : Nat) (acc : List UInt8) (vb : Value) (n k : Nat) (y : Int) (e : Ending) (w' : World) : Prop :=
  e = .returned (.slice none 0 0) ∧ (∃ n', n' ≤ n + k ∧ HSt w' B a g b sc r acc y vb n') ∧ Mods (fun j => j = a ∨ j = g) w w'
set_option maxRecDepth 20000 in
set_option maxHeartbeats 1600000 in
theorem part_ok (B a g : Nat) (b : List UInt8) (sc : List Int) (r : Nat) (acc xs : List UInt8) (vb : Value) (n k : Nat) (w : World) (h : HSt w B a g b sc r acc 0 vb n) (ok : Ok b sc r) (hn : n ≤ 100000000000000) (hal : acc.length ≤ 1000000000) (hk : k ≤ 1000000) (hrd : rd b r acc.length (k : Int) = (xs, 0)) :
    Calls Try.prog 53 #[.pointer (some ⟨g, 0, none⟩), .int .i64 (k : Int)] w (PartOk w B a g b sc r acc xs vb n k) := by
  have hxl : xs.length ≤ 1000000 := by
    have := congrArg (fun x => x.1.length) hrd
    simp only [rd, List.length_take] at this
    omega
  obtain ⟨h1, h2, h3, h4⟩ := id h
  have c0 := heap_cell h1 0
  have c1 := heap_cell h1 1
  have c2 := heap_cell h1 2
  simp only [List.getElem?_toArray, List.getElem?_cons_succ, List.getElem?_cons_zero] at c0 c1 c2
  have hgl := h.lt
  have hlt := fun k hk => World.ownsRow.lt h2 k hk
  obtain ⟨pb, cb, rfl, _⟩ := h2.sl.open (n := acc.length) (u8s_length _)
  have HRD := hid (fun w' (hn : Nw w w') => show Calls Try.prog 59 #[.pointer (some ⟨a, 0, none⟩), .int .i64 (acc.length : Int), .int .i64 (k : Int)] w' (HandsRd w' B a b sc r n (k : Int) (xs, 0)) by
    rw [← hrd]
    exact sread_c B a b sc r n acc.length (k : Int) w' (h3.nw hn) ok (by omega) hal (by omega) (by omega))
  have HL := hid hlt
  have HH := hid h
  clear h h3 hlt hrd
  go_enter Try.func53, Try.ntmps53
  go_upto_region 3 with fail
  go_region_with ((go_at_call 59; refine (HRD.out _ (by repeat (first | assumption | exact Nw.refl _ | refine Nw.alloc ?_ _ | refine Nw.drew ?_ | refine Nw.drewN2 ?_ _ | (refine Nw.trans ?_ (by assumption))))).mono ?_; rintro e w1 ⟨v1, n1, rfl, hown1, hsi1, hn1, hm1⟩; replace hown1 := Own.mono hown1 (Nw.size (show Nw w _ from (by repeat (first | assumption | exact Nw.refl _ | refine Nw.alloc ?_ _ | refine Nw.drew ?_ | refine Nw.drewN2 ?_ _ | (refine Nw.trans ?_ (by assumption)))))); obtain ⟨p1, c1', rfl, _⟩ := hown1.sl.open (n := xs.length) (u8s_length _); have hm1 : Mods (· = a) w w1 := Mods.trans ((show Nw w _ from (by repeat (first | assumption | exact Nw.refl _ | refine Nw.alloc ?_ _ | refine Nw.drew ?_ | refine Nw.drewN2 ?_ _ | (refine Nw.trans ?_ (by assumption))))).mods _) hm1; have hg1 := hm1.heap h1 (by omega); have d0 := heap_cell hg1 0; have d1 := heap_cell hg1 1; have d2 := heap_cell hg1 2; have f1 := heap_frozen hg1 1; have f2 := heap_frozen hg1 2; simp only [List.getElem?_toArray, List.getElem?_cons_succ, List.getElem?_cons_zero] at d0 d1 d2))
  all_goals
    have hz1 := hm1.size
    have hgn : g + 1 ≤ w1.heap.size := by omega
    have hpl : pb = none ∨ ∃ q, pb = some q := by cases pb; exact Or.inl rfl; exact Or.inr ⟨_, rfl⟩
    have hB1 : Own w1 (g + 1) 5 (.slice pb acc.length cb) (u8s acc) := Own.modsR h2 hm1 (fun q hq e => by have := HL.out q hq; omega)
    go_wp2_with (first
      | (at_builtin; refine app1g rfl _ _ _ rfl _ _ _ Try.underlying22 info_u8 rfl (by decide) hgn hB1 rfl hown1.sl rfl (u8s_one _) ?_ ?_; rotate_left; (rw [u8s_length, u8s_length]; omega); intro v2 w2 hown2 hg2 ha2; obtain ⟨p2, c2', rfl, _⟩ := hown2.sl.open (n := acc.length + xs.length) (by rw [List.length_append, u8s_length, u8s_length]); have hq2 := (hg2.block g (lt_of_heap hg1) (fun e => by have := (HL.out g e.symm).1; omega)).trans hg1; clear d0 d1 d2 f1 f2; have f1 := heap_frozen hq2 1; have d1 := heap_cell hq2 1; simp only [List.getElem?_toArray, List.getElem?_cons_succ, List.getElem?_cons_zero] at d1)
      | fail)
    go_ret
    have hsz2 := hg2.size
    have hm2 : Mods (fun j => j = a ∨ j = g ∨ (Value.slice pb acc.length cb).ownBlock = some j) w w2 := Mods.grownIn (hm1.mono (fun j hj => Or.inl hj)) hg2 (fun j hj => Or.inl (Or.inr (Or.inr hj)))
    have hm3 := Mods.setCell hm2 (p := ⟨g, 1, none⟩) (Or.inr (Or.inl rfl)) (.slice p2 (acc.length + xs.length) c2')
    have hh := heap_set hq2 1 (.slice p2 (acc.length + xs.length) c2')
    have hms : Mods (· = g) w2 (w2.setCell ⟨g, 1, none⟩ (.slice p2 (acc.length + xs.length) c2')) := Mods.setCell (S := (· = g)) (Mods.refl _ w2) (p := ⟨g, 1, none⟩) rfl _
    have hrow : Own w2 w.heap.size 5 (.slice p1 xs.length c1') (u8s xs) := Own.modsR hown1 (S := fun j => (Value.slice pb acc.length cb).ownBlock = some j) ⟨hg2.os, hg2.tape, hg2.output, hg2.size, fun q hq hs => hg2.block q hq (fun e => hs e.symm)⟩ (fun q hq e => by have h1 := (World.ownsRow.lt hown1 q hq).1; have h2 := (HL.out q e).2; omega)
    have hsi2 : SI w2 B a b sc r n1 := hsi1.mods (S := fun j => (Value.slice pb acc.length cb).ownBlock = some j) ⟨hg2.os, hg2.tape, hg2.output, hg2.size, fun q hq hs => hg2.block q hq (fun e => hs e.symm)⟩ (fun q hq => by have := (HL.out q hq).1; omega)
    refine ⟨_, .slice p2 (acc.length + xs.length) c2', n1, rfl, Own.modsR hrow hms (fun q hq e => by have := (World.ownsRow.lt hrow q hq).1; omega), ⟨by simpa using hh, ?_, hsi2.mods hms (fun q hq => by omega), h4⟩, by omega, fun j hj => ?_, hm3⟩
    · rw [← u8s_append]
      exact Own.modsR hown2 hms (fun q hq e => by have := (World.ownsRow.lt hown2 q hq).1; omega)
    · rcases ha2 with q | q
      · rw [q] at hj
        refine ⟨Or.inl hj, fun e => ?_⟩
        have h5 := (World.ownsRow.lt hown1 j e).1
        have h6 := (HL.out j hj).2
        omega
      · rw [q] at hj
        cases hj
        refine ⟨Or.inr hz1, fun e => ?_⟩
        have h5 := (World.ownsRow.lt hown1 _ e).2
        omega
set_option maxRecDepth 20000 in
set_option maxHeartbeats 1600000 in
theorem part_err (B a g : Nat) (b : List UInt8) (sc : List Int) (r : Nat) (acc xs : List UInt8) (vb : Value) (n k : Nat) (y : Int) (w : World) (h : HSt w B a g b sc r acc 0 vb n) (ok : Ok b sc r) (hn : n ≤ 100000000000000) (hal : acc.length ≤ 1000000000) (hk : k ≤ 1000000) (hrd : rd b r acc.length (k : Int) = (xs, y)) (hy : y = 10 ∨ y = 13) :
    Calls Try.prog 53 #[.pointer (some ⟨g, 0, none⟩), .int .i64 (k : Int)] w (PartErr w B a g b sc r acc vb n k (if y = 10 then 10 else 5)) := by
  have hxl : xs.length ≤ 1000000 := by
    have := congrArg (fun x => x.1.length) hrd
    simp only [rd, List.length_take] at this
    omega
  rcases hy with rfl | rfl
  · rw [if_pos rfl]
    obtain ⟨h1, h2, h3, h4⟩ := id h
    have c0 := heap_cell h1 0
    have c1 := heap_cell h1 1
    have c2 := heap_cell h1 2
    simp only [List.getElem?_toArray, List.getElem?_cons_succ, List.getElem?_cons_zero] at c0 c1 c2
    have hgl := h.lt
    have hlt := fun k hk => World.ownsRow.lt h2 k hk
    obtain ⟨pb, cb, rfl, _⟩ := h2.sl.open (n := acc.length) (u8s_length _)
    have HRD := hid (fun w' (hn : Nw w w') => show Calls Try.prog 59 #[.pointer (some ⟨a, 0, none⟩), .int .i64 (acc.length : Int), .int .i64 (k : Int)] w' (HandsRd w' B a b sc r n (k : Int) (xs, (10 : Int))) by
      rw [← hrd]
      exact sread_c B a b sc r n acc.length (k : Int) w' (h3.nw hn) ok (by omega) hal (by omega) (by omega))
    have HL := hid hlt
    have HH := hid h
    clear h h3 hlt hrd
    go_enter Try.func53, Try.ntmps53
    go_upto_region 3 with fail
    go_region_with ((go_at_call 59; refine (HRD.out _ (by repeat (first | assumption | exact Nw.refl _ | refine Nw.alloc ?_ _ | refine Nw.drew ?_ | refine Nw.drewN2 ?_ _ | (refine Nw.trans ?_ (by assumption))))).mono ?_; rintro e w1 ⟨v1, n1, rfl, hown1, hsi1, hn1, hm1⟩; replace hown1 := Own.mono hown1 (Nw.size (show Nw w _ from (by repeat (first | assumption | exact Nw.refl _ | refine Nw.alloc ?_ _ | refine Nw.drew ?_ | refine Nw.drewN2 ?_ _ | (refine Nw.trans ?_ (by assumption)))))); obtain ⟨p1, c1', rfl, _⟩ := hown1.sl.open (n := xs.length) (u8s_length _); have hm1 : Mods (· = a) w w1 := Mods.trans ((show Nw w _ from (by repeat (first | assumption | exact Nw.refl _ | refine Nw.alloc ?_ _ | refine Nw.drew ?_ | refine Nw.drewN2 ?_ _ | (refine Nw.trans ?_ (by assumption))))).mods _) hm1; have hg1 := hm1.heap h1 (by omega); have d0 := heap_cell hg1 0; have d1 := heap_cell hg1 1; have d2 := heap_cell hg1 2; have f1 := heap_frozen hg1 1; have f2 := heap_frozen hg1 2; simp only [List.getElem?_toArray, List.getElem?_cons_succ, List.getElem?_cons_zero] at d0 d1 d2))
    all_goals
     go_wp2
     go_ret
     have hh := heap_set (heap_set hg1 2 (.int .i64 5)) 2 (.int .i64 10)
     have hm3 := Mods.setCell (Mods.setCell (hm1.mono (T := fun j => j = a ∨ j = g) (fun j hj => Or.inl hj)) (p := ⟨g, 2, none⟩) (Or.inr rfl) (.int .i64 5)) (p := ⟨g, 2, none⟩) (Or.inr rfl) (.int .i64 10)
     have hms : Mods (· = g) w1 ((w1.setCell ⟨g, 2, none⟩ (.int .i64 5)).setCell ⟨g, 2, none⟩ (.int .i64 10)) := Mods.setCell (S := (· = g)) (Mods.setCell (S := (· = g)) (Mods.refl _ w1) (p := ⟨g, 2, none⟩) rfl _) (p := ⟨g, 2, none⟩) rfl _
     exact ⟨rfl, ⟨n1, by omega, by simpa using hh, Own.modsR h2 hm3 (fun q hq e => by have := (HL.out q hq).1; omega), hsi1.mods hms (fun q hq => by omega), h4⟩, hm3⟩
  · rw [if_neg (by decide)]
    obtain ⟨h1, h2, h3, h4⟩ := id h
    have c0 := heap_cell h1 0
    have c1 := heap_cell h1 1
    have c2 := heap_cell h1 2
    simp only [List.getElem?_toArray, List.getElem?_cons_succ, List.getElem?_cons_zero] at c0 c1 c2
    have hgl := h.lt
    have hlt := fun k hk => World.ownsRow.lt h2 k hk
    obtain ⟨pb, cb, rfl, _⟩ := h2.sl.open (n := acc.length) (u8s_length _)
    have HRD := hid (fun w' (hn : Nw w w') => show Calls Try.prog 59 #[.pointer (some ⟨a, 0, none⟩), .int .i64 (acc.length : Int), .int .i64 (k : Int)] w' (HandsRd w' B a b sc r n (k : Int) (xs, (13 : Int))) by
      rw [← hrd]
      exact sread_c B a b sc r n acc.length (k : Int) w' (h3.nw hn) ok (by omega) hal (by omega) (by omega))
    have HL := hid hlt
    have HH := hid h
    clear h h3 hlt hrd
    go_enter Try.func53, Try.ntmps53
    go_upto_region 3 with fail
    go_region_with ((go_at_call 59; refine (HRD.out _ (by repeat (first | assumption | exact Nw.refl _ | refine Nw.alloc ?_ _ | refine Nw.drew ?_ | refine Nw.drewN2 ?_ _ | (refine Nw.trans ?_ (by assumption))))).mono ?_; rintro e w1 ⟨v1, n1, rfl, hown1, hsi1, hn1, hm1⟩; replace hown1 := Own.mono hown1 (Nw.size (show Nw w _ from (by repeat (first | assumption | exact Nw.refl _ | refine Nw.alloc ?_ _ | refine Nw.drew ?_ | refine Nw.drewN2 ?_ _ | (refine Nw.trans ?_ (by assumption)))))); obtain ⟨p1, c1', rfl, _⟩ := hown1.sl.open (n := xs.length) (u8s_length _); have hm1 : Mods (· = a) w w1 := Mods.trans ((show Nw w _ from (by repeat (first | assumption | exact Nw.refl _ | refine Nw.alloc ?_ _ | refine Nw.drew ?_ | refine Nw.drewN2 ?_ _ | (refine Nw.trans ?_ (by assumption))))).mods _) hm1; have hg1 := hm1.heap h1 (by omega); have d0 := heap_cell hg1 0; have d1 := heap_cell hg1 1; have d2 := heap_cell hg1 2; have f1 := heap_frozen hg1 1; have f2 := heap_frozen hg1 2; simp only [List.getElem?_toArray, List.getElem?_cons_succ, List.getElem?_cons_zero] at d0 d1 d2))
    all_goals
     go_wp2
     go_ret
     have hh := heap_set hg1 2 (.int .i64 5)
     have hm3 := Mods.setCell (hm1.mono (T := fun j => j = a ∨ j = g) (fun j hj => Or.inl hj)) (p := ⟨g, 2, none⟩) (Or.inr rfl) (.int .i64 5)
     have hms : Mods (· = g) w1 (w1.setCell ⟨g, 2, none⟩ (.int .i64 5)) := Mods.setCell (S := (· = g)) (Mods.refl _ w1) (p := ⟨g, 2, none⟩) rfl _
     exact ⟨rfl, ⟨n1, by omega, by simpa using hh, Own.modsR h2 hm3 (fun q hq e => by have := (HL.out q hq).1; omega), hsi1.mods hms (fun q hq => by omega), h4⟩, hm3⟩
end Sc
end Go.Proofs.Ytdihoedehmfgfaa
