/- A statement whose order Go leaves open and whose last operation (a store) waits for all others: the others in the order of the text, then the last, which may change what is there. No condition. -/
import Derived.Test.YthellicimicieaaSeq
set_option linter.unusedSimpArgs false
set_option linter.unusedVariables false
namespace Go.Proofs.Ythellicimicieaa
open Go.RowKit
section
variable {P : Program} {l : List Oper} {Q : Exit → Act → World → Prop} {w0 : World} {L : List Say}
theorem wpAny_all {listed : Array Bool} (hs : listed.size = l.length) (h : ∀ i, i < l.length → listed.getD i false = true) {fuel : Nat} {a : Act} {w : World} (hQ : Q .normal a w) : wpAny P .any l.toArray Q fuel listed a w := by
  have hr : Region.ready .any l.toArray listed = [] := by
    cases hr : Region.ready .any l.toArray listed with
    | nil => rfl
    | cons i r =>
      exfalso
      obtain ⟨o, ho, h1, _⟩ := ready_spec (l := l) (listed := listed) (i := i) (by rw [hr]; simp)
      have hi := (List.getElem?_eq_some_iff.1 ho).1
      have h2 := h i hi
      simp [show i < listed.size by omega] at h1 h2
      rw [h1] at h2
      cases h2
  cases fuel with
  | zero => exact ⟨hr, hQ⟩
  | succ n => exact ⟨fun _ => hQ, fun i hi => by rw [hr] at hi; cases hi⟩
theorem wpAny_last {a0 : Act} {R : World → World → Prop} {Φ : Nat → World → Value → Prop} (hok : okOps l = true) {m : Nat} {oz : Oper} (hlen : l.length = m + 1) (hoz : l[m]? = some oz) (hg : oz.guard = none)
    (hall : ∀ j, j < m → ∃ e ∈ oz.after, e.on = j ∧ Region.binds .any e = true)
    (htr : ∀ a b c, R a b → R b c → R a c) (hst : ∀ i w w' v, Φ i w v → R w w' → Φ i w' v)
    (hs : ∀ i o, i < m → l[i]? = some o → StepOk P l Q a0 w0 R Φ i o) (hend : ∀ x w, R w0 w → (∀ i, i < m → Φ i w (x i)) → oz.wp P (fill a0 x 0 l) w (fun a w => Q .normal a w) Q) :
    ∀ (fuel : Nat) (listed : Array Bool) (x : Nat → Value) (w : World), listed.size = l.length → listed.getD m true = false → left listed ≤ fuel → R w0 w →
      (∀ i, i < m → listed.getD i false = true → Φ i w (x i)) → wpAny P .any l.toArray Q fuel listed (fill a0 x 0 l) w := by
  intro fuel
  have no : ∀ listed : Array Bool, listed.size = l.length → listed.getD m true = false → Region.ready .any l.toArray listed = [] → False := fun listed hsz hm hr => by
    have := ready_none hok hsz hr m (by omega)
    simp [show m < listed.size by omega] at this hm
    rw [hm] at this
    cases this
  induction fuel with
  | zero =>
    intro listed x w hsz hm hl hw hΦ
    exfalso
    refine no listed hsz hm ?_
    cases hr : Region.ready .any l.toArray listed with
    | nil => rfl
    | cons i r =>
      exfalso
      obtain ⟨o, _, h1, _⟩ := ready_spec (l := l) (listed := listed) (i := i) (by rw [hr]; simp)
      have := left_set h1
      omega
  | succ fuel ih =>
    intro listed x w hsz hm hl hw hΦ
    refine ⟨fun hr => (no listed hsz hm hr).elim, fun i hi => ?_⟩
    obtain ⟨o, ho, h1, h2⟩ := ready_spec hi
    have hil : i < l.length := (List.getElem?_eq_some_iff.1 ho).1
    refine wpOp_step (by simpa using ho) fun K' hK' => ?_
    by_cases him : i = m
    · subst him
      obtain rfl : o = oz := by rw [ho] at hoz; exact Option.some.inj hoz
      have hw1 : Region.wanted o (yielded l.toArray (fill a0 x 0 l).tmps) = true := by unfold Region.wanted; rw [hg]
      rw [if_pos hw1]
      have hlst : ∀ j, j < i → listed.getD j false = true := fun j hj => by
        obtain ⟨e, he, e1, e2⟩ := hall j hj
        have := h2 e he e2
        rwa [e1] at this
      refine Oper.wp_mono (fun a' w' hq => hK' _ _ ?_) (hend x w hw fun j hj => hΦ j hj (hlst j hj))
      refine wpAny_all (by simpa using hsz) (fun j hj => ?_) hq
      by_cases hji : j = i
      · subst hji
        simp [show j < listed.size by omega]
      · have := hlst j (by omega)
        simpa [Array.getElem?_setIfInBounds, Ne.symm hji] using this
    · have hstep := hs i o (by omega) ho
      refine hstep x w hw (fun e he hb => ?_) K' fun v w' hww hv => hK' _ _ ?_
      · have hlt := okOps_after hok ho he hb
        exact hΦ e.on (by omega) (h2 e he hb)
      · rw [fill_put hok a0 x ho v]
        refine ih _ _ w' (by simpa using hsz) ?_ (by have := left_set h1; omega) (htr _ _ _ hw hww) fun j hj hl2 => ?_
        · simpa [Array.getElem?_setIfInBounds, him] using hm
        · simp only [upd]
          by_cases hji : j = i
          · subst hji; rw [if_pos rfl]; exact hv
          · rw [if_neg hji]
            refine hst _ _ _ _ (hΦ j hj ?_) hww
            simpa [Array.getElem?_setIfInBounds, Ne.symm hji] using hl2
theorem fill_none {x : Nat → Value} {l0 : List Oper} {oz : Oper} (hd : oz.dst = none) (a0 : Act) : fill a0 x 0 (l0 ++ [oz]) = fill a0 x 0 l0 := by
  rw [fill_snoc, hd]; rfl
def okEnd (l0 : List Oper) (oz : Oper) : Bool :=
  oz.guard.isNone && oz.dst.isNone && ((List.range l0.length).all fun j => oz.after.any fun e => e.on == j && Region.binds .any e) && l0.all fun o => match o.guard with | none => true | some g => decide (g.1 < l0.length)
/-- THE LAW: all but the last in the order of the text, then the last. -/
theorem wp_region_end {P : Program} {id : Nat} {l : List Oper} {Q : Exit → Act → World → Prop} {a0 : Act} {w0 : World} {oz : Oper} (hz : l.getLast? = some oz)
    (hm : P.follows .mixedOrders = true) (hok : okOps l = true) (hok0 : okOps l.dropLast = true) (hok2 : okSeq l.dropLast = true) (hoke : okEnd l.dropLast oz = true)
    (hs : Stairs P l.dropLast (fun _ a w => oz.wp P a w (fun a w => Q .normal a w) Q) w0 [] l.dropLast (fun _ => a0)) : (Code.region id l.toArray true).wp P Q a0 w0 := by
  have hl : l = l.dropLast ++ [oz] := by
    obtain ⟨h1, h2⟩ := List.getLast?_eq_some_iff.1 hz
    rw [h2]; simp
  generalize l.dropLast = l0 at *
  subst hl
  simp only [okEnd, Bool.and_eq_true] at hoke
  obtain ⟨⟨⟨e1, e2⟩, e3⟩, e4⟩ := hoke
  have hg : oz.guard = none := by simpa using e1
  have hd : oz.dst = none := by simpa using e2
  obtain ⟨M, hM, h⟩ := stairs_ok hok0 l0 [] _ rfl hs
  obtain ⟨t1, t2⟩ := steps_ok (a0 := a0) (Q2 := Q) hok0 hok2 l0 0 rfl h
  have hwt : ∀ o ∈ l0, ∀ t, Region.wanted o (yielded (l0 ++ [oz]).toArray t) = Region.wanted o (yielded l0.toArray t) := fun o ho t => by
    have h4 := (List.all_eq_true.1 e4) o ho
    unfold Region.wanted
    cases hgo : o.guard with
    | none => rfl
    | some g =>
      rw [hgo] at h4
      have hlt : g.1 < l0.length := of_decide_eq_true h4
      have : yielded (l0 ++ [oz]).toArray t g.1 = yielded l0.toArray t g.1 := by
        unfold yielded
        simp [List.getElem?_append_left hlt]
      simp only [this]
  refine wp_region_any hm ?_
  have key := wpAny_last (P := P) (l := l0 ++ [oz]) (Q := Q) (w0 := w0) (a0 := a0) (R := Nw) (Φ := fun j w v => (sayAt M j).ok w v) hok (m := l0.length) (oz := oz) (by simp) (by simp) hg
    (fun j hj => by
      have := (List.all_eq_true.1 e3) j (List.mem_range.2 hj)
      simp only [Array.any_eq_true', Bool.and_eq_true, beq_iff_eq] at this
      obtain ⟨e, he, h5, h6⟩ := this
      exact ⟨e, he, h5, h6⟩)
    (fun _ _ _ => Nw.trans) (fun i w w' v h hn => Say.ok_stab (sayAt_stab hM i) h hn)
    (fun i o hi ho x w hw hdep K hK => by
      have ho' : l0[i]? = some o := by rwa [List.getElem?_append_left hi] at ho
      have hst := t1.get i o ho'
      rw [Nat.zero_add] at hst
      rw [fill_none hd] at *
      rw [hwt o (List.mem_of_getElem? ho')]
      exact hst x w hw hdep K hK)
    (fun x w hw hx => by
      rw [fill_none hd]
      exact t2 x w hw hx)
    (l0 ++ [oz]).toArray.size (Array.replicate (l0 ++ [oz]).toArray.size false) (fun i => (((l0 ++ [oz])[i]?).bind (·.dst)).elim undef (a0.tmps.getD · undef)) w0.drew (by simp)
    (by simp) (Nat.le_trans List.countP_le_length (by simp)) (Nw.refl _).drew (fun i _ h => by simp [Array.getElem?_replicate] at h; split at h <;> simp at h)
  rw [fill_same] at key
  exact key
end
end Go.Proofs.Ythellicimicieaa
