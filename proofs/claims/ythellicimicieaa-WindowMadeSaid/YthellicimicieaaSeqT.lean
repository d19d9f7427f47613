/- A statement whose order Go leaves open but for its last operations, which come one by one in the order of the text (an append, the address, the store): the others in the order of the text, then the last as a plain list. No condition. -/
import Derived.Test.YthellicimicieaaSeq
import Derived.Test.YthellicimicieaaSeqEnd
set_option linter.unusedSimpArgs false
set_option linter.unusedVariables false
namespace Go.Proofs.Ythellicimicieaa
open Go.RowKit
section
variable {P : Program} {l : List Oper} {Q : Exit → Act → World → Prop} {w0 : World} {L : List Say}
def dep (l : List Oper) (k j : Nat) : Bool := match l[k]? with
  | some o => o.after.any fun e => e.on == j && Region.binds .any e
  | none => false
theorem dep_spec {k j : Nat} (h : dep l k j = true) : ∃ o, l[k]? = some o ∧ ∃ e ∈ o.after, e.on = j ∧ Region.binds .any e = true := by
  unfold dep at h
  cases ho : l[k]? with
  | none => rw [ho] at h; cases h
  | some o =>
    rw [ho] at h
    simp only [Array.any_eq_true', Bool.and_eq_true, beq_iff_eq] at h
    obtain ⟨e, he, h1, h2⟩ := h
    exact ⟨o, rfl, e, he, h1, h2⟩
def reach (l : List Oper) (m : Nat) : Nat → Nat → Bool
  | 0, _ => false
  | f + 1, j => (List.range (m + 1)).any fun k => dep l k j && (k == m || reach l m f k)
def Shut (l : List Oper) (listed : Array Bool) : Prop := ∀ k o, l[k]? = some o → listed.getD k false = true → ∀ e ∈ o.after, Region.binds .any e = true → listed.getD e.on false = true
theorem reach_spec {m : Nat} {listed : Array Bool} {om : Oper} (hc : Shut l listed) (hm : l[m]? = some om) (h2 : ∀ e ∈ om.after, Region.binds .any e = true → listed.getD e.on false = true) :
    ∀ f j, reach l m f j = true → listed.getD j false = true
  | 0, j, h => by cases h
  | f + 1, j, h => by
    simp only [reach, List.any_eq_true, Bool.and_eq_true, Bool.or_eq_true, beq_iff_eq] at h
    obtain ⟨k, _, hd, hk⟩ := h
    obtain ⟨o, ho, e, he, e1, e2⟩ := dep_spec hd
    rcases hk with rfl | hk
    · rw [hm] at ho
      obtain rfl := Option.some.inj ho
      have := h2 e he e2
      rwa [e1] at this
    · have := hc k o ho (reach_spec hc hm h2 f k hk) e he e2
      rwa [e1] at this
theorem wpOp_of_list {ops : Array Oper} {i : Nat} {o : Oper} {rest : List Oper} {a : Act} {w : World} (ho : ops[i]? = some o) (h : wpList P ops Q (o :: rest) a w) : wpOp P ops Q i (wpList P ops Q rest) a w := by
  unfold wpOp
  rw [ho]
  exact h
theorem tail_go {m : Nat} (hok : okOps l = true) (htail : ∀ i, m < i → i < l.length → ∀ j, j < i → dep l i j = true) :
    ∀ (fuel i : Nat) (listed : Array Bool) (a : Act) (w : World), m < i → i ≤ l.length → listed.size = l.length → (∀ j, j < i → listed.getD j false = true) → (∀ j, i ≤ j → j < l.length → listed.getD j true = false) →
      l.length - i ≤ fuel → wpList P l.toArray Q (l.drop i) a w → wpAny P .any l.toArray Q fuel listed a w := by
  intro fuel
  induction fuel with
  | zero =>
    intro i listed a w hmi hil hsz h1 h2 hf h
    obtain rfl : i = l.length := by omega
    rw [List.drop_length] at h
    exact wpAny_all hsz h1 h
  | succ fuel ih =>
    intro i listed a w hmi hil hsz h1 h2 hf h
    by_cases hie : i = l.length
    · subst hie
      rw [List.drop_length] at h
      exact wpAny_all hsz h1 h
    · have hlt : i < l.length := by omega
      have hun := h2 i (Nat.le_refl _) hlt
      refine ⟨fun hr => ?_, fun k hk => ?_⟩
      · have := ready_none hok hsz hr i hlt
        simp [show i < listed.size by omega] at this hun
        rw [hun] at this
        cases this
      · obtain ⟨o, ho, g1, g2⟩ := ready_spec hk
        have hkl : k < l.length := (List.getElem?_eq_some_iff.1 ho).1
        have hki : k = i := by
          rcases Nat.lt_trichotomy k i with hlt2 | rfl | hgt
          · have := h1 k hlt2
            simp [show k < listed.size by omega] at this g1
            rw [g1] at this
            cases this
          · rfl
          · obtain ⟨o', ho', e, he, e1, e2⟩ := dep_spec (htail k (by omega) hkl i hgt)
            rw [ho] at ho'
            obtain rfl := Option.some.inj ho'
            have := g2 e he e2
            rw [e1] at this
            simp [show i < listed.size by omega] at this hun
            rw [hun] at this
            cases this
        subst hki
        have hd : l.drop k = o :: l.drop (k + 1) := by
          rw [List.drop_eq_getElem_cons hkl]
          have := (List.getElem?_eq_some_iff.1 ho).2
          rw [this]
        rw [hd] at h
        refine wpOp_mono (fun a' w' hq => ih (k + 1) _ a' w' (by omega) (by omega) (by simpa using hsz) (fun j hj => ?_) (fun j hj hjl => ?_) (by omega) hq) (wpOp_of_list (by simpa using ho) h)
        · by_cases hjk : j = k
          · subst hjk; simp [show j < listed.size by omega]
          · have := h1 j (by omega)
            simpa [Array.getElem?_setIfInBounds, Ne.symm hjk] using this
        · have := h2 j (by omega) hjl
          simpa [Array.getElem?_setIfInBounds, show ¬ k = j by omega] using this
theorem wpAny_tail {a0 : Act} {R : World → World → Prop} {Φ : Nat → World → Value → Prop} (hok : okOps l = true) {m f : Nat} {om : Oper} (hom : l[m]? = some om)
    (hreach : ∀ j, j < m → reach l m f j = true) (htail : ∀ i, m < i → i < l.length → ∀ j, j < i → dep l i j = true)
    (htr : ∀ a b c, R a b → R b c → R a c) (hst : ∀ i w w' v, Φ i w v → R w w' → Φ i w' v)
    (hs : ∀ i o, i < m → l[i]? = some o → StepOk P l Q a0 w0 R Φ i o) (hend : ∀ x w, R w0 w → (∀ i, i < m → Φ i w (x i)) → wpList P l.toArray Q (l.drop m) (fill a0 x 0 l) w) :
    ∀ (fuel : Nat) (listed : Array Bool) (x : Nat → Value) (w : World), listed.size = l.length → (∀ j, m ≤ j → j < l.length → listed.getD j true = false) → Shut l listed → left listed ≤ fuel → R w0 w →
      (∀ i, i < m → listed.getD i false = true → Φ i w (x i)) → wpAny P .any l.toArray Q fuel listed (fill a0 x 0 l) w := by
  intro fuel
  have hml : m < l.length := (List.getElem?_eq_some_iff.1 hom).1
  have no : ∀ listed : Array Bool, listed.size = l.length → listed.getD m true = false → Region.ready .any l.toArray listed = [] → False := fun listed hsz hm hr => by
    have := ready_none hok hsz hr m (by omega)
    simp [show m < listed.size by omega] at this hm
    rw [hm] at this
    cases this
  induction fuel with
  | zero =>
    intro listed x w hsz hm hc hl hw hΦ
    exfalso
    refine no listed hsz (hm m (Nat.le_refl _) hml) ?_
    cases hr : Region.ready .any l.toArray listed with
    | nil => rfl
    | cons i r =>
      exfalso
      obtain ⟨o, _, h1, _⟩ := ready_spec (l := l) (listed := listed) (i := i) (by rw [hr]; simp)
      have := left_set h1
      omega
  | succ fuel ih =>
    intro listed x w hsz hm hc hl hw hΦ
    refine ⟨fun hr => (no listed hsz (hm m (Nat.le_refl _) hml) hr).elim, fun i hi => ?_⟩
    obtain ⟨o, ho, h1, h2⟩ := ready_spec hi
    have hil : i < l.length := (List.getElem?_eq_some_iff.1 ho).1
    rcases Nat.lt_trichotomy i m with hlt | rfl | hgt
    · refine wpOp_step (by simpa using ho) fun K' hK' => ?_
      refine hs i o hlt ho x w hw (fun e he hb => ?_) K' fun v w' hww hv => hK' _ _ ?_
      · have hlt2 := okOps_after hok ho he hb
        exact hΦ e.on (by omega) (h2 e he hb)
      · rw [fill_put hok a0 x ho v]
        refine ih _ _ w' (by simpa using hsz) (fun j hj hjl => ?_) (fun k ok hk hlk e he hb => ?_) (by have := left_set h1; omega) (htr _ _ _ hw hww) fun j hj hl2 => ?_
        · have := hm j hj hjl
          simpa [Array.getElem?_setIfInBounds, show ¬ i = j by omega] using this
        · have key : listed.getD e.on false = true := by
            by_cases hki : k = i
            · subst hki
              rw [ho] at hk
              obtain rfl := Option.some.inj hk
              exact h2 e he hb
            · exact hc k ok hk (by simpa [Array.getElem?_setIfInBounds, Ne.symm hki] using hlk) e he hb
          by_cases hei : e.on = i
          · rw [hei]; simp [show i < listed.size by omega]
          · simpa [Array.getElem?_setIfInBounds, Ne.symm hei] using key
        · simp only [upd]
          by_cases hji : j = i
          · subst hji; rw [if_pos rfl]; exact hv
          · rw [if_neg hji]
            refine hst _ _ _ _ (hΦ j hj ?_) hww
            simpa [Array.getElem?_setIfInBounds, Ne.symm hji] using hl2
    · rw [hom] at ho
      obtain rfl := Option.some.inj ho
      have hlst : ∀ j, j < i → listed.getD j false = true := fun j hj => reach_spec hc hom h2 f j (hreach j hj)
      have hw1 := hend x w hw fun j hj => hΦ j hj (hlst j hj)
      have hd : l.drop i = om :: l.drop (i + 1) := by
        rw [List.drop_eq_getElem_cons hil]
        have := (List.getElem?_eq_some_iff.1 hom).2
        rw [this]
      rw [hd] at hw1
      have hcnt : l.length - (i + 1) ≤ fuel := by
        have hlen : left listed ≥ l.length - i := by
          have hs2 : listed.toList = listed.toList.take i ++ listed.toList.drop i := (List.take_append_drop _ _).symm
          unfold left
          rw [hs2, List.countP_append]
          have : (listed.toList.drop i).countP (· == false) = (listed.toList.drop i).length := by
            rw [List.countP_eq_length]
            intro b hb
            obtain ⟨n, hn, rfl⟩ := List.getElem_of_mem hb
            have hn' : i + n < listed.size := by simp at hn; omega
            have := hm (i + n) (by omega) (by omega)
            simp [hn'] at this
            simpa using this
          rw [this, List.length_drop, Array.length_toList, hsz]
          omega
        have hml2 := left_set h1
        omega
      refine wpOp_mono (fun a' w' hq => tail_go hok htail fuel (i + 1) _ a' w' (by omega) (by omega) (by simpa using hsz) (fun j hj => ?_) (fun j hj hjl => ?_) hcnt hq) (wpOp_of_list (by simpa using hom) hw1)
      · by_cases hji : j = i
        · subst hji; simp [show j < listed.size by omega]
        · have := hlst j (by omega)
          simpa [Array.getElem?_setIfInBounds, Ne.symm hji] using this
      · have := hm j (by omega) hjl
        simpa [Array.getElem?_setIfInBounds, show ¬ i = j by omega] using this
    · exfalso
      obtain ⟨o', ho', e, he, e1, e2⟩ := dep_spec (htail i hgt hil m hgt)
      rw [ho] at ho'
      obtain rfl := Option.some.inj ho'
      have h3 := h2 e he e2
      have h4 := hm m (Nat.le_refl _) hml
      rw [e1] at h3
      simp [show m < listed.size by omega] at h3 h4
      rw [h4] at h3
      cases h3
theorem fill_append {x : Nat → Value} : ∀ (a b : List Oper) (i : Nat) (c : Act), fill c x i (a ++ b) = fill (fill c x i a) x (i + a.length) b
  | [], b, i, c => rfl
  | o :: r, b, i, c => by
    rw [List.cons_append, fill, fill, fill_append r b (i + 1)]
    congr 1
    simp only [List.length_cons]; omega
theorem slotOf_none {s : Nat} : ∀ (l : List Oper) (i : Nat), (∀ o ∈ l, o.dst ≠ some s) → slotOf s i l = none
  | [], _, _ => rfl
  | o :: r, i, h => by
    rw [slotOf, slotOf_none r (i + 1) (fun p hp => h p (by simp [hp]))]
    simp only
    rw [if_neg (h o (by simp))]
/-- What is asked of the last operations. -/
def okTail (l : List Oper) (m : Nat) : Bool :=
  decide (m < l.length) && ((List.range m).all fun j => reach l m l.length j) && ((List.range l.length).all fun i => !decide (m < i) || (List.range i).all fun j => dep l i j) &&
  ((l.take m).all fun o => (match o.guard with | none => true | some g => decide (g.1 < m)) && (o.looksAt (l.take m).toArray).all fun s => (l.drop m).all fun t => !(t.dst == some s))
/-- THE LAW. -/
theorem wp_region_tail {id : Nat} {a0 : Act} (m : Nat) (hm : P.follows .mixedOrders = true) (hok : okOps l = true) (hok0 : okOps (l.take m) = true) (hok2 : okSeq (l.take m) = true) (hot : okTail l m = true)
    (hs : Stairs P (l.take m) (fun _ a w => ∀ y, wpList P l.toArray Q (l.drop m) (fill a y m (l.drop m)) w) w0 [] (l.take m) (fun _ => a0)) : (Code.region id l.toArray true).wp P Q a0 w0 := by
  simp only [okTail, Bool.and_eq_true] at hot
  obtain ⟨⟨⟨c1, c2⟩, c3⟩, c4⟩ := hot
  have hml : m < l.length := of_decide_eq_true c1
  have hreach : ∀ j, j < m → reach l m l.length j = true := fun j hj => (List.all_eq_true.1 c2) j (List.mem_range.2 hj)
  have htail : ∀ i, m < i → i < l.length → ∀ j, j < i → dep l i j = true := fun i h1 h2 j hj => by
    have := (List.all_eq_true.1 c3) i (List.mem_range.2 h2)
    simp only [decide_eq_true h1, Bool.not_true, Bool.false_or] at this
    exact (List.all_eq_true.1 this) j (List.mem_range.2 hj)
  have hom : l[m]? = some l[m] := List.getElem?_eq_getElem hml
  have hlt0 : (l.take m).length = m := by simp; omega
  have hcat : l.take m ++ l.drop m = l := List.take_append_drop m l
  obtain ⟨M, hM, h⟩ := stairs_ok hok0 (l.take m) [] _ rfl hs
  obtain ⟨t1, t2⟩ := steps_ok (a0 := a0) (Q2 := fun _ _ _ => False) hok0 hok2 (l.take m) 0 rfl h
  have hfa : ∀ x, fill a0 x 0 l = fill (fill a0 x 0 (l.take m)) x m (l.drop m) := fun x => by
    conv => lhs; rw [← hcat]
    rw [fill_append, hlt0, Nat.zero_add]
  refine wp_region_any hm ?_
  have key := wpAny_tail (P := P) (l := l) (Q := Q) (w0 := w0) (a0 := a0) (R := Nw) (Φ := fun j w v => (sayAt M j).ok w v) hok hom hreach htail
    (fun _ _ _ => Nw.trans) (fun i w w' v h hn => Say.ok_stab (sayAt_stab hM i) h hn)
    (fun i o hi ho x w hw hdep K hK => by
      have ho' : (l.take m)[i]? = some o := by rw [List.getElem?_take, if_pos hi]; exact ho
      have hst := t1.get i o ho'
      rw [Nat.zero_add] at hst
      have h4 := (List.all_eq_true.1 c4) o (List.mem_of_getElem? ho')
      rw [Bool.and_eq_true] at h4
      obtain ⟨g4, l4⟩ := h4
      have hsz : (fill a0 x 0 l).tmps.size = (fill a0 x 0 (l.take m)).tmps.size := by rw [fill_size, fill_size]
      have hag : ∀ s ∈ o.looksAt (l.take m).toArray, (fill a0 x 0 l).tmps[s]? = (fill a0 x 0 (l.take m)).tmps[s]? := fun s hs => by
        rw [hfa, fill_get x s (l.drop m), slotOf_none (l.drop m) m (fun t ht e => by
          have := (List.all_eq_true.1 ((List.all_eq_true.1 l4) s hs)) t ht
          rw [e] at this
          simp at this)]
      obtain ⟨hsel, _⟩ := okSeq_spec hok2 ho'
      have hex : execOp (fill a0 x 0 l).eval o = execOp (fill a0 x 0 (l.take m)).eval o := execOp_congr o hsel fun y hy => by
        cases y with
        | tmp t =>
          have := hag t (List.mem_append_left _ (List.mem_filterMap.2 ⟨.tmp t, by simpa using hy, rfl⟩))
          simp only [Act.eval]
          rw [Array.getD_eq_getD_getElem?, Array.getD_eq_getD_getElem?, this]
        | const v => rfl
        | global g => rfl
        | func f => rfl
      have hwt : Region.wanted o (yielded l.toArray (fill a0 x 0 l).tmps) = Region.wanted o (yielded (l.take m).toArray (fill a0 x 0 (l.take m)).tmps) := by
        unfold Region.wanted
        cases hg : o.guard with
        | none => rfl
        | some g =>
          obtain ⟨gi, gb⟩ := g
          rw [hg] at g4
          have hgm : gi < m := of_decide_eq_true g4
          have he : l.toArray[gi]? = (l.take m).toArray[gi]? := by simp [List.getElem?_take, hgm]
          have : yielded l.toArray (fill a0 x 0 l).tmps gi = yielded (l.take m).toArray (fill a0 x 0 (l.take m)).tmps gi := by
            unfold yielded
            rw [he]
            cases hgo : ((l.take m).toArray[gi]?).bind (·.dst) with
            | none => rfl
            | some d =>
              have := hag d (by unfold Oper.looksAt; rw [hg]; refine List.mem_append_right _ ?_; show d ∈ (((l.take m).toArray[gi]?).bind (·.dst)).toList; rw [hgo]; simp)
              simp only [Option.bind_some, this]
          simp only [this]
      have hstep := hst x w hw hdep (fun a' w' => ∃ v, a' = (fill a0 x 0 (l.take m)).put o.dst v ∧ Nw w w' ∧ (sayAt M i).ok w' v) (fun v w' k1 k2 => ⟨v, rfl, k1, k2⟩)
      rw [hwt]
      split
      · rename_i hc
        rw [if_pos hc] at hstep
        refine Oper.wp_mono (fun a' w' hh => ?_) (wp_transfer hsz hex hstep)
        obtain ⟨v, rfl, k1, k2⟩ := hh
        exact hK v w' k1 k2
      · rename_i hc
        rw [if_neg hc] at hstep
        obtain ⟨v, k0, k1, k2⟩ := hstep
        rw [put_same hsz k0]
        exact hK v w k1 k2)
    (fun x w hw hx => by
      rw [hfa]
      exact t2 x w hw (fun i hi => hx i (by omega)) x)
    l.toArray.size (Array.replicate l.toArray.size false) (fun i => ((l[i]?).bind (·.dst)).elim undef (a0.tmps.getD · undef)) w0.drew (by simp)
    (fun j _ hjl => by simp [hjl]) (fun k o _ hk => by simp [Array.getElem?_replicate] at hk; split at hk <;> simp at hk) (Nat.le_trans List.countP_le_length (by simp)) (Nw.refl _).drew (fun i _ h => by simp [Array.getElem?_replicate] at h; split at h <;> simp at h)
  rw [fill_same] at key
  exact key
end
end Go.Proofs.Ythellicimicieaa
