/- A statement whose order Go leaves open, walked once: each of its operations is shown by itself, from what it hangs on; what holds of its value is kept by all the others. No condition. -/
import Derived.Test.YtdihoedehmfgfaaBase
import Derived.Orders
import Derived.RegionTactic
set_option linter.unusedSimpArgs false
set_option linter.unusedVariables false
namespace Go.Proofs.Ytdihoedehmfgfaa
open Go.RowKit

/-- The frame, with the values x of the operations in their slots. -/
def fill (a : Act) (x : Nat → Value) : Nat → List Oper → Act
  | _, [] => a
  | i, o :: r => fill (a.put o.dst (x i)) x (i + 1) r
/-- Which operation's slot is s? (the last one) -/
def slotOf (s : Nat) : Nat → List Oper → Option Nat
  | _, [] => none
  | i, o :: r => match slotOf s (i + 1) r with
    | some j => some j
    | none => if o.dst = some s then some i else none
def upd (x : Nat → Value) (i : Nat) (v : Value) : Nat → Value := fun j => if j = i then v else x j

theorem put_size (a : Act) (d : Option Tmp) (v : Value) : (a.put d v).tmps.size = a.tmps.size := by cases d <;> simp [Act.put]
theorem put_defers (a : Act) (d : Option Tmp) (v : Value) : (a.put d v).defers = a.defers := by cases d <;> rfl
theorem put_get (a : Act) (d : Option Tmp) (v : Value) (s : Nat) : (a.put d v).tmps[s]? = if d = some s ∧ s < a.tmps.size then some v else a.tmps[s]? := by
  cases d with
  | none => simp [Act.put]
  | some d =>
    simp only [Act.put, Array.getElem?_setIfInBounds, Option.some.injEq]
    by_cases h : d = s
    · subst h
      by_cases h2 : d < a.tmps.size
      · simp [h2]
      · simp [h2]
    · simp [h]
theorem fill_size (x : Nat → Value) : ∀ (l : List Oper) (i : Nat) (a : Act), (fill a x i l).tmps.size = a.tmps.size
  | [], _, _ => rfl
  | o :: r, i, a => by rw [fill, fill_size x r, put_size]
theorem fill_defers (x : Nat → Value) : ∀ (l : List Oper) (i : Nat) (a : Act), (fill a x i l).defers = a.defers
  | [], _, _ => rfl
  | o :: r, i, a => by rw [fill, fill_defers x r, put_defers]
theorem fill_get (x : Nat → Value) (s : Nat) : ∀ (l : List Oper) (i : Nat) (a : Act), (fill a x i l).tmps[s]? = match slotOf s i l with
    | some j => if s < a.tmps.size then some (x j) else none
    | none => a.tmps[s]?
  | [], _, _ => rfl
  | o :: r, i, a => by
    rw [fill, fill_get x s r, put_size, slotOf, put_get]
    cases h : slotOf s (i + 1) r with
    | some j => rfl
    | none =>
      dsimp only
      by_cases h1 : o.dst = some s
      · simp only [h1, true_and, if_true]
        by_cases h2 : s < a.tmps.size
        · simp [h2]
        · simp [h2]
      · simp [h1]
theorem slotOf_some {s j : Nat} : ∀ {l : List Oper} {i : Nat}, slotOf s i l = some j → i ≤ j ∧ ∃ o, l[j - i]? = some o ∧ o.dst = some s
  | [], _, h => by cases h
  | o :: r, i, h => by
    simp only [slotOf] at h
    cases h1 : slotOf s (i + 1) r with
    | some k =>
      rw [h1] at h
      cases h
      obtain ⟨h2, o', h3, h4⟩ := slotOf_some h1
      refine ⟨by omega, o', ?_, h4⟩
      rw [show j - i = (j - (i + 1)) + 1 by omega]
      simpa using h3
    | none =>
      rw [h1] at h
      dsimp only at h
      split at h
      · cases h
        exact ⟨Nat.le_refl _, o, by simp, by assumption⟩
      · cases h
theorem act_ext {a b : Act} (h1 : a.tmps.size = b.tmps.size) (h2 : ∀ s : Nat, a.tmps[s]? = b.tmps[s]?) (h3 : a.defers = b.defers) : a = b := by
  obtain ⟨t, d⟩ := a
  obtain ⟨t', d'⟩ := b
  dsimp only at *
  subst h3
  congr 1
  exact Array.ext_getElem? h2

/-- Each slot that is written belongs to one operation; what an operation waits for stands ahead of it. -/
def okOps (l : List Oper) : Bool :=
  l.zipIdx.all fun p => (match p.1.dst with | none => true | some d => slotOf d 0 l == some p.2) && p.1.after.all (fun e => !Region.binds .any e || decide (e.on < p.2))

theorem okOps_dst {l : List Oper} (h : okOps l = true) {i : Nat} {o : Oper} (hi : l[i]? = some o) {d : Tmp} (hd : o.dst = some d) : slotOf d 0 l = some i := by
  simp only [okOps, List.all_eq_true] at h
  have := h (o, i) (by rw [List.mem_zipIdx_iff_getElem?]; simpa using hi)
  simp only [hd, Bool.and_eq_true, beq_iff_eq] at this
  exact this.1
theorem okOps_after {l : List Oper} (h : okOps l = true) {i : Nat} {o : Oper} (hi : l[i]? = some o) {e : Edge} (he : e ∈ o.after) (hb : Region.binds .any e = true) : e.on < i := by
  simp only [okOps, List.all_eq_true] at h
  have := h (o, i) (by rw [List.mem_zipIdx_iff_getElem?]; simpa using hi)
  simp only [Bool.and_eq_true] at this
  have h2 := this.2
  rw [Array.all_eq_true'] at h2
  have h3 := h2 e he
  simpa [hb] using h3

theorem fill_put {l : List Oper} (hok : okOps l = true) (a : Act) (x : Nat → Value) {i : Nat} {o : Oper} (hi : l[i]? = some o) (v : Value) :
    (fill a x 0 l).put o.dst v = fill a (upd x i v) 0 l := by
  refine act_ext (by rw [put_size, fill_size, fill_size]) (fun s => ?_) (by rw [put_defers, fill_defers, fill_defers])
  rw [put_get, fill_size, fill_get, fill_get]
  cases h : slotOf s 0 l with
  | none =>
    dsimp only
    rw [if_neg]
    rintro ⟨h1, _⟩
    rw [okOps_dst hok hi h1] at h
    cases h
  | some j =>
    dsimp only [upd]
    obtain ⟨_, o', h1, h2⟩ := slotOf_some h
    by_cases hj : j = i
    · subst hj
      simp only [Nat.sub_zero, hi, Option.some.injEq] at h1
      subst h1
      simp only [h2, true_and, if_true]
      by_cases h3 : s < a.tmps.size
      · simp [h3]
      · simp [h3]
    · rw [if_neg hj, if_neg]
      rintro ⟨h3, _⟩
      rw [okOps_dst hok hi h3] at h
      cases h
      exact hj rfl
theorem fill_same (l : List Oper) (a : Act) : fill a (fun i => ((l[i]?).bind (·.dst)).elim undef (a.tmps.getD · undef)) 0 l = a := by
  refine act_ext (fill_size _ _ _ _) (fun s => ?_) (fill_defers _ _ _ _)
  rw [fill_get]
  cases h : slotOf s 0 l with
  | none => rfl
  | some j =>
    obtain ⟨_, o', h1, h2⟩ := slotOf_some h
    simp only [Nat.sub_zero] at h1
    dsimp only
    simp only [h1, Option.bind_some, h2, Option.elim_some]
    by_cases h3 : s < a.tmps.size
    · simp [h3]
    · simp [h3]

section
variable {P : Program} {l : List Oper} {Q : Exit → Act → World → Prop} {a0 : Act} {w0 : World} (R : World → World → Prop) (Φ : Nat → World → Value → Prop)
/-- One operation, by itself. -/
def StepOk (P : Program) (l : List Oper) (Q : Exit → Act → World → Prop) (a0 : Act) (w0 : World) (R : World → World → Prop) (Φ : Nat → World → Value → Prop) (i : Nat) (o : Oper) : Prop :=
  ∀ x w, R w0 w → (∀ e ∈ o.after, Region.binds .any e = true → Φ e.on w (x e.on)) →
    ∀ K : Act → World → Prop, (∀ v w', R w w' → Φ i w' v → K ((fill a0 x 0 l).put o.dst v) w') →
      if Region.wanted o (yielded l.toArray (fill a0 x 0 l).tmps) = true then o.wp P (fill a0 x 0 l) w K Q else K ((fill a0 x 0 l).put o.dst undef) w
def StepsOk (P : Program) (l : List Oper) (Q : Exit → Act → World → Prop) (a0 : Act) (w0 : World) (R : World → World → Prop) (Φ : Nat → World → Value → Prop) : Nat → List Oper → Prop
  | _, [] => True
  | i, o :: r => StepOk P l Q a0 w0 R Φ i o ∧ StepsOk P l Q a0 w0 R Φ (i + 1) r
theorem StepsOk.get {P : Program} {l : List Oper} {Q : Exit → Act → World → Prop} {a0 : Act} {w0 : World} {R : World → World → Prop} {Φ : Nat → World → Value → Prop} : ∀ {r : List Oper} {i : Nat}, StepsOk P l Q a0 w0 R Φ i r → ∀ j o, r[j]? = some o → StepOk P l Q a0 w0 R Φ (i + j) o
  | [], _, _, _, _, h => by simp at h
  | o :: r, i, h, 0, o', ho => by simp at ho; subst ho; exact h.1
  | o :: r, i, h, j + 1, o', ho => by
    have := StepsOk.get h.2 j o' (by simpa using ho)
    rw [show i + 1 + j = i + (j + 1) by omega] at this
    exact this

def left (listed : Array Bool) : Nat := listed.toList.countP (· == false)
theorem left_set {listed : Array Bool} {i : Nat} (h : listed.getD i true = false) : left (listed.setIfInBounds i true) + 1 = left listed := by
  have hi : i < listed.size := by
    by_cases hi : i < listed.size
    · exact hi
    · simp [Array.getElem?_eq_none (show listed.size ≤ i by omega)] at h
  have hv : listed.toList[i]'(by simpa using hi) = false := by simpa [hi] using h
  simp only [left, Array.toList_setIfInBounds]
  rw [List.countP_set (by simpa using hi)]
  have hpos : 0 < listed.toList.countP (· == false) := List.countP_pos_iff.2 ⟨false, by rw [← hv]; exact List.getElem_mem _, rfl⟩
  simp only [hv, beq_self_eq_true, if_true, show (true == false) = false from rfl, Bool.false_eq_true, if_false]
  omega

theorem ready_spec {l : List Oper} {listed : Array Bool} {i : Nat} (h : i ∈ Region.ready .any l.toArray listed) :
    ∃ o, l[i]? = some o ∧ listed.getD i true = false ∧ ∀ e ∈ o.after, Region.binds .any e = true → listed.getD e.on false = true := by
  simp only [Region.ready, List.mem_filter, List.mem_range, Bool.and_eq_true] at h
  obtain ⟨hi, h1, h2⟩ := h
  cases ho : l[i]? with
  | none => simp [ho] at h2
  | some o =>
    simp only [List.getElem?_toArray, ho, Option.map_some, Option.getD_some, Array.all_eq_true'] at h2
    refine ⟨o, rfl, by simpa using h1, fun e he hb => ?_⟩
    have := h2 e he
    simpa [hb] using this
theorem ready_none {l : List Oper} (hok : okOps l = true) {listed : Array Bool} (hs : listed.size = l.length) (h : Region.ready .any l.toArray listed = []) : ∀ i, i < l.length → listed.getD i false = true := by
  intro i
  induction i using Nat.strongRecOn with
  | ind i ih =>
    intro hi
    cases hl : listed.getD i false with
    | true => rfl
    | false =>
      exfalso
      have hm : i ∈ Region.ready .any l.toArray listed := by
        simp only [Region.ready, List.mem_filter, List.mem_range, Bool.and_eq_true]
        refine ⟨by simpa using hi, ?_, ?_⟩
        · simp [show i < listed.size by omega] at hl ⊢
          exact hl
        · simp only [List.getElem?_toArray, List.getElem?_eq_getElem hi, Option.map_some, Option.getD_some, Array.all_eq_true']
          intro e he
          cases hb : Region.binds .any e with
          | false => simp
          | true =>
            have hlt := okOps_after hok (List.getElem?_eq_getElem hi) he hb
            have := ih e.on hlt (by omega)
            simpa using this
      rw [h] at hm
      cases hm

theorem wpAny_phi {P : Program} {l : List Oper} {Q : Exit → Act → World → Prop} {a0 : Act} {w0 : World} {R : World → World → Prop} {Φ : Nat → World → Value → Prop} (hok : okOps l = true)
    (htr : ∀ a b c, R a b → R b c → R a c) (hst : ∀ i w w' v, Φ i w v → R w w' → Φ i w' v)
    (hs : StepsOk P l Q a0 w0 R Φ 0 l) (hend : ∀ x w, R w0 w → (∀ i, i < l.length → Φ i w (x i)) → Q .normal (fill a0 x 0 l) w) :
    ∀ (fuel : Nat) (listed : Array Bool) (x : Nat → Value) (w : World), listed.size = l.length → left listed ≤ fuel → R w0 w →
      (∀ i, listed.getD i false = true → Φ i w (x i)) → wpAny P .any l.toArray Q fuel listed (fill a0 x 0 l) w := by
  intro fuel
  induction fuel with
  | zero =>
    intro listed x w hsz hl hw hΦ
    have hr : Region.ready .any l.toArray listed = [] := by
      cases hr : Region.ready .any l.toArray listed with
      | nil => rfl
      | cons i r =>
        exfalso
        obtain ⟨o, _, h1, _⟩ := ready_spec (l := l) (listed := listed) (i := i) (by rw [hr]; simp)
        have := left_set h1
        omega
    exact ⟨hr, hend x w hw fun i hi => hΦ i (ready_none hok hsz hr i hi)⟩
  | succ fuel ih =>
    intro listed x w hsz hl hw hΦ
    refine ⟨fun hr => hend x w hw fun i hi => hΦ i (ready_none hok hsz hr i hi), fun i hi => ?_⟩
    obtain ⟨o, ho, h1, h2⟩ := ready_spec hi
    have hstep := hs.get i o ho
    rw [Nat.zero_add] at hstep
    refine wpOp_step (by simpa using ho) fun K' hK' => ?_
    refine hstep x w hw (fun e he hb => hΦ e.on (h2 e he hb)) K' fun v w' hww hv => hK' _ _ ?_
    rw [fill_put hok a0 x ho v]
    refine ih _ _ w' (by simpa using hsz) (by have := left_set h1; omega) (htr _ _ _ hw hww) fun j hj => ?_
    simp only [upd]
    by_cases hji : j = i
    · subst hji; rw [if_pos rfl]; exact hv
    · rw [if_neg hji]
      refine hst _ _ _ _ (hΦ j ?_) hww
      simpa [Array.getElem?_setIfInBounds, Ne.symm hji] using hj
/-- THE LAW. -/
theorem wp_region_phi {P : Program} {id : Nat} {l : List Oper} {Q : Exit → Act → World → Prop} {a0 : Act} {w0 : World} (R : World → World → Prop) (Φ : Nat → World → Value → Prop)
    (hm : P.follows .mixedOrders = true) (hok : okOps l = true)
    (htr : ∀ a b c, R a b → R b c → R a c) (hst : ∀ i w w' v, Φ i w v → R w w' → Φ i w' v) (h0 : R w0 w0.drew)
    (hs : StepsOk P l Q a0 w0 R Φ 0 l) (hend : ∀ x w, R w0 w → (∀ i, i < l.length → Φ i w (x i)) → Q .normal (fill a0 x 0 l) w) : (Code.region id l.toArray true).wp P Q a0 w0 := by
  refine wp_region_any hm ?_
  have := wpAny_phi hok htr hst hs hend l.toArray.size (Array.replicate l.toArray.size false) (fun i => ((l[i]?).bind (·.dst)).elim undef (a0.tmps.getD · undef)) w0.drew (by simp)
    (Nat.le_trans List.countP_le_length (by simp)) h0 (fun i h => by simp [Array.getElem?_replicate] at h; split at h <;> simp at h)
  rw [fill_same] at this
  exact this
end

/-! ### What is said of an operation's value -/
abbrev Says := World → Value → Prop
/-- It is c. -/
def Vl (c : Value) : Says := fun _ v => v = c
/-- It reads as these bytes. -/
def Reads8 (bs : List UInt8) : Says := fun w v => Bytes w v bs
def Any : Says := fun _ _ => True
def Stab (p : Says) : Prop := ∀ w w' v, p w v → Nw w w' → p w' v
@[simp] theorem Stab.is (c : Value) : Stab (Vl c) := fun _ _ _ h _ => h
@[simp] theorem Stab.reads8 (bs : List UInt8) : Stab (Reads8 bs) := fun _ _ _ h hn => Bytes.nw h hn
@[simp] theorem Stab.any : Stab Any := fun _ _ _ _ _ => trivial
def says (L : List Says) : Nat → World → Value → Prop := fun i w v => (L.getD i Any) w v
def StabL (L : List Says) : Prop := ∀ p ∈ L, Stab p
theorem StabL.nil : StabL [] := fun p h => by cases h
theorem StabL.cons {p : Says} {L : List Says} (h : Stab p) (t : StabL L) : StabL (p :: L) := fun q hq => by
  rcases List.mem_cons.1 hq with rfl | hq
  · exact h
  · exact t q hq
theorem says_stab {L : List Says} (h : StabL L) : ∀ i w w' v, says L i w v → Nw w w' → says L i w' v := fun i w w' v hp hn => by
  unfold says at *
  by_cases hi : i < L.length
  · rw [List.getD_eq_getElem?_getD, List.getElem?_eq_getElem hi] at *
    exact h _ (List.getElem_mem hi) w w' v hp hn
  · rw [List.getD_eq_getElem?_getD, List.getElem?_eq_none (by omega)]
    trivial
section
variable {P : Program} {l : List Oper} {Q : Exit → Act → World → Prop} {a0 : Act} {w0 : World} {R : World → World → Prop} {Φ : Nat → World → Value → Prop}
theorem StepsOk.nil {i : Nat} : StepsOk P l Q a0 w0 R Φ i [] := trivial
theorem StepsOk.cons {i : Nat} {o : Oper} {r : List Oper} (h : StepOk P l Q a0 w0 R Φ i o) (t : StepsOk P l Q a0 w0 R Φ (i + 1) r) : StepsOk P l Q a0 w0 R Φ i (o :: r) := ⟨h, t⟩
end
theorem wanted_yes {c : Bool} {A B : Prop} (h : c = true) (ha : A) : if c = true then A else B := by rw [if_pos h]; exact ha
theorem wanted_no {c : Bool} {A B : Prop} (h : c = false) (hb : B) : if c = true then A else B := by rw [h]; exact hb
/-- THE LAW, for worlds that only grow and a list of sayings. -/
theorem wp_region_says {P : Program} {id : Nat} {l : List Oper} {Q : Exit → Act → World → Prop} {a0 : Act} {w0 : World} (L : List Says)
    (hm : P.follows .mixedOrders = true) (hok : okOps l = true) (hst : StabL L)
    (hs : StepsOk P l Q a0 w0 Nw (says L) 0 l) (hend : ∀ x w, Nw w0 w → (∀ i, i < l.length → says L i w (x i)) → Q .normal (fill a0 x 0 l) w) : (Code.region id l.toArray true).wp P Q a0 w0 :=
  wp_region_phi Nw (says L) hm hok (fun _ _ _ => Nw.trans) (says_stab hst) (Nw.refl _).drew hs hend
end Go.Proofs.Ytdihoedehmfgfaa
