/- Joined texts.
A statement whose order Go leaves open, walked in the order of its text: each operation once, at a frame in which the values of those ahead of it stand; worlds only grow. No condition.
A statement whose order Go leaves open and whose last operation (a store) waits for all others: the others in the order of the text, then the last, which may change what is there. No condition.
A statement whose order Go leaves open but for its last operations, which come one by one in the order of the text (an append, the address, the store): the others in the order of the text, then the last as a plain list. No condition.
-/
import Derived.Test.YtdihoedehmfgfaaRegion
set_option linter.unusedSimpArgs false
set_option linter.unusedVariables false
namespace Go.Proofs.Ytdihoedehmfgfaa
open Go.RowKit

/-- What is said of an operation's value: it is c, or some p holds of it. -/
inductive Say where
  | is (c : Value)
  | that (p : Says)
def Say.ok : Say → World → Value → Prop
  | .is c, _, v => v = c
  | .that p, w, v => p w v
def Say.val : Say → Value → Value
  | .is c, _ => c
  | .that _, v => v
theorem Say.val_ok {s : Say} {w : World} {v : Value} (h : s.ok w v) : s.val v = v := by
  cases s with
  | is c => exact (show v = c from h).symm
  | that p => rfl
def Say.stab : Say → Prop
  | .is _ => True
  | .that p => Stab p
theorem Say.ok_stab {s : Say} (h : s.stab) {w w' : World} {v : Value} (k : s.ok w v) (hn : Nw w w') : s.ok w' v := by
  cases s with
  | is c => exact k
  | that p => exact h _ _ _ k hn
def sayAt (L : List Say) (i : Nat) : Say := L.getD i (.that Any)
def AllStab : List Say → Prop
  | [] => True
  | s :: r => s.stab ∧ AllStab r
theorem sayAt_stab {L : List Say} (h : AllStab L) (i : Nat) : (sayAt L i).stab := by
  induction L generalizing i with
  | nil => exact Stab.any
  | cons s r ih =>
    cases i with
    | zero => exact h.1
    | succ i => exact ih h.2 i

section
variable {P : Program} {l : List Oper} {Q : Exit → Act → World → Prop} {w0 : World} {L : List Say}
def SeqStep (P : Program) (l : List Oper) (w0 : World) (L : List Say) (i : Nat) (o : Oper) (b : (Nat → Value) → Act) : Prop :=
  ∀ x w, Nw w0 w → (∀ e ∈ o.after, Region.binds .any e = true → (sayAt L e.on).ok w (x e.on)) → ∀ K : Act → World → Prop,
    (∀ v w', Nw w w' → (sayAt L i).ok w' v → K ((b x).put o.dst v) w') →
    if Region.wanted o (yielded l.toArray (b x).tmps) = true then o.wp P (b x) w K (fun _ _ _ => False) else K ((b x).put o.dst undef) w
def Steps (P : Program) (l : List Oper) (Q : Exit → Act → World → Prop) (w0 : World) (L : List Say) : Nat → List Oper → ((Nat → Value) → Act) → Prop
  | _, [], b => ∀ x w, Nw w0 w → (∀ i, i < l.length → (sayAt L i).ok w (x i)) → Q .normal (b x) w
  | i, o :: r, b => SeqStep P l w0 L i o b ∧ Steps P l Q w0 L (i + 1) r (fun x => (b x).put o.dst ((sayAt L i).val (x i)))
theorem Steps.nil {i : Nat} {b : (Nat → Value) → Act} (h : ∀ x w, Nw w0 w → (∀ i, i < l.length → (sayAt L i).ok w (x i)) → Q .normal (b x) w) : Steps P l Q w0 L i [] b := h
theorem Steps.cons {i : Nat} {o : Oper} {r : List Oper} {b : (Nat → Value) → Act} (h : SeqStep P l w0 L i o b) (t : Steps P l Q w0 L (i + 1) r (fun x => (b x).put o.dst ((sayAt L i).val (x i)))) : Steps P l Q w0 L i (o :: r) b := ⟨h, t⟩

/-- What an operation looks at was written by what it waits for, or by nothing here. -/
def okSeq (l : List Oper) : Bool :=
  l.zipIdx.all fun p => (match p.1.op with | .select _ _ => false | _ => true) && (p.1.looksAt l.toArray).all fun s => slotOf s 0 (l.take p.2) == slotOf s 0 l && (match slotOf s 0 l with | none => true | some j => p.1.after.any fun e => e.on == j && Region.binds .any e)
theorem okSeq_spec {l : List Oper} (h : okSeq l = true) {i : Nat} {o : Oper} (hi : l[i]? = some o) : (∀ cs b, o.op ≠ .select cs b) ∧ ∀ s ∈ o.looksAt l.toArray, slotOf s 0 (l.take i) = slotOf s 0 l ∧ ∀ j, slotOf s 0 l = some j → ∃ e ∈ o.after, e.on = j ∧ Region.binds .any e = true := by
  simp only [okSeq, List.all_eq_true] at h
  have := h (o, i) (by rw [List.mem_zipIdx_iff_getElem?]; simpa using hi)
  simp only [Bool.and_eq_true] at this
  obtain ⟨h1, h2⟩ := this
  refine ⟨(fun cs b e => by rw [e] at h1; cases h1), fun s hs => ?_⟩
  rw [List.all_eq_true] at h2
  have h3 := h2 s hs
  simp only [Bool.and_eq_true, beq_iff_eq] at h3
  refine ⟨h3.1, fun j hj => ?_⟩
  have h4 := h3.2
  rw [hj] at h4
  simp only [Array.any_eq_true', Bool.and_eq_true, beq_iff_eq] at h4
  obtain ⟨e, he, h5, h6⟩ := h4
  exact ⟨e, he, h5, h6⟩

theorem put_same {a b : Act} (hs : a.tmps.size = b.tmps.size) {d : Option Tmp} {v v' : Value} (h : b.put d v = b.put d v') : a.put d v = a.put d v' := by
  cases d with
  | none => rfl
  | some d =>
    by_cases hd : d < b.tmps.size
    · have : (b.put (some d) v).tmps[d]? = (b.put (some d) v').tmps[d]? := by rw [h]
      rw [put_get, put_get, if_pos ⟨rfl, hd⟩, if_pos ⟨rfl, hd⟩] at this
      rw [Option.some.inj this]
    · simp only [Act.put]
      have ha : ¬ d < a.tmps.size := by rw [hs]; exact hd
      simp [Array.setIfInBounds, ha]
theorem wp_transfer {o : Oper} {a b : Act} {w : World} {G : Value → World → Prop} (hs : a.tmps.size = b.tmps.size) (he : execOp a.eval o = execOp b.eval o)
    (h : o.wp P b w (fun a' w' => ∃ v, a' = b.put o.dst v ∧ G v w') (fun _ _ _ => False)) : o.wp P a w (fun a' w' => ∃ v, a' = a.put o.dst v ∧ G v w') Q := by
  unfold Oper.wp at *
  rw [he]
  generalize (execOp b.eval o).run P w = r at *
  have one : ∀ v w', (∃ v', b.put o.dst v = b.put o.dst v' ∧ G v' w') → ∃ v', a.put o.dst v = a.put o.dst v' ∧ G v' w' := fun v w' ⟨v', h1, h2⟩ => ⟨v', put_same hs h1, h2⟩
  cases r with
  | ok n w' =>
    cases n with
    | value v => exact one _ _ h
    | skip => exact one _ _ h
    | defer d =>
      obtain ⟨v', h1, _⟩ := h
      have := congrArg (fun x => x.defers.length) h1
      simp only [put_defers, List.length_cons] at this
      omega
    | enter f args =>
      refine Calls.mono h fun e w'' he => ?_
      cases e with
      | returned v => exact one _ _ he
      | panicked c => exact absurd he id
      | outgrown => obtain ⟨_, _, h⟩ := he; exact absurd h id
    | row row args => exact Rows.mono h fun v w'' he => one _ _ he
    | _ => exact absurd h id
  | halt x w' =>
    cases x with
    | panic v => exact absurd h id
    | _ => exact absurd h id

theorem fill_congr {x y : Nat → Value} : ∀ (l : List Oper) (i : Nat) (a : Act), (∀ j, i ≤ j → j < i + l.length → x j = y j) → fill a x i l = fill a y i l
  | [], _, _, _ => rfl
  | o :: r, i, a, h => by
    rw [fill, fill, h i (Nat.le_refl _) (by simp)]
    exact fill_congr r (i + 1) _ fun j h1 h2 => h j (by omega) (by simp at h2 ⊢; omega)
theorem fill_snoc {x : Nat → Value} (o : Oper) : ∀ (l : List Oper) (i : Nat) (a : Act), fill a x i (l ++ [o]) = (fill a x i l).put o.dst (x (i + l.length))
  | [], i, a => rfl
  | p :: r, i, a => by
    rw [List.cons_append, fill, fill, fill_snoc o r (i + 1)]
    congr 2
    simp only [List.length_cons]; try omega

theorem steps_ok {a0 : Act} {Q2 : Exit → Act → World → Prop} (hok : okOps l = true) (hok2 : okSeq l = true) : ∀ (r : List Oper) (i : Nat), l.drop i = r → Steps P l Q w0 L i r (fun x => fill a0 (fun j => (sayAt L j).val (x j)) 0 (l.take i)) →
    StepsOk P l Q2 a0 w0 Nw (fun j w v => (sayAt L j).ok w v) i r ∧ (∀ x w, Nw w0 w → (∀ i, i < l.length → (sayAt L i).ok w (x i)) → Q .normal (fill a0 x 0 l) w)
  | [], i, hr, h => by
    refine ⟨trivial, fun x w hw hx => ?_⟩
    have := h x w hw hx
    dsimp only at this
    rw [List.take_of_length_le (by simpa using hr), fill_congr (y := x) l 0 a0 fun j _ hj => Say.val_ok (hx j (by omega))] at this
    exact this
  | o :: r, i, hr, h => by
    have hi : l[i]? = some o := by have := congrArg (·[0]?) hr; simpa using this
    have hil : i < l.length := (List.getElem?_eq_some_iff.1 hi).1
    obtain ⟨h1, h2⟩ := h
    have htk : l.take (i + 1) = l.take i ++ [o] := by rw [List.take_add_one, hi]; rfl
    have h2' : Steps P l Q w0 L (i + 1) r (fun x => fill a0 (fun j => (sayAt L j).val (x j)) 0 (l.take (i + 1))) := by
      have e : (fun x : Nat → Value => fill a0 (fun j => (sayAt L j).val (x j)) 0 (l.take (i + 1))) = fun x => (fill a0 (fun j => (sayAt L j).val (x j)) 0 (l.take i)).put o.dst ((sayAt L i).val (x i)) := by
        funext x
        rw [htk, fill_snoc]
        have hlen : (l.take i).length = i := by simp; omega
        rw [hlen, Nat.zero_add]
      rw [e]; exact h2
    obtain ⟨t1, t2⟩ := steps_ok hok hok2 r (i + 1) (by rw [← List.drop_drop, hr]; rfl) h2'
    refine ⟨⟨fun x w hw hd K hK => ?_, t1⟩, t2⟩
    obtain ⟨hsel, hlook⟩ := okSeq_spec hok2 hi
    have hsz : (fill a0 x 0 l).tmps.size = (fill a0 (fun j => (sayAt L j).val (x j)) 0 (l.take i)).tmps.size := by rw [fill_size, fill_size]
    have hag : ∀ s ∈ o.looksAt l.toArray, (fill a0 x 0 l).tmps[s]? = (fill a0 (fun j => (sayAt L j).val (x j)) 0 (l.take i)).tmps[s]? := fun s hs => by
      obtain ⟨e1, e2⟩ := hlook s hs
      rw [fill_get, fill_get, e1]
      cases hsl : slotOf s 0 l with
      | none => rfl
      | some j =>
        obtain ⟨e, he, he1, he2⟩ := e2 j hsl
        have := hd e he he2
        rw [he1] at this
        dsimp only
        rw [Say.val_ok this]
    have hex : execOp (fill a0 x 0 l).eval o = execOp (fill a0 (fun j => (sayAt L j).val (x j)) 0 (l.take i)).eval o := execOp_congr o hsel fun y hy => by
      cases y with
      | tmp t =>
        have := hag t (List.mem_append_left _ (List.mem_filterMap.2 ⟨.tmp t, by simpa using hy, rfl⟩))
        simp only [Act.eval]
        rw [Array.getD_eq_getD_getElem?, Array.getD_eq_getD_getElem?, this]
      | const v => rfl
      | global g => rfl
      | func f => rfl
    have hwt : Region.wanted o (yielded l.toArray (fill a0 x 0 l).tmps) = Region.wanted o (yielded l.toArray (fill a0 (fun j => (sayAt L j).val (x j)) 0 (l.take i)).tmps) := by
      unfold Region.wanted
      cases hg : o.guard with
      | none => rfl
      | some g =>
        obtain ⟨gi, gb⟩ := g
        have : yielded l.toArray (fill a0 x 0 l).tmps gi = yielded l.toArray (fill a0 (fun j => (sayAt L j).val (x j)) 0 (l.take i)).tmps gi := by
          unfold yielded
          cases hgo : (l.toArray[gi]?).bind (·.dst) with
          | none => rfl
          | some d =>
            have := hag d (by unfold Oper.looksAt; rw [hg]; refine List.mem_append_right _ ?_; show d ∈ ((l.toArray[gi]?).bind (·.dst)).toList; rw [hgo]; simp)
            simp only [Option.bind_some, this]
        simp only [this]
    have hstep := h1 x w hw hd (fun a' w' => ∃ v, a' = (fill a0 (fun j => (sayAt L j).val (x j)) 0 (l.take i)).put o.dst v ∧ Nw w w' ∧ (sayAt L i).ok w' v) (fun v w' k1 k2 => ⟨v, rfl, k1, k2⟩)
    rw [hwt]
    split
    · rename_i hc
      rw [if_pos hc] at hstep
      refine Oper.wp_mono (fun a' w' hh => ?_) (wp_transfer hsz hex hstep)
      obtain ⟨v, rfl, k1, k2⟩ := hh
      exact hK v w' k1 k2
    · rename_i hc
      rw [if_neg hc] at hstep
      obtain ⟨v, k0, k1, k2⟩ := hstep
      rw [put_same hsz k0]
      exact hK v w k1 k2
/-- THE LAW. -/
theorem wp_region_seq {P : Program} {id : Nat} {l : List Oper} {Q : Exit → Act → World → Prop} {a0 : Act} {w0 : World} (L : List Say)
    (hm : P.follows .mixedOrders = true) (hok : okOps l = true) (hok2 : okSeq l = true) (hst : AllStab L)
    (hs : Steps P l Q w0 L 0 l (fun _ => a0)) : (Code.region id l.toArray true).wp P Q a0 w0 := by
  obtain ⟨h1, h2⟩ := steps_ok (a0 := a0) hok hok2 l 0 rfl hs
  exact wp_region_phi Nw (fun j w v => (sayAt L j).ok w v) hm hok (fun _ _ _ => Nw.trans) (fun i w w' v h hn => Say.ok_stab (sayAt_stab hst i) h hn) (Nw.refl _).drew h1 h2
/-! ### The same, each saying given where its operation stands -/
def SeqStepAt (P : Program) (l : List Oper) (w0 : World) (L : List Say) (s : Say) (o : Oper) (b : (Nat → Value) → Act) : Prop :=
  ∀ x w, Nw w0 w → (∀ e ∈ o.after, Region.binds .any e = true → (sayAt L e.on).ok w (x e.on)) → ∀ K : Act → World → Prop,
    (∀ v w', Nw w w' → s.ok w' v → K ((b x).put o.dst v) w') →
    if Region.wanted o (yielded l.toArray (b x).tmps) = true then o.wp P (b x) w K (fun _ _ _ => False) else K ((b x).put o.dst undef) w
def Stairs (P : Program) (l : List Oper) (Q : Exit → Act → World → Prop) (w0 : World) : List Say → List Oper → ((Nat → Value) → Act) → Prop
  | L, [], b => ∀ x w, Nw w0 w → (∀ i, i < l.length → (sayAt L i).ok w (x i)) → Q .normal (b x) w
  | L, o :: r, b => ∃ s : Say, s.stab ∧ SeqStepAt P l w0 L s o b ∧ Stairs P l Q w0 (L ++ [s]) r (fun x => (b x).put o.dst (s.val (x L.length)))
theorem Stairs.nil {b : (Nat → Value) → Act} (h : ∀ x w, Nw w0 w → (∀ i, i < l.length → (sayAt L i).ok w (x i)) → Q .normal (b x) w) : Stairs P l Q w0 L [] b := h
/-- An operation whose value is c. -/
theorem Stairs.is {o : Oper} {r : List Oper} {b : (Nat → Value) → Act} (c : Value) (h : SeqStepAt P l w0 L (.is c) o b) (t : Stairs P l Q w0 (L ++ [.is c]) r (fun x => (b x).put o.dst c)) : Stairs P l Q w0 L (o :: r) b := ⟨.is c, trivial, h, t⟩
/-- An operation of whose value p holds. -/
theorem Stairs.that {o : Oper} {r : List Oper} {b : (Nat → Value) → Act} (p : Says) (hp : Stab p) (h : SeqStepAt P l w0 L (.that p) o b) (t : Stairs P l Q w0 (L ++ [.that p]) r (fun x => (b x).put o.dst (x L.length))) : Stairs P l Q w0 L (o :: r) b := ⟨.that p, hp, h, t⟩
theorem sayAt_old (L M : List Say) (j : Nat) (h : j < L.length) : sayAt (L ++ M) j = sayAt L j := by
  unfold sayAt
  rw [List.getD_eq_getElem?_getD, List.getD_eq_getElem?_getD, List.getElem?_append_left h]
theorem AllStab.app {L M : List Say} (h : AllStab L) (k : AllStab M) : AllStab (L ++ M) := by
  induction L with
  | nil => exact k
  | cons s r ih => exact ⟨h.1, ih h.2⟩
theorem stairs_ok (hok : okOps l = true) : ∀ (r : List Oper) (L : List Say) (b : (Nat → Value) → Act), l.drop L.length = r → Stairs P l Q w0 L r b →
    ∃ M, AllStab M ∧ Steps P l Q w0 (L ++ M) L.length r b
  | [], L, b, hr, h => ⟨[], trivial, by rw [List.append_nil]; exact h⟩
  | o :: r, L, b, hr, ⟨s, hs, h1, h2⟩ => by
    have hi : l[L.length]? = some o := by have := congrArg (·[0]?) hr; simpa using this
    obtain ⟨M, hM, h3⟩ := stairs_ok hok r (L ++ [s]) _ (by rw [List.length_append, List.length_singleton, ← List.drop_drop, hr]; rfl) h2
    rw [List.append_assoc, List.length_append, List.length_singleton] at h3
    have hsi : sayAt (L ++ ([s] ++ M)) L.length = s := by
      unfold sayAt
      rw [List.getD_eq_getElem?_getD, List.getElem?_append_right (Nat.le_refl _)]
      simp
    refine ⟨[s] ++ M, ⟨hs, hM⟩, ⟨fun x w hw hd K hK => ?_, ?_⟩⟩
    · refine h1 x w hw (fun e he hb => ?_) K (fun v w' k1 k2 => hK v w' k1 (by rw [hsi]; exact k2))
      have := hd e he hb
      rwa [sayAt_old _ _ _ (okOps_after hok hi he hb)] at this
    · rw [hsi]; exact h3
/-- THE LAW, its sayings given one by one. -/
theorem wp_region_stairs {P : Program} {id : Nat} {l : List Oper} {Q : Exit → Act → World → Prop} {a0 : Act} {w0 : World}
    (hm : P.follows .mixedOrders = true) (hok : okOps l = true) (hok2 : okSeq l = true)
    (hs : Stairs P l Q w0 [] l (fun _ => a0)) : (Code.region id l.toArray true).wp P Q a0 w0 := by
  obtain ⟨M, hM, h⟩ := stairs_ok hok l [] _ rfl hs
  exact wp_region_seq M hm hok hok2 hM h
end
end Go.Proofs.Ytdihoedehmfgfaa
namespace Go.Proofs.Ytdihoedehmfgfaa
open Go.RowKit
section
variable {P : Program} {l : List Oper} {Q : Exit → Act → World → Prop} {w0 : World} {L : List Say}
theorem wpAny_all {listed : Array Bool} (hs : listed.size = l.length) (h : ∀ i, i < l.length → listed.getD i false = true) {fuel : Nat} {a : Act} {w : World} (hQ : Q .normal a w) : wpAny P .any l.toArray Q fuel listed a w := by
  have hr : Region.ready .any l.toArray listed = [] := by
    cases hr : Region.ready .any l.toArray listed with
    | nil => rfl
    | cons i r =>
      exfalso
      obtain ⟨o, ho, h1, _⟩ := ready_spec (l := l) (listed := listed) (i := i) (by rw [hr]; simp)
      have hi := (List.getElem?_eq_some_iff.1 ho).1
      have h2 := h i hi
      simp [show i < listed.size by omega] at h1 h2
      rw [h1] at h2
      cases h2
  cases fuel with
  | zero => exact ⟨hr, hQ⟩
  | succ n => exact ⟨fun _ => hQ, fun i hi => by rw [hr] at hi; cases hi⟩
theorem wpAny_last {a0 : Act} {R : World → World → Prop} {Φ : Nat → World → Value → Prop} (hok : okOps l = true) {m : Nat} {oz : Oper} (hlen : l.length = m + 1) (hoz : l[m]? = some oz) (hg : oz.guard = none)
    (hall : ∀ j, j < m → ∃ e ∈ oz.after, e.on = j ∧ Region.binds .any e = true)
    (htr : ∀ a b c, R a b → R b c → R a c) (hst : ∀ i w w' v, Φ i w v → R w w' → Φ i w' v)
    (hs : ∀ i o, i < m → l[i]? = some o → StepOk P l Q a0 w0 R Φ i o) (hend : ∀ x w, R w0 w → (∀ i, i < m → Φ i w (x i)) → oz.wp P (fill a0 x 0 l) w (fun a w => Q .normal a w) Q) :
    ∀ (fuel : Nat) (listed : Array Bool) (x : Nat → Value) (w : World), listed.size = l.length → listed.getD m true = false → left listed ≤ fuel → R w0 w →
      (∀ i, i < m → listed.getD i false = true → Φ i w (x i)) → wpAny P .any l.toArray Q fuel listed (fill a0 x 0 l) w := by
  intro fuel
  have no : ∀ listed : Array Bool, listed.size = l.length → listed.getD m true = false → Region.ready .any l.toArray listed = [] → False := fun listed hsz hm hr => by
    have := ready_none hok hsz hr m (by omega)
    simp [show m < listed.size by omega] at this hm
    rw [hm] at this
    cases this
  induction fuel with
  | zero =>
    intro listed x w hsz hm hl hw hΦ
    exfalso
    refine no listed hsz hm ?_
    cases hr : Region.ready .any l.toArray listed with
    | nil => rfl
    | cons i r =>
      exfalso
      obtain ⟨o, _, h1, _⟩ := ready_spec (l := l) (listed := listed) (i := i) (by rw [hr]; simp)
      have := left_set h1
      omega
  | succ fuel ih =>
    intro listed x w hsz hm hl hw hΦ
    refine ⟨fun hr => (no listed hsz hm hr).elim, fun i hi => ?_⟩
    obtain ⟨o, ho, h1, h2⟩ := ready_spec hi
    have hil : i < l.length := (List.getElem?_eq_some_iff.1 ho).1
    refine wpOp_step (by simpa using ho) fun K' hK' => ?_
    by_cases him : i = m
    · subst him
      obtain rfl : o = oz := by rw [ho] at hoz; exact Option.some.inj hoz
      have hw1 : Region.wanted o (yielded l.toArray (fill a0 x 0 l).tmps) = true := by unfold Region.wanted; rw [hg]
      rw [if_pos hw1]
      have hlst : ∀ j, j < i → listed.getD j false = true := fun j hj => by
        obtain ⟨e, he, e1, e2⟩ := hall j hj
        have := h2 e he e2
        rwa [e1] at this
      refine Oper.wp_mono (fun a' w' hq => hK' _ _ ?_) (hend x w hw fun j hj => hΦ j hj (hlst j hj))
      refine wpAny_all (by simpa using hsz) (fun j hj => ?_) hq
      by_cases hji : j = i
      · subst hji
        simp [show j < listed.size by omega]
      · have := hlst j (by omega)
        simpa [Array.getElem?_setIfInBounds, Ne.symm hji] using this
    · have hstep := hs i o (by omega) ho
      refine hstep x w hw (fun e he hb => ?_) K' fun v w' hww hv => hK' _ _ ?_
      · have hlt := okOps_after hok ho he hb
        exact hΦ e.on (by omega) (h2 e he hb)
      · rw [fill_put hok a0 x ho v]
        refine ih _ _ w' (by simpa using hsz) ?_ (by have := left_set h1; omega) (htr _ _ _ hw hww) fun j hj hl2 => ?_
        · simpa [Array.getElem?_setIfInBounds, him] using hm
        · simp only [upd]
          by_cases hji : j = i
          · subst hji; rw [if_pos rfl]; exact hv
          · rw [if_neg hji]
            refine hst _ _ _ _ (hΦ j hj ?_) hww
            simpa [Array.getElem?_setIfInBounds, Ne.symm hji] using hl2
theorem fill_none {x : Nat → Value} {l0 : List Oper} {oz : Oper} (hd : oz.dst = none) (a0 : Act) : fill a0 x 0 (l0 ++ [oz]) = fill a0 x 0 l0 := by
  rw [fill_snoc, hd]; rfl
def okEnd (l0 : List Oper) (oz : Oper) : Bool :=
  oz.guard.isNone && oz.dst.isNone && ((List.range l0.length).all fun j => oz.after.any fun e => e.on == j && Region.binds .any e) && l0.all fun o => match o.guard with | none => true | some g => decide (g.1 < l0.length)
/-- THE LAW: all but the last in the order of the text, then the last. -/
theorem wp_region_end {P : Program} {id : Nat} {l : List Oper} {Q : Exit → Act → World → Prop} {a0 : Act} {w0 : World} {oz : Oper} (hz : l.getLast? = some oz)
    (hm : P.follows .mixedOrders = true) (hok : okOps l = true) (hok0 : okOps l.dropLast = true) (hok2 : okSeq l.dropLast = true) (hoke : okEnd l.dropLast oz = true)
    (hs : Stairs P l.dropLast (fun _ a w => oz.wp P a w (fun a w => Q .normal a w) Q) w0 [] l.dropLast (fun _ => a0)) : (Code.region id l.toArray true).wp P Q a0 w0 := by
  have hl : l = l.dropLast ++ [oz] := by
    obtain ⟨h1, h2⟩ := List.getLast?_eq_some_iff.1 hz
    rw [h2]; simp
  generalize l.dropLast = l0 at *
  subst hl
  simp only [okEnd, Bool.and_eq_true] at hoke
  obtain ⟨⟨⟨e1, e2⟩, e3⟩, e4⟩ := hoke
  have hg : oz.guard = none := by simpa using e1
  have hd : oz.dst = none := by simpa using e2
  obtain ⟨M, hM, h⟩ := stairs_ok hok0 l0 [] _ rfl hs
  obtain ⟨t1, t2⟩ := steps_ok (a0 := a0) (Q2 := Q) hok0 hok2 l0 0 rfl h
  have hwt : ∀ o ∈ l0, ∀ t, Region.wanted o (yielded (l0 ++ [oz]).toArray t) = Region.wanted o (yielded l0.toArray t) := fun o ho t => by
    have h4 := (List.all_eq_true.1 e4) o ho
    unfold Region.wanted
    cases hgo : o.guard with
    | none => rfl
    | some g =>
      rw [hgo] at h4
      have hlt : g.1 < l0.length := of_decide_eq_true h4
      have : yielded (l0 ++ [oz]).toArray t g.1 = yielded l0.toArray t g.1 := by
        unfold yielded
        simp [List.getElem?_append_left hlt]
      simp only [this]
  refine wp_region_any hm ?_
  have key := wpAny_last (P := P) (l := l0 ++ [oz]) (Q := Q) (w0 := w0) (a0 := a0) (R := Nw) (Φ := fun j w v => (sayAt M j).ok w v) hok (m := l0.length) (oz := oz) (by simp) (by simp) hg
    (fun j hj => by
      have := (List.all_eq_true.1 e3) j (List.mem_range.2 hj)
      simp only [Array.any_eq_true', Bool.and_eq_true, beq_iff_eq] at this
      obtain ⟨e, he, h5, h6⟩ := this
      exact ⟨e, he, h5, h6⟩)
    (fun _ _ _ => Nw.trans) (fun i w w' v h hn => Say.ok_stab (sayAt_stab hM i) h hn)
    (fun i o hi ho x w hw hdep K hK => by
      have ho' : l0[i]? = some o := by rwa [List.getElem?_append_left hi] at ho
      have hst := t1.get i o ho'
      rw [Nat.zero_add] at hst
      rw [fill_none hd] at *
      rw [hwt o (List.mem_of_getElem? ho')]
      exact hst x w hw hdep K hK)
    (fun x w hw hx => by
      rw [fill_none hd]
      exact t2 x w hw hx)
    (l0 ++ [oz]).toArray.size (Array.replicate (l0 ++ [oz]).toArray.size false) (fun i => (((l0 ++ [oz])[i]?).bind (·.dst)).elim undef (a0.tmps.getD · undef)) w0.drew (by simp)
    (by simp) (Nat.le_trans List.countP_le_length (by simp)) (Nw.refl _).drew (fun i _ h => by simp [Array.getElem?_replicate] at h; split at h <;> simp at h)
  rw [fill_same] at key
  exact key
end
end Go.Proofs.Ytdihoedehmfgfaa
namespace Go.Proofs.Ytdihoedehmfgfaa
open Go.RowKit
section
variable {P : Program} {l : List Oper} {Q : Exit → Act → World → Prop} {w0 : World} {L : List Say}
def dep (l : List Oper) (k j : Nat) : Bool := match l[k]? with
  | some o => o.after.any fun e => e.on == j && Region.binds .any e
  | none => false
theorem dep_spec {k j : Nat} (h : dep l k j = true) : ∃ o, l[k]? = some o ∧ ∃ e ∈ o.after, e.on = j ∧ Region.binds .any e = true := by
  unfold dep at h
  cases ho : l[k]? with
  | none => rw [ho] at h; cases h
  | some o =>
    rw [ho] at h
    simp only [Array.any_eq_true', Bool.and_eq_true, beq_iff_eq] at h
    obtain ⟨e, he, h1, h2⟩ := h
    exact ⟨o, rfl, e, he, h1, h2⟩
def reach (l : List Oper) (m : Nat) : Nat → Nat → Bool
  | 0, _ => false
  | f + 1, j => (List.range (m + 1)).any fun k => dep l k j && (k == m || reach l m f k)
def Shut (l : List Oper) (listed : Array Bool) : Prop := ∀ k o, l[k]? = some o → listed.getD k false = true → ∀ e ∈ o.after, Region.binds .any e = true → listed.getD e.on false = true
theorem reach_spec {m : Nat} {listed : Array Bool} {om : Oper} (hc : Shut l listed) (hm : l[m]? = some om) (h2 : ∀ e ∈ om.after, Region.binds .any e = true → listed.getD e.on false = true) :
    ∀ f j, reach l m f j = true → listed.getD j false = true
  | 0, j, h => by cases h
  | f + 1, j, h => by
    simp only [reach, List.any_eq_true, Bool.and_eq_true, Bool.or_eq_true, beq_iff_eq] at h
    obtain ⟨k, _, hd, hk⟩ := h
    obtain ⟨o, ho, e, he, e1, e2⟩ := dep_spec hd
    rcases hk with rfl | hk
    · rw [hm] at ho
      obtain rfl := Option.some.inj ho
      have := h2 e he e2
      rwa [e1] at this
    · have := hc k o ho (reach_spec hc hm h2 f k hk) e he e2
      rwa [e1] at this
theorem wpOp_of_list {ops : Array Oper} {i : Nat} {o : Oper} {rest : List Oper} {a : Act} {w : World} (ho : ops[i]? = some o) (h : wpList P ops Q (o :: rest) a w) : wpOp P ops Q i (wpList P ops Q rest) a w := by
  unfold wpOp
  rw [ho]
  exact h
theorem tail_go {m : Nat} (hok : okOps l = true) (htail : ∀ i, m < i → i < l.length → ∀ j, j < i → dep l i j = true) :
    ∀ (fuel i : Nat) (listed : Array Bool) (a : Act) (w : World), m < i → i ≤ l.length → listed.size = l.length → (∀ j, j < i → listed.getD j false = true) → (∀ j, i ≤ j → j < l.length → listed.getD j true = false) →
      l.length - i ≤ fuel → wpList P l.toArray Q (l.drop i) a w → wpAny P .any l.toArray Q fuel listed a w := by
  intro fuel
  induction fuel with
  | zero =>
    intro i listed a w hmi hil hsz h1 h2 hf h
    obtain rfl : i = l.length := by omega
    rw [List.drop_length] at h
    exact wpAny_all hsz h1 h
  | succ fuel ih =>
    intro i listed a w hmi hil hsz h1 h2 hf h
    by_cases hie : i = l.length
    · subst hie
      rw [List.drop_length] at h
      exact wpAny_all hsz h1 h
    · have hlt : i < l.length := by omega
      have hun := h2 i (Nat.le_refl _) hlt
      refine ⟨fun hr => ?_, fun k hk => ?_⟩
      · have := ready_none hok hsz hr i hlt
        simp [show i < listed.size by omega] at this hun
        rw [hun] at this
        cases this
      · obtain ⟨o, ho, g1, g2⟩ := ready_spec hk
        have hkl : k < l.length := (List.getElem?_eq_some_iff.1 ho).1
        have hki : k = i := by
          rcases Nat.lt_trichotomy k i with hlt2 | rfl | hgt
          · have := h1 k hlt2
            simp [show k < listed.size by omega] at this g1
            rw [g1] at this
            cases this
          · rfl
          · obtain ⟨o', ho', e, he, e1, e2⟩ := dep_spec (htail k (by omega) hkl i hgt)
            rw [ho] at ho'
            obtain rfl := Option.some.inj ho'
            have := g2 e he e2
            rw [e1] at this
            simp [show i < listed.size by omega] at this hun
            rw [hun] at this
            cases this
        subst hki
        have hd : l.drop k = o :: l.drop (k + 1) := by
          rw [List.drop_eq_getElem_cons hkl]
          have := (List.getElem?_eq_some_iff.1 ho).2
          rw [this]
        rw [hd] at h
        refine wpOp_mono (fun a' w' hq => ih (k + 1) _ a' w' (by omega) (by omega) (by simpa using hsz) (fun j hj => ?_) (fun j hj hjl => ?_) (by omega) hq) (wpOp_of_list (by simpa using ho) h)
        · by_cases hjk : j = k
          · subst hjk; simp [show j < listed.size by omega]
          · have := h1 j (by omega)
            simpa [Array.getElem?_setIfInBounds, Ne.symm hjk] using this
        · have := h2 j (by omega) hjl
          simpa [Array.getElem?_setIfInBounds, show ¬ k = j by omega] using this
theorem wpAny_tail {a0 : Act} {R : World → World → Prop} {Φ : Nat → World → Value → Prop} (hok : okOps l = true) {m f : Nat} {om : Oper} (hom : l[m]? = some om)
    (hreach : ∀ j, j < m → reach l m f j = true) (htail : ∀ i, m < i → i < l.length → ∀ j, j < i → dep l i j = true)
    (htr : ∀ a b c, R a b → R b c → R a c) (hst : ∀ i w w' v, Φ i w v → R w w' → Φ i w' v)
    (hs : ∀ i o, i < m → l[i]? = some o → StepOk P l Q a0 w0 R Φ i o) (hend : ∀ x w, R w0 w → (∀ i, i < m → Φ i w (x i)) → wpList P l.toArray Q (l.drop m) (fill a0 x 0 l) w) :
    ∀ (fuel : Nat) (listed : Array Bool) (x : Nat → Value) (w : World), listed.size = l.length → (∀ j, m ≤ j → j < l.length → listed.getD j true = false) → Shut l listed → left listed ≤ fuel → R w0 w →
      (∀ i, i < m → listed.getD i false = true → Φ i w (x i)) → wpAny P .any l.toArray Q fuel listed (fill a0 x 0 l) w := by
  intro fuel
  have hml : m < l.length := (List.getElem?_eq_some_iff.1 hom).1
  have no : ∀ listed : Array Bool, listed.size = l.length → listed.getD m true = false → Region.ready .any l.toArray listed = [] → False := fun listed hsz hm hr => by
    have := ready_none hok hsz hr m (by omega)
    simp [show m < listed.size by omega] at this hm
    rw [hm] at this
    cases this
  induction fuel with
  | zero =>
    intro listed x w hsz hm hc hl hw hΦ
    exfalso
    refine no listed hsz (hm m (Nat.le_refl _) hml) ?_
    cases hr : Region.ready .any l.toArray listed with
    | nil => rfl
    | cons i r =>
      exfalso
      obtain ⟨o, _, h1, _⟩ := ready_spec (l := l) (listed := listed) (i := i) (by rw [hr]; simp)
      have := left_set h1
      omega
  | succ fuel ih =>
    intro listed x w hsz hm hc hl hw hΦ
    refine ⟨fun hr => (no listed hsz (hm m (Nat.le_refl _) hml) hr).elim, fun i hi => ?_⟩
    obtain ⟨o, ho, h1, h2⟩ := ready_spec hi
    have hil : i < l.length := (List.getElem?_eq_some_iff.1 ho).1
    rcases Nat.lt_trichotomy i m with hlt | rfl | hgt
    · refine wpOp_step (by simpa using ho) fun K' hK' => ?_
      refine hs i o hlt ho x w hw (fun e he hb => ?_) K' fun v w' hww hv => hK' _ _ ?_
      · have hlt2 := okOps_after hok ho he hb
        exact hΦ e.on (by omega) (h2 e he hb)
      · rw [fill_put hok a0 x ho v]
        refine ih _ _ w' (by simpa using hsz) (fun j hj hjl => ?_) (fun k ok hk hlk e he hb => ?_) (by have := left_set h1; omega) (htr _ _ _ hw hww) fun j hj hl2 => ?_
        · have := hm j hj hjl
          simpa [Array.getElem?_setIfInBounds, show ¬ i = j by omega] using this
        · have key : listed.getD e.on false = true := by
            by_cases hki : k = i
            · subst hki
              rw [ho] at hk
              obtain rfl := Option.some.inj hk
              exact h2 e he hb
            · exact hc k ok hk (by simpa [Array.getElem?_setIfInBounds, Ne.symm hki] using hlk) e he hb
          by_cases hei : e.on = i
          · rw [hei]; simp [show i < listed.size by omega]
          · simpa [Array.getElem?_setIfInBounds, Ne.symm hei] using key
        · simp only [upd]
          by_cases hji : j = i
          · subst hji; rw [if_pos rfl]; exact hv
          · rw [if_neg hji]
            refine hst _ _ _ _ (hΦ j hj ?_) hww
            simpa [Array.getElem?_setIfInBounds, Ne.symm hji] using hl2
    · rw [hom] at ho
      obtain rfl := Option.some.inj ho
      have hlst : ∀ j, j < i → listed.getD j false = true := fun j hj => reach_spec hc hom h2 f j (hreach j hj)
      have hw1 := hend x w hw fun j hj => hΦ j hj (hlst j hj)
      have hd : l.drop i = om :: l.drop (i + 1) := by
        rw [List.drop_eq_getElem_cons hil]
        have := (List.getElem?_eq_some_iff.1 hom).2
        rw [this]
      rw [hd] at hw1
      have hcnt : l.length - (i + 1) ≤ fuel := by
        have hlen : left listed ≥ l.length - i := by
          have hs2 : listed.toList = listed.toList.take i ++ listed.toList.drop i := (List.take_append_drop _ _).symm
          unfold left
          rw [hs2, List.countP_append]
          have : (listed.toList.drop i).countP (· == false) = (listed.toList.drop i).length := by
            rw [List.countP_eq_length]
            intro b hb
            obtain ⟨n, hn, rfl⟩ := List.getElem_of_mem hb
            have hn' : i + n < listed.size := by simp at hn; omega
            have := hm (i + n) (by omega) (by omega)
            simp [hn'] at this
            simpa using this
          rw [this, List.length_drop, Array.length_toList, hsz]
          omega
        have hml2 := left_set h1
        omega
      refine wpOp_mono (fun a' w' hq => tail_go hok htail fuel (i + 1) _ a' w' (by omega) (by omega) (by simpa using hsz) (fun j hj => ?_) (fun j hj hjl => ?_) hcnt hq) (wpOp_of_list (by simpa using hom) hw1)
      · by_cases hji : j = i
        · subst hji; simp [show j < listed.size by omega]
        · have := hlst j (by omega)
          simpa [Array.getElem?_setIfInBounds, Ne.symm hji] using this
      · have := hm j (by omega) hjl
        simpa [Array.getElem?_setIfInBounds, show ¬ i = j by omega] using this
    · exfalso
      obtain ⟨o', ho', e, he, e1, e2⟩ := dep_spec (htail i hgt hil m hgt)
      rw [ho] at ho'
      obtain rfl := Option.some.inj ho'
      have h3 := h2 e he e2
      have h4 := hm m (Nat.le_refl _) hml
      rw [e1] at h3
      simp [show m < listed.size by omega] at h3 h4
      rw [h4] at h3
      cases h3
theorem fill_append {x : Nat → Value} : ∀ (a b : List Oper) (i : Nat) (c : Act), fill c x i (a ++ b) = fill (fill c x i a) x (i + a.length) b
  | [], b, i, c => rfl
  | o :: r, b, i, c => by
    rw [List.cons_append, fill, fill, fill_append r b (i + 1)]
    congr 1
    simp only [List.length_cons]; omega
theorem slotOf_none {s : Nat} : ∀ (l : List Oper) (i : Nat), (∀ o ∈ l, o.dst ≠ some s) → slotOf s i l = none
  | [], _, _ => rfl
  | o :: r, i, h => by
    rw [slotOf, slotOf_none r (i + 1) (fun p hp => h p (by simp [hp]))]
    simp only
    rw [if_neg (h o (by simp))]
/-- What is asked of the last operations. -/
def okTail (l : List Oper) (m : Nat) : Bool :=
  decide (m < l.length) && ((List.range m).all fun j => reach l m l.length j) && ((List.range l.length).all fun i => !decide (m < i) || (List.range i).all fun j => dep l i j) &&
  ((l.take m).all fun o => (match o.guard with | none => true | some g => decide (g.1 < m)) && (o.looksAt (l.take m).toArray).all fun s => (l.drop m).all fun t => !(t.dst == some s))
/-- THE LAW. -/
theorem wp_region_tail {id : Nat} {a0 : Act} (m : Nat) (hm : P.follows .mixedOrders = true) (hok : okOps l = true) (hok0 : okOps (l.take m) = true) (hok2 : okSeq (l.take m) = true) (hot : okTail l m = true)
    (hs : Stairs P (l.take m) (fun _ a w => ∀ y, wpList P l.toArray Q (l.drop m) (fill a y m (l.drop m)) w) w0 [] (l.take m) (fun _ => a0)) : (Code.region id l.toArray true).wp P Q a0 w0 := by
  simp only [okTail, Bool.and_eq_true] at hot
  obtain ⟨⟨⟨c1, c2⟩, c3⟩, c4⟩ := hot
  have hml : m < l.length := of_decide_eq_true c1
  have hreach : ∀ j, j < m → reach l m l.length j = true := fun j hj => (List.all_eq_true.1 c2) j (List.mem_range.2 hj)
  have htail : ∀ i, m < i → i < l.length → ∀ j, j < i → dep l i j = true := fun i h1 h2 j hj => by
    have := (List.all_eq_true.1 c3) i (List.mem_range.2 h2)
    simp only [decide_eq_true h1, Bool.not_true, Bool.false_or] at this
    exact (List.all_eq_true.1 this) j (List.mem_range.2 hj)
  have hom : l[m]? = some l[m] := List.getElem?_eq_getElem hml
  have hlt0 : (l.take m).length = m := by simp; omega
  have hcat : l.take m ++ l.drop m = l := List.take_append_drop m l
  obtain ⟨M, hM, h⟩ := stairs_ok hok0 (l.take m) [] _ rfl hs
  obtain ⟨t1, t2⟩ := steps_ok (a0 := a0) (Q2 := fun _ _ _ => False) hok0 hok2 (l.take m) 0 rfl h
  have hfa : ∀ x, fill a0 x 0 l = fill (fill a0 x 0 (l.take m)) x m (l.drop m) := fun x => by
    conv => lhs; rw [← hcat]
    rw [fill_append, hlt0, Nat.zero_add]
  refine wp_region_any hm ?_
  have key := wpAny_tail (P := P) (l := l) (Q := Q) (w0 := w0) (a0 := a0) (R := Nw) (Φ := fun j w v => (sayAt M j).ok w v) hok hom hreach htail
    (fun _ _ _ => Nw.trans) (fun i w w' v h hn => Say.ok_stab (sayAt_stab hM i) h hn)
    (fun i o hi ho x w hw hdep K hK => by
      have ho' : (l.take m)[i]? = some o := by rw [List.getElem?_take, if_pos hi]; exact ho
      have hst := t1.get i o ho'
      rw [Nat.zero_add] at hst
      have h4 := (List.all_eq_true.1 c4) o (List.mem_of_getElem? ho')
      rw [Bool.and_eq_true] at h4
      obtain ⟨g4, l4⟩ := h4
      have hsz : (fill a0 x 0 l).tmps.size = (fill a0 x 0 (l.take m)).tmps.size := by rw [fill_size, fill_size]
      have hag : ∀ s ∈ o.looksAt (l.take m).toArray, (fill a0 x 0 l).tmps[s]? = (fill a0 x 0 (l.take m)).tmps[s]? := fun s hs => by
        rw [hfa, fill_get x s (l.drop m), slotOf_none (l.drop m) m (fun t ht e => by
          have := (List.all_eq_true.1 ((List.all_eq_true.1 l4) s hs)) t ht
          rw [e] at this
          simp at this)]
      obtain ⟨hsel, _⟩ := okSeq_spec hok2 ho'
      have hex : execOp (fill a0 x 0 l).eval o = execOp (fill a0 x 0 (l.take m)).eval o := execOp_congr o hsel fun y hy => by
        cases y with
        | tmp t =>
          have := hag t (List.mem_append_left _ (List.mem_filterMap.2 ⟨.tmp t, by simpa using hy, rfl⟩))
          simp only [Act.eval]
          rw [Array.getD_eq_getD_getElem?, Array.getD_eq_getD_getElem?, this]
        | const v => rfl
        | global g => rfl
        | func f => rfl
      have hwt : Region.wanted o (yielded l.toArray (fill a0 x 0 l).tmps) = Region.wanted o (yielded (l.take m).toArray (fill a0 x 0 (l.take m)).tmps) := by
        unfold Region.wanted
        cases hg : o.guard with
        | none => rfl
        | some g =>
          obtain ⟨gi, gb⟩ := g
          rw [hg] at g4
          have hgm : gi < m := of_decide_eq_true g4
          have he : l.toArray[gi]? = (l.take m).toArray[gi]? := by simp [List.getElem?_take, hgm]
          have : yielded l.toArray (fill a0 x 0 l).tmps gi = yielded (l.take m).toArray (fill a0 x 0 (l.take m)).tmps gi := by
            unfold yielded
            rw [he]
            cases hgo : ((l.take m).toArray[gi]?).bind (·.dst) with
            | none => rfl
            | some d =>
              have := hag d (by unfold Oper.looksAt; rw [hg]; refine List.mem_append_right _ ?_; show d ∈ (((l.take m).toArray[gi]?).bind (·.dst)).toList; rw [hgo]; simp)
              simp only [Option.bind_some, this]
          simp only [this]
      have hstep := hst x w hw hdep (fun a' w' => ∃ v, a' = (fill a0 x 0 (l.take m)).put o.dst v ∧ Nw w w' ∧ (sayAt M i).ok w' v) (fun v w' k1 k2 => ⟨v, rfl, k1, k2⟩)
      rw [hwt]
      split
      · rename_i hc
        rw [if_pos hc] at hstep
        refine Oper.wp_mono (fun a' w' hh => ?_) (wp_transfer hsz hex hstep)
        obtain ⟨v, rfl, k1, k2⟩ := hh
        exact hK v w' k1 k2
      · rename_i hc
        rw [if_neg hc] at hstep
        obtain ⟨v, k0, k1, k2⟩ := hstep
        rw [put_same hsz k0]
        exact hK v w k1 k2)
    (fun x w hw hx => by
      rw [hfa]
      exact t2 x w hw (fun i hi => hx i (by omega)) x)
    l.toArray.size (Array.replicate l.toArray.size false) (fun i => ((l[i]?).bind (·.dst)).elim undef (a0.tmps.getD · undef)) w0.drew (by simp)
    (fun j _ hjl => by simp [hjl]) (fun k o _ hk => by simp [Array.getElem?_replicate] at hk; split at hk <;> simp at hk) (Nat.le_trans List.countP_le_length (by simp)) (Nw.refl _).drew (fun i _ h => by simp [Array.getElem?_replicate] at h; split at h <;> simp at h)
  rw [fill_same] at key
  exact key
end
end Go.Proofs.Ytdihoedehmfgfaa
