/- A statement whose order Go leaves open, walked in the order of its text: each operation once, at a frame in which the values of those ahead of it stand; worlds only grow. No condition. -/
import Derived.Test.YtlimhggkimnddaaDoorRegion
set_option linter.unusedSimpArgs false
set_option linter.unusedVariables false
namespace Go.Proofs.YtlimhggkimnddaaDoor
open Go.RowKit

/-- What is said of an operation's value: it is c, or some p holds of it. -/
inductive Say where
  | is (c : Value)
  | that (p : Says)
def Say.ok : Say → World → Value → Prop
  | .is c, _, v => v = c
  | .that p, w, v => p w v
def Say.val : Say → Value → Value
  | .is c, _ => c
  | .that _, v => v
theorem Say.val_ok {s : Say} {w : World} {v : Value} (h : s.ok w v) : s.val v = v := by
  cases s with
  | is c => exact (show v = c from h).symm
  | that p => rfl
def Say.stab : Say → Prop
  | .is _ => True
  | .that p => Stab p
theorem Say.ok_stab {s : Say} (h : s.stab) {w w' : World} {v : Value} (k : s.ok w v) (hn : Nw w w') : s.ok w' v := by
  cases s with
  | is c => exact k
  | that p => exact h _ _ _ k hn
def sayAt (L : List Say) (i : Nat) : Say := L.getD i (.that Any)
def AllStab : List Say → Prop
  | [] => True
  | s :: r => s.stab ∧ AllStab r
theorem sayAt_stab {L : List Say} (h : AllStab L) (i : Nat) : (sayAt L i).stab := by
  induction L generalizing i with
  | nil => exact Stab.any
  | cons s r ih =>
    cases i with
    | zero => exact h.1
    | succ i => exact ih h.2 i

section
variable {P : Program} {l : List Oper} {Q : Exit → Act → World → Prop} {w0 : World} {L : List Say}
def SeqStep (P : Program) (l : List Oper) (w0 : World) (L : List Say) (i : Nat) (o : Oper) (b : (Nat → Value) → Act) : Prop :=
  ∀ x w, Nw w0 w → (∀ e ∈ o.after, Region.binds .any e = true → (sayAt L e.on).ok w (x e.on)) → ∀ K : Act → World → Prop,
    (∀ v w', Nw w w' → (sayAt L i).ok w' v → K ((b x).put o.dst v) w') →
    if Region.wanted o (yielded l.toArray (b x).tmps) = true then o.wp P (b x) w K (fun _ _ _ => False) else K ((b x).put o.dst undef) w
def Steps (P : Program) (l : List Oper) (Q : Exit → Act → World → Prop) (w0 : World) (L : List Say) : Nat → List Oper → ((Nat → Value) → Act) → Prop
  | _, [], b => ∀ x w, Nw w0 w → (∀ i, i < l.length → (sayAt L i).ok w (x i)) → Q .normal (b x) w
  | i, o :: r, b => SeqStep P l w0 L i o b ∧ Steps P l Q w0 L (i + 1) r (fun x => (b x).put o.dst ((sayAt L i).val (x i)))
theorem Steps.nil {i : Nat} {b : (Nat → Value) → Act} (h : ∀ x w, Nw w0 w → (∀ i, i < l.length → (sayAt L i).ok w (x i)) → Q .normal (b x) w) : Steps P l Q w0 L i [] b := h
theorem Steps.cons {i : Nat} {o : Oper} {r : List Oper} {b : (Nat → Value) → Act} (h : SeqStep P l w0 L i o b) (t : Steps P l Q w0 L (i + 1) r (fun x => (b x).put o.dst ((sayAt L i).val (x i)))) : Steps P l Q w0 L i (o :: r) b := ⟨h, t⟩

/-- What an operation looks at was written by what it waits for, or by nothing here. -/
def okSeq (l : List Oper) : Bool :=
  l.zipIdx.all fun p => (match p.1.op with | .select _ _ => false | _ => true) && (p.1.looksAt l.toArray).all fun s => slotOf s 0 (l.take p.2) == slotOf s 0 l && (match slotOf s 0 l with | none => true | some j => p.1.after.any fun e => e.on == j && Region.binds .any e)
theorem okSeq_spec {l : List Oper} (h : okSeq l = true) {i : Nat} {o : Oper} (hi : l[i]? = some o) : (∀ cs b, o.op ≠ .select cs b) ∧ ∀ s ∈ o.looksAt l.toArray, slotOf s 0 (l.take i) = slotOf s 0 l ∧ ∀ j, slotOf s 0 l = some j → ∃ e ∈ o.after, e.on = j ∧ Region.binds .any e = true := by
  simp only [okSeq, List.all_eq_true] at h
  have := h (o, i) (by rw [List.mem_zipIdx_iff_getElem?]; simpa using hi)
  simp only [Bool.and_eq_true] at this
  obtain ⟨h1, h2⟩ := this
  refine ⟨(fun cs b e => by rw [e] at h1; cases h1), fun s hs => ?_⟩
  rw [List.all_eq_true] at h2
  have h3 := h2 s hs
  simp only [Bool.and_eq_true, beq_iff_eq] at h3
  refine ⟨h3.1, fun j hj => ?_⟩
  have h4 := h3.2
  rw [hj] at h4
  simp only [Array.any_eq_true', Bool.and_eq_true, beq_iff_eq] at h4
  obtain ⟨e, he, h5, h6⟩ := h4
  exact ⟨e, he, h5, h6⟩

theorem put_same {a b : Act} (hs : a.tmps.size = b.tmps.size) {d : Option Tmp} {v v' : Value} (h : b.put d v = b.put d v') : a.put d v = a.put d v' := by
  cases d with
  | none => rfl
  | some d =>
    by_cases hd : d < b.tmps.size
    · have : (b.put (some d) v).tmps[d]? = (b.put (some d) v').tmps[d]? := by rw [h]
      rw [put_get, put_get, if_pos ⟨rfl, hd⟩, if_pos ⟨rfl, hd⟩] at this
      rw [Option.some.inj this]
    · simp only [Act.put]
      have ha : ¬ d < a.tmps.size := by rw [hs]; exact hd
      simp [Array.setIfInBounds, ha]
theorem wp_transfer {o : Oper} {a b : Act} {w : World} {G : Value → World → Prop} (hs : a.tmps.size = b.tmps.size) (he : execOp a.eval o = execOp b.eval o)
    (h : o.wp P b w (fun a' w' => ∃ v, a' = b.put o.dst v ∧ G v w') (fun _ _ _ => False)) : o.wp P a w (fun a' w' => ∃ v, a' = a.put o.dst v ∧ G v w') Q := by
  unfold Oper.wp at *
  rw [he]
  generalize (execOp b.eval o).run P w = r at *
  have one : ∀ v w', (∃ v', b.put o.dst v = b.put o.dst v' ∧ G v' w') → ∃ v', a.put o.dst v = a.put o.dst v' ∧ G v' w' := fun v w' ⟨v', h1, h2⟩ => ⟨v', put_same hs h1, h2⟩
  cases r with
  | ok n w' =>
    cases n with
    | value v => exact one _ _ h
    | skip => exact one _ _ h
    | defer d =>
      obtain ⟨v', h1, _⟩ := h
      have := congrArg (fun x => x.defers.length) h1
      simp only [put_defers, List.length_cons] at this
      omega
    | enter f args =>
      refine Calls.mono h fun e w'' he => ?_
      cases e with
      | returned v => exact one _ _ he
      | panicked c => exact absurd he id
      | outgrown => obtain ⟨_, _, h⟩ := he; exact absurd h id
    | row row args => exact Rows.mono h fun v w'' he => one _ _ he
    | _ => exact absurd h id
  | halt x w' =>
    cases x with
    | panic v => exact absurd h id
    | _ => exact absurd h id

theorem fill_congr {x y : Nat → Value} : ∀ (l : List Oper) (i : Nat) (a : Act), (∀ j, i ≤ j → j < i + l.length → x j = y j) → fill a x i l = fill a y i l
  | [], _, _, _ => rfl
  | o :: r, i, a, h => by
    rw [fill, fill, h i (Nat.le_refl _) (by simp)]
    exact fill_congr r (i + 1) _ fun j h1 h2 => h j (by omega) (by simp at h2 ⊢; omega)
theorem fill_snoc {x : Nat → Value} (o : Oper) : ∀ (l : List Oper) (i : Nat) (a : Act), fill a x i (l ++ [o]) = (fill a x i l).put o.dst (x (i + l.length))
  | [], i, a => rfl
  | p :: r, i, a => by
    rw [List.cons_append, fill, fill, fill_snoc o r (i + 1)]
    congr 2
    simp only [List.length_cons]; try omega

theorem steps_ok {a0 : Act} {Q2 : Exit → Act → World → Prop} (hok : okOps l = true) (hok2 : okSeq l = true) : ∀ (r : List Oper) (i : Nat), l.drop i = r → Steps P l Q w0 L i r (fun x => fill a0 (fun j => (sayAt L j).val (x j)) 0 (l.take i)) →
    StepsOk P l Q2 a0 w0 Nw (fun j w v => (sayAt L j).ok w v) i r ∧ (∀ x w, Nw w0 w → (∀ i, i < l.length → (sayAt L i).ok w (x i)) → Q .normal (fill a0 x 0 l) w)
  | [], i, hr, h => by
    refine ⟨trivial, fun x w hw hx => ?_⟩
    have := h x w hw hx
    dsimp only at this
    rw [List.take_of_length_le (by simpa using hr), fill_congr (y := x) l 0 a0 fun j _ hj => Say.val_ok (hx j (by omega))] at this
    exact this
  | o :: r, i, hr, h => by
    have hi : l[i]? = some o := by have := congrArg (·[0]?) hr; simpa using this
    have hil : i < l.length := (List.getElem?_eq_some_iff.1 hi).1
    obtain ⟨h1, h2⟩ := h
    have htk : l.take (i + 1) = l.take i ++ [o] := by rw [List.take_add_one, hi]; rfl
    have h2' : Steps P l Q w0 L (i + 1) r (fun x => fill a0 (fun j => (sayAt L j).val (x j)) 0 (l.take (i + 1))) := by
      have e : (fun x : Nat → Value => fill a0 (fun j => (sayAt L j).val (x j)) 0 (l.take (i + 1))) = fun x => (fill a0 (fun j => (sayAt L j).val (x j)) 0 (l.take i)).put o.dst ((sayAt L i).val (x i)) := by
        funext x
        rw [htk, fill_snoc]
        have hlen : (l.take i).length = i := by simp; omega
        rw [hlen, Nat.zero_add]
      rw [e]; exact h2
    obtain ⟨t1, t2⟩ := steps_ok hok hok2 r (i + 1) (by rw [← List.drop_drop, hr]; rfl) h2'
    refine ⟨⟨fun x w hw hd K hK => ?_, t1⟩, t2⟩
    obtain ⟨hsel, hlook⟩ := okSeq_spec hok2 hi
    have hsz : (fill a0 x 0 l).tmps.size = (fill a0 (fun j => (sayAt L j).val (x j)) 0 (l.take i)).tmps.size := by rw [fill_size, fill_size]
    have hag : ∀ s ∈ o.looksAt l.toArray, (fill a0 x 0 l).tmps[s]? = (fill a0 (fun j => (sayAt L j).val (x j)) 0 (l.take i)).tmps[s]? := fun s hs => by
      obtain ⟨e1, e2⟩ := hlook s hs
      rw [fill_get, fill_get, e1]
      cases hsl : slotOf s 0 l with
      | none => rfl
      | some j =>
        obtain ⟨e, he, he1, he2⟩ := e2 j hsl
        have := hd e he he2
        rw [he1] at this
        dsimp only
        rw [Say.val_ok this]
    have hex : execOp (fill a0 x 0 l).eval o = execOp (fill a0 (fun j => (sayAt L j).val (x j)) 0 (l.take i)).eval o := execOp_congr o hsel fun y hy => by
      cases y with
      | tmp t =>
        have := hag t (List.mem_append_left _ (List.mem_filterMap.2 ⟨.tmp t, by simpa using hy, rfl⟩))
        simp only [Act.eval]
        rw [Array.getD_eq_getD_getElem?, Array.getD_eq_getD_getElem?, this]
      | const v => rfl
      | global g => rfl
      | func f => rfl
    have hwt : Region.wanted o (yielded l.toArray (fill a0 x 0 l).tmps) = Region.wanted o (yielded l.toArray (fill a0 (fun j => (sayAt L j).val (x j)) 0 (l.take i)).tmps) := by
      unfold Region.wanted
      cases hg : o.guard with
      | none => rfl
      | some g =>
        obtain ⟨gi, gb⟩ := g
        have : yielded l.toArray (fill a0 x 0 l).tmps gi = yielded l.toArray (fill a0 (fun j => (sayAt L j).val (x j)) 0 (l.take i)).tmps gi := by
          unfold yielded
          cases hgo : (l.toArray[gi]?).bind (·.dst) with
          | none => rfl
          | some d =>
            have := hag d (by unfold Oper.looksAt; rw [hg]; refine List.mem_append_right _ ?_; show d ∈ ((l.toArray[gi]?).bind (·.dst)).toList; rw [hgo]; simp)
            simp only [Option.bind_some, this]
        simp only [this]
    have hstep := h1 x w hw hd (fun a' w' => ∃ v, a' = (fill a0 (fun j => (sayAt L j).val (x j)) 0 (l.take i)).put o.dst v ∧ Nw w w' ∧ (sayAt L i).ok w' v) (fun v w' k1 k2 => ⟨v, rfl, k1, k2⟩)
    rw [hwt]
    split
    · rename_i hc
      rw [if_pos hc] at hstep
      refine Oper.wp_mono (fun a' w' hh => ?_) (wp_transfer hsz hex hstep)
      obtain ⟨v, rfl, k1, k2⟩ := hh
      exact hK v w' k1 k2
    · rename_i hc
      rw [if_neg hc] at hstep
      obtain ⟨v, k0, k1, k2⟩ := hstep
      rw [put_same hsz k0]
      exact hK v w k1 k2
/-- THE LAW. -/
theorem wp_region_seq {P : Program} {id : Nat} {l : List Oper} {Q : Exit → Act → World → Prop} {a0 : Act} {w0 : World} (L : List Say)
    (hm : P.follows .mixedOrders = true) (hok : okOps l = true) (hok2 : okSeq l = true) (hst : AllStab L)
    (hs : Steps P l Q w0 L 0 l (fun _ => a0)) : (Code.region id l.toArray true).wp P Q a0 w0 := by
  obtain ⟨h1, h2⟩ := steps_ok (a0 := a0) hok hok2 l 0 rfl hs
  exact wp_region_phi Nw (fun j w v => (sayAt L j).ok w v) hm hok (fun _ _ _ => Nw.trans) (fun i w w' v h hn => Say.ok_stab (sayAt_stab hst i) h hn) (Nw.refl _).drew h1 h2
/-! ### The same, each saying given where its operation stands -/
def SeqStepAt (P : Program) (l : List Oper) (w0 : World) (L : List Say) (s : Say) (o : Oper) (b : (Nat → Value) → Act) : Prop :=
  ∀ x w, Nw w0 w → (∀ e ∈ o.after, Region.binds .any e = true → (sayAt L e.on).ok w (x e.on)) → ∀ K : Act → World → Prop,
    (∀ v w', Nw w w' → s.ok w' v → K ((b x).put o.dst v) w') →
    if Region.wanted o (yielded l.toArray (b x).tmps) = true then o.wp P (b x) w K (fun _ _ _ => False) else K ((b x).put o.dst undef) w
def Stairs (P : Program) (l : List Oper) (Q : Exit → Act → World → Prop) (w0 : World) : List Say → List Oper → ((Nat → Value) → Act) → Prop
  | L, [], b => ∀ x w, Nw w0 w → (∀ i, i < l.length → (sayAt L i).ok w (x i)) → Q .normal (b x) w
  | L, o :: r, b => ∃ s : Say, s.stab ∧ SeqStepAt P l w0 L s o b ∧ Stairs P l Q w0 (L ++ [s]) r (fun x => (b x).put o.dst (s.val (x L.length)))
theorem Stairs.nil {b : (Nat → Value) → Act} (h : ∀ x w, Nw w0 w → (∀ i, i < l.length → (sayAt L i).ok w (x i)) → Q .normal (b x) w) : Stairs P l Q w0 L [] b := h
/-- An operation whose value is c. -/
theorem Stairs.is {o : Oper} {r : List Oper} {b : (Nat → Value) → Act} (c : Value) (h : SeqStepAt P l w0 L (.is c) o b) (t : Stairs P l Q w0 (L ++ [.is c]) r (fun x => (b x).put o.dst c)) : Stairs P l Q w0 L (o :: r) b := ⟨.is c, trivial, h, t⟩
/-- An operation of whose value p holds. -/
theorem Stairs.that {o : Oper} {r : List Oper} {b : (Nat → Value) → Act} (p : Says) (hp : Stab p) (h : SeqStepAt P l w0 L (.that p) o b) (t : Stairs P l Q w0 (L ++ [.that p]) r (fun x => (b x).put o.dst (x L.length))) : Stairs P l Q w0 L (o :: r) b := ⟨.that p, hp, h, t⟩
theorem sayAt_old (L M : List Say) (j : Nat) (h : j < L.length) : sayAt (L ++ M) j = sayAt L j := by
  unfold sayAt
  rw [List.getD_eq_getElem?_getD, List.getD_eq_getElem?_getD, List.getElem?_append_left h]
theorem AllStab.app {L M : List Say} (h : AllStab L) (k : AllStab M) : AllStab (L ++ M) := by
  induction L with
  | nil => exact k
  | cons s r ih => exact ⟨h.1, ih h.2⟩
theorem stairs_ok (hok : okOps l = true) : ∀ (r : List Oper) (L : List Say) (b : (Nat → Value) → Act), l.drop L.length = r → Stairs P l Q w0 L r b →
    ∃ M, AllStab M ∧ Steps P l Q w0 (L ++ M) L.length r b
  | [], L, b, hr, h => ⟨[], trivial, by rw [List.append_nil]; exact h⟩
  | o :: r, L, b, hr, ⟨s, hs, h1, h2⟩ => by
    have hi : l[L.length]? = some o := by have := congrArg (·[0]?) hr; simpa using this
    obtain ⟨M, hM, h3⟩ := stairs_ok hok r (L ++ [s]) _ (by rw [List.length_append, List.length_singleton, ← List.drop_drop, hr]; rfl) h2
    rw [List.append_assoc, List.length_append, List.length_singleton] at h3
    have hsi : sayAt (L ++ ([s] ++ M)) L.length = s := by
      unfold sayAt
      rw [List.getD_eq_getElem?_getD, List.getElem?_append_right (Nat.le_refl _)]
      simp
    refine ⟨[s] ++ M, ⟨hs, hM⟩, ⟨fun x w hw hd K hK => ?_, ?_⟩⟩
    · refine h1 x w hw (fun e he hb => ?_) K (fun v w' k1 k2 => hK v w' k1 (by rw [hsi]; exact k2))
      have := hd e he hb
      rwa [sayAt_old _ _ _ (okOps_after hok hi he hb)] at this
    · rw [hsi]; exact h3
/-- THE LAW, its sayings given one by one. -/
theorem wp_region_stairs {P : Program} {id : Nat} {l : List Oper} {Q : Exit → Act → World → Prop} {a0 : Act} {w0 : World}
    (hm : P.follows .mixedOrders = true) (hok : okOps l = true) (hok2 : okSeq l = true)
    (hs : Stairs P l Q w0 [] l (fun _ => a0)) : (Code.region id l.toArray true).wp P Q a0 w0 := by
  obtain ⟨M, hM, h⟩ := stairs_ok hok l [] _ rfl hs
  exact wp_region_seq M hm hok hok2 hM h
end
end Go.Proofs.YtlimhggkimnddaaDoor
