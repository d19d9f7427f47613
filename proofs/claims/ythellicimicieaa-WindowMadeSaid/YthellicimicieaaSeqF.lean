/- As SeqT, but the first f operations (a chain) need not have come when the first of the last operations comes: what is left then comes one by one. No condition. -/
import Derived.Test.YthellicimicieaaSeqT
set_option linter.unusedSimpArgs false
set_option linter.unusedVariables false
namespace Go.Proofs.Ythellicimicieaa
open Go.RowKit
section
variable {P : Program} {l : List Oper} {Q : Exit → Act → World → Prop} {w0 : World} {L : List Say}
def chainB (l : List Oper) : List Nat → Bool
  | i :: j :: r => dep l j i && chainB l (j :: r)
  | _ => true
theorem chain_pred : ∀ (r : List Nat) (i k : Nat), chainB l (i :: r) = true → k ∈ r → ∃ p ∈ i :: r, dep l k p = true
  | [], i, k, _, h => by cases h
  | j :: r, i, k, hc, hk => by
    simp only [chainB, Bool.and_eq_true] at hc
    rcases List.mem_cons.1 hk with rfl | hk
    · exact ⟨i, by simp, hc.1⟩
    · obtain ⟨p, hp, hd⟩ := chain_pred r j k hc.2 hk
      exact ⟨p, List.mem_cons_of_mem _ hp, hd⟩
def opsAt (l : List Oper) (r : List Nat) : List Oper := r.filterMap (l[·]?)
theorem tail_chain (hok : okOps l = true) : ∀ (rem : List Nat) (fuel : Nat) (listed : Array Bool) (a : Act) (w : World), listed.size = l.length → (∀ j, j < l.length → (listed.getD j true = false ↔ j ∈ rem)) → chainB l rem = true → (∀ j ∈ rem, j < l.length) → rem.Nodup → rem.length ≤ fuel →
    wpList P l.toArray Q (opsAt l rem) a w → wpAny P .any l.toArray Q fuel listed a w
  | [], fuel, listed, a, w, hsz, hl, _, _, _, _, h => by
    refine wpAny_all hsz (fun j hj => ?_) h
    cases hx : listed.getD j false with
    | true => rfl
    | false =>
      have := (hl j hj).1 (by simp [show j < listed.size by omega] at hx ⊢; exact hx)
      cases this
  | i :: r, 0, listed, a, w, hsz, hl, hc, hlt, hnd, hf, h => by simp at hf
  | i :: r, fuel + 1, listed, a, w, hsz, hl, hc, hlt, hnd, hf, h => by
    have hil := hlt i (by simp)
    have hun := (hl i hil).2 (by simp)
    refine ⟨fun hr => ?_, fun k hk => ?_⟩
    · have := ready_none hok hsz hr i hil
      simp [show i < listed.size by omega] at this hun
      rw [hun] at this
      cases this
    · obtain ⟨o, ho, g1, g2⟩ := ready_spec hk
      have hkl : k < l.length := (List.getElem?_eq_some_iff.1 ho).1
      have hkm := (hl k hkl).1 g1
      have hki : k = i := by
        rcases List.mem_cons.1 hkm with h1 | h1
        · exact h1
        · exfalso
          obtain ⟨p, hp, hd⟩ := chain_pred r i k hc h1
          obtain ⟨o', ho', e, he, e1, e2⟩ := dep_spec hd
          rw [ho] at ho'
          obtain rfl := Option.some.inj ho'
          have h3 := g2 e he e2
          have hpl := hlt p hp
          have h4 := (hl p hpl).2 hp
          rw [e1] at h3
          simp [show p < listed.size by omega] at h3 h4
          rw [h4] at h3
          cases h3
      subst hki
      have hd : opsAt l (k :: r) = o :: opsAt l r := by simp [opsAt, ho]
      rw [hd] at h
      have hnr : k ∉ r := (List.nodup_cons.1 hnd).1
      refine wpOp_mono (fun a' w' hq => tail_chain hok r fuel _ a' w' (by simpa using hsz) (fun j hj => ?_) ?_ (fun j hj => hlt j (by simp [hj])) (List.nodup_cons.1 hnd).2 (by simpa using hf) hq) (wpOp_of_list (by simpa using ho) h)
      · by_cases hjk : j = k
        · subst hjk
          simp [show j < listed.size by omega, hnr]
        · have := hl j hj
          rw [List.mem_cons] at this
          simpa [Array.getElem?_setIfInBounds, Ne.symm hjk, hjk] using this
      · cases r with
        | nil => rfl
        | cons j r => simp only [chainB, Bool.and_eq_true] at hc; exact hc.2
/-- A chain's part that has come is its beginning. -/
theorem down (p : Nat → Bool) : ∀ f : Nat, (∀ j, j + 1 < f → p (j + 1) = true → p j = true) → ∃ c, c ≤ f ∧ ∀ j, j < f → (p j = true ↔ j < c)
  | 0, _ => ⟨0, Nat.le_refl _, fun j h => by omega⟩
  | f + 1, h => by
    cases hp : p f with
    | true =>
      have all : ∀ d, d ≤ f → p (f - d) = true := fun d => by
        induction d with
        | zero => intro _; exact hp
        | succ d ih =>
          intro hd
          have h1 := ih (by omega)
          refine h (f - (d + 1)) (by omega) ?_
          rw [show f - (d + 1) + 1 = f - d by omega]
          exact h1
      refine ⟨f + 1, Nat.le_refl _, fun j hj => ⟨fun _ => hj, fun _ => ?_⟩⟩
      have := all (f - j) (by omega)
      rwa [show f - (f - j) = j by omega] at this
    | false =>
      obtain ⟨c, hc, hj⟩ := down p f (fun j hj => h j (by omega))
      refine ⟨c, by omega, fun j hjf => ?_⟩
      by_cases hjf2 : j = f
      · subst hjf2
        rw [hp]
        constructor
        · intro e; cases e
        · intro e; omega
      · exact hj j (by omega)
def rest (f m n c : Nat) : List Nat := List.range' c (f - c) ++ List.range' (m + 1) (n - m - 1)
theorem mem_rest {f m n c j : Nat} (hc : c ≤ f) (hm : m < n) : j ∈ rest f m n c ↔ (c ≤ j ∧ j < f) ∨ (m < j ∧ j < n) := by
  unfold rest
  simp only [List.mem_append, List.mem_range'_1]
  omega
theorem nodup_rest {f m n c : Nat} (hf : f ≤ m) : (rest f m n c).Nodup := by
  unfold rest
  rw [List.nodup_append]
  refine ⟨List.nodup_range', List.nodup_range', fun a ha b hb => ?_⟩
  simp only [List.mem_range'_1] at ha hb
  omega
theorem left_ge {listed : Array Bool} : ∀ {js : List Nat}, (∀ j ∈ js, listed.getD j true = false) → js.Nodup → (∀ j ∈ js, j < listed.size) → js.length ≤ left listed := by
  intro js h hnd hlt
  have key : ∀ (n : Nat) (js : List Nat) (a : Array Bool), js.length = n → (∀ j ∈ js, a.getD j true = false) → js.Nodup → js.length ≤ left a := by
    intro n
    induction n with
    | zero => intro js a hn _ _; omega
    | succ n ih =>
      intro js a hn h hnd
      cases js with
      | nil => simp at hn
      | cons j r =>
        have h1 := left_set (h j (by simp))
        have h2 := ih r (a.setIfInBounds j true) (by simpa using hn) (fun k hk => by
          have hne : ¬ j = k := fun e => (List.nodup_cons.1 hnd).1 (e ▸ hk)
          have := h k (by simp [hk])
          simpa [Array.getElem?_setIfInBounds, hne] using this) (List.nodup_cons.1 hnd).2
        simp only [List.length_cons]
        omega
  exact key _ js listed rfl h hnd
theorem wpAny_free {a0 : Act} {R : World → World → Prop} {Φ : Nat → World → Value → Prop} (hok : okOps l = true) {f m F : Nat} {om : Oper} (hom : l[m]? = some om) (hfm : f ≤ m)
    (hreach : ∀ j, f ≤ j → j < m → reach l m F j = true) (hfree : ∀ j, j + 1 < f → dep l (j + 1) j = true) (hlate : ∀ k, m < k → k < l.length → reach l k F m = true) (hchain : ∀ c, c ≤ f → chainB l (rest f m l.length c) = true)
    (htr : ∀ a b c, R a b → R b c → R a c) (hst : ∀ i w w' v, Φ i w v → R w w' → Φ i w' v)
    (hs : ∀ i o, i < m → l[i]? = some o → StepOk P l Q a0 w0 R Φ i o)
    (hend : ∀ c, c ≤ f → ∀ x w, R w0 w → (∀ i, i < m → (i < c ∨ f ≤ i) → Φ i w (x i)) → wpList P l.toArray Q (om :: opsAt l (rest f m l.length c)) (fill a0 x 0 l) w) :
    ∀ (fuel : Nat) (listed : Array Bool) (x : Nat → Value) (w : World), listed.size = l.length → (∀ j, m ≤ j → j < l.length → listed.getD j true = false) → Shut l listed → left listed ≤ fuel → R w0 w →
      (∀ i, i < m → listed.getD i false = true → Φ i w (x i)) → wpAny P .any l.toArray Q fuel listed (fill a0 x 0 l) w := by
  intro fuel
  have hml : m < l.length := (List.getElem?_eq_some_iff.1 hom).1
  have no : ∀ listed : Array Bool, listed.size = l.length → listed.getD m true = false → Region.ready .any l.toArray listed = [] → False := fun listed hsz hm hr => by
    have := ready_none hok hsz hr m (by omega)
    simp [show m < listed.size by omega] at this hm
    rw [hm] at this
    cases this
  induction fuel with
  | zero =>
    intro listed x w hsz hm hc hl hw hΦ
    exfalso
    refine no listed hsz (hm m (Nat.le_refl _) hml) ?_
    cases hr : Region.ready .any l.toArray listed with
    | nil => rfl
    | cons i r =>
      exfalso
      obtain ⟨o, _, h1, _⟩ := ready_spec (l := l) (listed := listed) (i := i) (by rw [hr]; simp)
      have := left_set h1
      omega
  | succ fuel ih =>
    intro listed x w hsz hm hc hl hw hΦ
    refine ⟨fun hr => (no listed hsz (hm m (Nat.le_refl _) hml) hr).elim, fun i hi => ?_⟩
    obtain ⟨o, ho, h1, h2⟩ := ready_spec hi
    have hil : i < l.length := (List.getElem?_eq_some_iff.1 ho).1
    rcases Nat.lt_trichotomy i m with hlt | rfl | hgt
    · refine wpOp_step (by simpa using ho) fun K' hK' => ?_
      refine hs i o hlt ho x w hw (fun e he hb => ?_) K' fun v w' hww hv => hK' _ _ ?_
      · have hlt2 := okOps_after hok ho he hb
        exact hΦ e.on (by omega) (h2 e he hb)
      · rw [fill_put hok a0 x ho v]
        refine ih _ _ w' (by simpa using hsz) (fun j hj hjl => ?_) (fun k ok hk hlk e he hb => ?_) (by have := left_set h1; omega) (htr _ _ _ hw hww) fun j hj hl2 => ?_
        · have := hm j hj hjl
          simpa [Array.getElem?_setIfInBounds, show ¬ i = j by omega] using this
        · have key : listed.getD e.on false = true := by
            by_cases hki : k = i
            · subst hki
              rw [ho] at hk
              obtain rfl := Option.some.inj hk
              exact h2 e he hb
            · exact hc k ok hk (by simpa [Array.getElem?_setIfInBounds, Ne.symm hki] using hlk) e he hb
          by_cases hei : e.on = i
          · rw [hei]; simp [show i < listed.size by omega]
          · simpa [Array.getElem?_setIfInBounds, Ne.symm hei] using key
        · simp only [upd]
          by_cases hji : j = i
          · subst hji; rw [if_pos rfl]; exact hv
          · rw [if_neg hji]
            refine hst _ _ _ _ (hΦ j hj ?_) hww
            simpa [Array.getElem?_setIfInBounds, Ne.symm hji] using hl2
    · rw [hom] at ho
      obtain rfl := Option.some.inj ho
      have hlst : ∀ j, f ≤ j → j < i → listed.getD j false = true := fun j hfj hj => reach_spec hc hom h2 F j (hreach j hfj hj)
      obtain ⟨c, hcf, hcj⟩ := down (fun j => listed.getD j false) f (fun j hj hp => by
        obtain ⟨o', ho', e, he, e1, e2⟩ := dep_spec (hfree j hj)
        have := hc (j + 1) o' ho' hp e he e2
        rwa [e1] at this)
      have hw1 := hend c hcf x w hw fun j hj hcase => hΦ j hj (by
        rcases hcase with h | h
        · exact (hcj j (by omega)).2 h
        · exact hlst j h hj)
      have hcnt : (rest f i l.length c).length ≤ fuel := by
        have hall : ∀ j ∈ i :: rest f i l.length c, listed.getD j true = false := fun j hj => by
          rcases List.mem_cons.1 hj with rfl | hj
          · exact hm j (Nat.le_refl _) hml
          · rcases (mem_rest hcf hml).1 hj with ⟨ha, hb⟩ | ⟨ha, hb⟩
            · have := (hcj j hb)
              cases hx : listed.getD j true with
              | false => rfl
              | true =>
                have hjs : j < listed.size := by omega
                have h7 : listed.getD j false = true := by simp [hjs] at hx ⊢; exact hx
                have := this.1 h7
                omega
            · exact hm j (by omega) hb
        have hnd : (i :: rest f i l.length c).Nodup := List.nodup_cons.2 ⟨fun h => by rcases (mem_rest hcf hml).1 h with h | h <;> omega, nodup_rest hfm⟩
        have hlf := left_ge hall hnd (fun j hj => by
          rcases List.mem_cons.1 hj with rfl | hj
          · omega
          · rcases (mem_rest hcf hml).1 hj with h | h <;> omega)
        simp only [List.length_cons] at hlf
        omega
      refine wpOp_mono (fun a' w' hq => tail_chain hok (rest f i l.length c) fuel _ a' w' (by simpa using hsz) (fun j hj => ?_) (hchain c hcf) (fun j hj => by rcases (mem_rest hcf hml).1 hj with h | h <;> omega) (nodup_rest hfm) hcnt hq) (wpOp_of_list (by simpa using hom) hw1)
      rw [mem_rest hcf hml]
      by_cases hji : j = i
      · subst hji
        simp [show j < listed.size by omega]
        omega
      · have hset : (listed.setIfInBounds i true).getD j true = listed.getD j true := by simp [Array.getElem?_setIfInBounds, Ne.symm hji]
        rw [hset]
        rcases Nat.lt_or_ge j f with h | h
        · have := hcj j h
          have hjs : j < listed.size := by omega
          simp only [Array.getD, hjs, dif_pos] at this ⊢
          cases hx : listed.getInternal j hjs <;> simp only [hx] at this ⊢ <;> simp at this ⊢ <;> omega
        · rcases Nat.lt_or_ge j i with h3 | h3
          · have := hlst j h h3
            have hjs : j < listed.size := by omega
            simp [hjs] at this ⊢
            rw [this]
            simp
            omega
          · have := hm j (by omega) hj
            rw [this]
            simp
            omega
    · exfalso
      have h3 := reach_spec hc ho h2 F m (hlate i hgt hil)
      have h4 := hm m (Nat.le_refl _) hml
      simp [show m < listed.size by omega] at h3 h4
      rw [h4] at h3
      cases h3
/-- Stairs whose first operations have plain values. -/
def StairsC (P : Program) (l : List Oper) (Q : Exit → Act → World → Prop) (w0 : World) : List Value → List Say → List Oper → ((Nat → Value) → Act) → Prop
  | [], L, r, b => Stairs P l Q w0 L r b
  | c :: cs, L, o :: r, b => SeqStepAt P l w0 L (.is c) o b ∧ StairsC P l Q w0 cs (L ++ [.is c]) r (fun x => (b x).put o.dst c)
  | _ :: _, _, [], _ => False
theorem StairsC.step {c : Value} {cs : List Value} {o : Oper} {r : List Oper} {b : (Nat → Value) → Act} (h : SeqStepAt P l w0 L (.is c) o b) (t : StairsC P l Q w0 cs (L ++ [.is c]) r (fun x => (b x).put o.dst c)) : StairsC P l Q w0 (c :: cs) L (o :: r) b := ⟨h, t⟩
theorem StairsC.start {r : List Oper} {b : (Nat → Value) → Act} (h : Stairs P l Q w0 L r b) : StairsC P l Q w0 [] L r b := h
theorem stairsC_ok (hok : okOps l = true) : ∀ (cs : List Value) (r : List Oper) (L : List Say) (b : (Nat → Value) → Act), l.drop L.length = r → StairsC P l Q w0 cs L r b →
    ∃ M, AllStab M ∧ Steps P l Q w0 (L ++ (cs.map Say.is ++ M)) L.length r b
  | [], r, L, b, hr, h => by
    obtain ⟨M, h1, h2⟩ := stairs_ok hok r L b hr h
    exact ⟨M, h1, by simpa using h2⟩
  | c :: cs, [], L, b, hr, h => h.elim
  | c :: cs, o :: r, L, b, hr, ⟨h1, h2⟩ => by
    have hi : l[L.length]? = some o := by have := congrArg (·[0]?) hr; simpa using this
    obtain ⟨M, hM, h3⟩ := stairsC_ok hok cs r (L ++ [.is c]) _ (by rw [List.length_append, List.length_singleton, ← List.drop_drop, hr]; rfl) h2
    rw [List.append_assoc, List.length_append, List.length_singleton] at h3
    have hsi : sayAt (L ++ ([.is c] ++ (cs.map Say.is ++ M))) L.length = .is c := by
      unfold sayAt
      rw [List.getD_eq_getElem?_getD, List.getElem?_append_right (Nat.le_refl _)]
      simp
    refine ⟨M, hM, ⟨fun x w hw hd K hK => ?_, ?_⟩⟩
    · refine h1 x w hw (fun e he hb => ?_) K (fun v w' k1 k2 => hK v w' k1 (by rw [show (c :: cs).map Say.is = [.is c] ++ cs.map Say.is from rfl, List.append_assoc, hsi]; exact k2))
      have := hd e he hb
      rwa [sayAt_old _ _ _ (okOps_after hok hi he hb)] at this
    · have e : (fun x : Nat → Value => (b x).put o.dst ((sayAt (L ++ ((c :: cs).map Say.is ++ M)) L.length).val (x L.length))) = fun x => (b x).put o.dst c := by
        rw [show (c :: cs).map Say.is = [.is c] ++ cs.map Say.is from rfl, List.append_assoc, hsi]
        rfl
      rw [e, show (c :: cs).map Say.is = [.is c] ++ cs.map Say.is from rfl, List.append_assoc]
      exact h3
def refill (l : List Oper) (y : Nat → Value) (js : List Nat) (a : Act) : Act := js.foldl (fun a j => match l[j]? with
  | some o => a.put o.dst (y j)
  | none => a) a
theorem refill_fill {a0 : Act} {l0 : List Oper} {x : Nat → Value} (hok0 : okOps l0 = true) (hsame : ∀ j, j < l0.length → l[j]? = l0[j]?) : ∀ (js : List Nat) (z : Nat → Value), (∀ j ∈ js, j < l0.length) → refill l x js (fill a0 z 0 l0) = fill a0 (fun i => if i ∈ js then x i else z i) 0 l0
  | [], z, _ => by simp [refill]
  | j :: r, z, h => by
    have hj := h j (by simp)
    obtain ⟨o, ho⟩ : ∃ o, l0[j]? = some o := ⟨l0[j], List.getElem?_eq_getElem hj⟩
    have h1 : refill l x (j :: r) (fill a0 z 0 l0) = refill l x r (fill a0 (upd z j (x j)) 0 l0) := by
      unfold refill
      rw [List.foldl_cons, hsame j hj, ho]
      simp only
      rw [fill_put hok0 a0 z ho (x j)]
    rw [h1, refill_fill hok0 hsame r _ (fun k hk => h k (by simp [hk]))]
    congr 1
    funext i
    simp only [upd, List.mem_cons]
    by_cases hir : i ∈ r
    · simp [hir]
    · by_cases hij : i = j
      · subst hij; simp [hir]
      · simp [hir, hij]
/-- What is asked of the operations. -/
def okFree (l : List Oper) (f m : Nat) : Bool :=
  decide (m < l.length) && decide (f ≤ m) && ((List.range m).all fun j => decide (j < f) || reach l m l.length j) && ((List.range f).all fun j => !decide (j + 1 < f) || dep l (j + 1) j) &&
  ((List.range l.length).all fun k => !decide (m < k) || reach l k l.length m) && ((List.range (f + 1)).all fun c => chainB l (rest f m l.length c)) &&
  ((l.take m).all fun o => (match o.guard with | none => true | some g => decide (g.1 < m)) && (o.looksAt (l.take m).toArray).all fun s => (l.drop m).all fun t => !(t.dst == some s))
/-- THE LAW. -/
theorem wp_region_free {id : Nat} {a0 : Act} (m : Nat) (cs : List Value) (hm : P.follows .mixedOrders = true) (hok : okOps l = true) (hok0 : okOps (l.take m) = true) (hok2 : okSeq (l.take m) = true) (hot : okFree l cs.length m = true)
    (hs : StairsC P (l.take m) (fun _ a w => ∀ c, c ≤ cs.length → ∀ y, wpList P l.toArray Q (opsAt l (m :: rest cs.length m l.length c)) (fill (refill l y (List.range' c (cs.length - c)) a) y m (l.drop m)) w) w0 cs [] (l.take m) (fun _ => a0)) : (Code.region id l.toArray true).wp P Q a0 w0 := by
  simp only [okFree, Bool.and_eq_true] at hot
  obtain ⟨⟨⟨⟨⟨⟨c1, c2⟩, c3⟩, c5⟩, c6⟩, c7⟩, c4⟩ := hot
  have hml : m < l.length := of_decide_eq_true c1
  have hfm : cs.length ≤ m := of_decide_eq_true c2
  have hreach : ∀ j, cs.length ≤ j → j < m → reach l m l.length j = true := fun j hf hj => by
    have := (List.all_eq_true.1 c3) j (List.mem_range.2 hj)
    rwa [decide_eq_false (by omega), Bool.false_or] at this
  have hfree : ∀ j, j + 1 < cs.length → dep l (j + 1) j = true := fun j hj => by
    have := (List.all_eq_true.1 c5) j (List.mem_range.2 (by omega))
    rwa [decide_eq_true hj, Bool.not_true, Bool.false_or] at this
  have hlate : ∀ k, m < k → k < l.length → reach l k l.length m = true := fun k h1 h2 => by
    have := (List.all_eq_true.1 c6) k (List.mem_range.2 h2)
    rwa [decide_eq_true h1, Bool.not_true, Bool.false_or] at this
  have hchain : ∀ c, c ≤ cs.length → chainB l (rest cs.length m l.length c) = true := fun c hc => (List.all_eq_true.1 c7) c (List.mem_range.2 (by omega))
  have hom : l[m]? = some l[m] := List.getElem?_eq_getElem hml
  have hlt0 : (l.take m).length = m := by simp; omega
  have hcat : l.take m ++ l.drop m = l := List.take_append_drop m l
  obtain ⟨M, hM, h⟩ := stairsC_ok hok0 cs (l.take m) [] _ rfl hs
  rw [List.nil_append] at h
  have hMS : AllStab (cs.map Say.is ++ M) := AllStab.app (by
    clear h hs c2 c3 c5 c7 hfm hreach hfree hchain
    induction cs with
    | nil => exact trivial
    | cons c r ih => exact ⟨trivial, ih⟩) hM
  have hsay : ∀ i, i < cs.length → sayAt (cs.map Say.is ++ M) i = .is (cs.getD i undef) := fun i hi => by
    unfold sayAt
    rw [List.getD_eq_getElem?_getD, List.getElem?_append_left (by simpa using hi)]
    simp [List.getD_eq_getElem?_getD, hi]
  generalize cs.map Say.is ++ M = N at *
  obtain ⟨t1, t2⟩ := steps_ok (a0 := a0) (Q2 := fun _ _ _ => False) hok0 hok2 (l.take m) 0 rfl h
  have hfa : ∀ x, fill a0 x 0 l = fill (fill a0 x 0 (l.take m)) x m (l.drop m) := fun x => by
    conv => lhs; rw [← hcat]
    rw [fill_append, hlt0, Nat.zero_add]
  refine wp_region_any hm ?_
  have key := wpAny_free (P := P) (l := l) (Q := Q) (w0 := w0) (a0 := a0) (R := Nw) (Φ := fun j w v => (sayAt N j).ok w v) hok hom hfm hreach hfree hlate hchain
    (fun _ _ _ => Nw.trans) (fun i w w' v h hn => Say.ok_stab (sayAt_stab hMS i) h hn)
    (fun i o hi ho x w hw hdep K hK => by
      have ho' : (l.take m)[i]? = some o := by rw [List.getElem?_take, if_pos hi]; exact ho
      have hst := t1.get i o ho'
      rw [Nat.zero_add] at hst
      have h4 := (List.all_eq_true.1 c4) o (List.mem_of_getElem? ho')
      rw [Bool.and_eq_true] at h4
      obtain ⟨g4, l4⟩ := h4
      have hsz : (fill a0 x 0 l).tmps.size = (fill a0 x 0 (l.take m)).tmps.size := by rw [fill_size, fill_size]
      have hag : ∀ s ∈ o.looksAt (l.take m).toArray, (fill a0 x 0 l).tmps[s]? = (fill a0 x 0 (l.take m)).tmps[s]? := fun s hs => by
        rw [hfa, fill_get x s (l.drop m), slotOf_none (l.drop m) m (fun t ht e => by
          have := (List.all_eq_true.1 ((List.all_eq_true.1 l4) s hs)) t ht
          rw [e] at this
          simp at this)]
      obtain ⟨hsel, _⟩ := okSeq_spec hok2 ho'
      have hex : execOp (fill a0 x 0 l).eval o = execOp (fill a0 x 0 (l.take m)).eval o := execOp_congr o hsel fun y hy => by
        cases y with
        | tmp t =>
          have := hag t (List.mem_append_left _ (List.mem_filterMap.2 ⟨.tmp t, by simpa using hy, rfl⟩))
          simp only [Act.eval]
          rw [Array.getD_eq_getD_getElem?, Array.getD_eq_getD_getElem?, this]
        | const v => rfl
        | global g => rfl
        | func f => rfl
      have hwt : Region.wanted o (yielded l.toArray (fill a0 x 0 l).tmps) = Region.wanted o (yielded (l.take m).toArray (fill a0 x 0 (l.take m)).tmps) := by
        unfold Region.wanted
        cases hg : o.guard with
        | none => rfl
        | some g =>
          obtain ⟨gi, gb⟩ := g
          rw [hg] at g4
          have hgm : gi < m := of_decide_eq_true g4
          have he : l.toArray[gi]? = (l.take m).toArray[gi]? := by simp [List.getElem?_take, hgm]
          have : yielded l.toArray (fill a0 x 0 l).tmps gi = yielded (l.take m).toArray (fill a0 x 0 (l.take m)).tmps gi := by
            unfold yielded
            rw [he]
            cases hgo : ((l.take m).toArray[gi]?).bind (·.dst) with
            | none => rfl
            | some d =>
              have := hag d (by unfold Oper.looksAt; rw [hg]; refine List.mem_append_right _ ?_; show d ∈ (((l.take m).toArray[gi]?).bind (·.dst)).toList; rw [hgo]; simp)
              simp only [Option.bind_some, this]
          simp only [this]
      have hstep := hst x w hw hdep (fun a' w' => ∃ v, a' = (fill a0 x 0 (l.take m)).put o.dst v ∧ Nw w w' ∧ (sayAt N i).ok w' v) (fun v w' k1 k2 => ⟨v, rfl, k1, k2⟩)
      rw [hwt]
      split
      · rename_i hc
        rw [if_pos hc] at hstep
        refine Oper.wp_mono (fun a' w' hh => ?_) (wp_transfer hsz hex hstep)
        obtain ⟨v, rfl, k1, k2⟩ := hh
        exact hK v w' k1 k2
      · rename_i hc
        rw [if_neg hc] at hstep
        obtain ⟨v, k0, k1, k2⟩ := hstep
        rw [put_same hsz k0]
        exact hK v w k1 k2)
    (fun c hc x w hw hx => by
      have h5 := t2 (fun i => if c ≤ i ∧ i < cs.length then cs.getD i undef else x i) w hw (fun i hi => by
        by_cases hci : c ≤ i ∧ i < cs.length
        · simp only [if_pos hci, hsay i hci.2]
          rfl
        · simp only [if_neg hci]
          exact hx i (by omega) (by omega)) c hc x
      rw [refill_fill hok0 (fun j hj => by rw [List.getElem?_take, if_pos (by omega)]) _ _ (fun j hj => by simp only [List.mem_range'_1] at hj; omega)] at h5
      rw [hfa]
      have e : (fun i => if i ∈ List.range' c (cs.length - c) then x i else if c ≤ i ∧ i < cs.length then cs.getD i undef else x i) = x := by
        funext i
        simp only [List.mem_range'_1]
        by_cases hci : c ≤ i ∧ i < cs.length
        · rw [if_pos (by omega)]
        · rw [if_neg (by omega), if_neg hci]
      rw [e] at h5
      have e2 : opsAt l (m :: rest cs.length m l.length c) = l[m] :: opsAt l (rest cs.length m l.length c) := by simp [opsAt, hom]
      rw [e2] at h5
      exact h5)
    l.toArray.size (Array.replicate l.toArray.size false) (fun i => ((l[i]?).bind (·.dst)).elim undef (a0.tmps.getD · undef)) w0.drew (by simp)
    (fun j _ hjl => by simp [hjl]) (fun k o _ hk => by simp [Array.getElem?_replicate] at hk; split at hk <;> simp at hk) (Nat.le_trans List.countP_le_length (by simp)) (Nw.refl _).drew (fun i _ h => by simp [Array.getElem?_replicate] at h; split at h <;> simp at h)
  rw [fill_same] at key
  exact key
end
end Go.Proofs.Ythellicimicieaa
