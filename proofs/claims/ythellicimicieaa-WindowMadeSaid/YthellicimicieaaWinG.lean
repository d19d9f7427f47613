/- The contract of the reference's Add. No condition but lengths. -/
import Derived.Test.YthellicimicieaaWinE
import Derived.Test.YthellicimicieaaWinF
set_option linter.unusedSimpArgs false
set_option linter.unusedVariables false
namespace Go.Proofs.Ythellicimicieaa
open Go.ChangeShapes Go.WideShapes Go.ChangeAt Go.RowKit
namespace Wn
open Ival Words
/-- 's = append(s, x)' for a row of buckets of the call's own. -/
theorem appBk {w : World} {ops : Array Oper} {rest : List Oper} {o : Oper} {a : Act} {Q : Exit → Act → World → Prop} {c : Int} {u : Value} {fr : Nat × Nat} (hgd : o.guard = none) (s x : Operand) (t : TypeId) (ho : o.op = .call { callee := .builtin .append, args := #[s, x], argTypes := #[t, t] })
    (ht : Try.prog.underlying t = some (.slice 60)) {B : Nat} {v : Value} {bs : Bs} {set : List Wd} (hown : BkOwn w B v bs) (hB : B ≤ w.heap.size) (hs : a.eval s = v) (hx : a.eval x = .slice (some ⟨w.heap.size, 0, none⟩) 1 1) (hu : Words.Set w u set) (hne : ∀ k, u.ownBlock = some k → v.ownBlock ≠ some k) (hlen : bs.length + 1 ≤ 1099511627776)
    (h : ∀ v' w', BkOwn w' B v' (bs ++ [(c, set)]) → (∀ w00, Nw w00 w → w00.heap.size ≤ B → Nw w00 w') → Mods (fun k => v.ownBlock = some k) w w' → wpList Try.prog ops Q rest (a.put o.dst v') w') :
    wpList Try.prog ops Q (o :: rest) a (w.alloc (.cells #[.int .i64 c, u] 60 fr)) := by
  obtain ⟨vs, h1, h2, h3⟩ := id hown
  have hnA := (Nw.refl w).alloc (.cells #[.int .i64 c, u] 60 fr)
  obtain ⟨qu, cu, eu⟩ := set_shape hu
  refine appat hgd s x t ho _ _ _ _ ht info_bucket rfl (by decide) (by decide) (Nat.le_trans hB hnA.size) (hnA.ownsRow h2) hs hx (show [Value.int .i64 c, u].length = 2 from rfl) (cells_newAt w [_, _] _ _ _ rfl) (by rw [eu]; simp [Value.oneCell']) ?_ hlen
  intro v' w' k1 k2 k3
  refine h v' w' (BkOwn.add h1 (fun i hi => ⟨(h3 i hi).1.nw hnA, (h3 i hi).2⟩) (hu.nw hnA) (fun _ => hne) k1 k2 k3) (fun w00 q1 q2 => (q1.trans hnA).grown k2 (fun k hk => Nat.le_trans q2 (hown.lt k hk).1)) (Mods.grownIn (hnA.mods _) k2 (fun k q => Or.inl q))
def stepA (c : Int) (ts : List Wd) (r : Bs × Bool) (b : Int × List Wd) : Bs × Bool :=
  if r.2 = true then (if c < b.1 then (r.1 ++ [(c, ts)] ++ [(b.1, trim b.2)], false) else if b.1 = c then (r.1 ++ [(b.1, or (trim b.2) ts)], false) else (r.1 ++ [(b.1, trim b.2)], true)) else (r.1 ++ [(b.1, trim b.2)], false)
def runA (c : Int) (ts : List Wd) (ok : Bool) (l : Bs) : Bs × Bool := l.foldl (stepA c ts) ([], ok)
theorem foldA_no (c : Int) (ts : List Wd) : ∀ (l acc : Bs), l.foldl (stepA c ts) (acc, false) = (acc ++ trimB l, false)
  | [], acc => by simp [trimB]
  | b :: r, acc => by
    have e : stepA c ts (acc, false) b = (acc ++ [(b.1, trim b.2)], false) := by simp [stepA]
    rw [List.foldl_cons, e, foldA_no c ts r]
    simp [trimB]
theorem foldA_yes (c : Int) (ts : List Wd) : ∀ (l acc : Bs), (let r := l.foldl (stepA c ts) (acc, true); if r.2 = true then r.1 ++ [(c, ts)] else r.1) = acc ++ ins (trimB l) c ts
  | [], acc => by simp [trimB, ins]
  | b :: r, acc => by
    have et : trimB (b :: r) = (b.1, trim b.2) :: trimB r := rfl
    rw [et, List.foldl_cons]
    unfold ins
    by_cases h1 : c < b.1
    · have e : stepA c ts (acc, true) b = (acc ++ [(c, ts)] ++ [(b.1, trim b.2)], false) := by simp [stepA, h1]
      rw [e, foldA_no, if_pos h1]
      simp
    · by_cases h2 : b.1 = c
      · have e : stepA c ts (acc, true) b = (acc ++ [(b.1, or (trim b.2) ts)], false) := by simp only [stepA, if_true]; rw [if_neg h1, if_pos h2]
        rw [e, foldA_no, if_neg h1, if_pos h2]
        simp
      · have e : stepA c ts (acc, true) b = (acc ++ [(b.1, trim b.2)], true) := by simp only [stepA, if_true]; rw [if_neg h1, if_neg h2]
        have := foldA_yes c ts r (acc ++ [(b.1, trim b.2)])
        rw [e, if_neg h1, if_neg h2]
        simpa using this
theorem runA_no (c : Int) (ts : List Wd) (l : Bs) : runA c ts false l = (trimB l, false) := by
  unfold runA; rw [foldA_no]; simp
theorem runA_yes (c : Int) (ts : List Wd) (l : Bs) : (if (runA c ts true l).2 = true then (runA c ts true l).1 ++ [(c, ts)] else (runA c ts true l).1) = ins (trimB l) c ts := by
  have := foldA_yes c ts l []
  rw [List.nil_append] at this
  exact this
theorem runA_snoc (c : Int) (ts : List Wd) (ok : Bool) (bs : Bs) (k : Nat) (h : k < bs.length) : runA c ts ok (bs.take (k + 1)) = stepA c ts (runA c ts ok (bs.take k)) (off bs k, st bs k) := by
  unfold runA
  rw [List.take_add_one, List.getElem?_eq_getElem h, List.foldl_append]
  simp [off, st, List.getD_eq_getElem?_getD, h]
theorem runA_len (c : Int) (ts : List Wd) (ok : Bool) (l : Bs) : (runA c ts ok l).1.length ≤ l.length + 1 ∧ ((runA c ts ok l).2 = true → (runA c ts ok l).1.length ≤ l.length) := by
  cases ok
  · rw [runA_no]; simp [trimB_length]
  · unfold runA
    have : ∀ (l : Bs) (acc : Bs × Bool), (l.foldl (stepA c ts) acc).1.length ≤ acc.1.length + l.length + (if acc.2 = true then 1 else 0) ∧ ((l.foldl (stepA c ts) acc).2 = true → (l.foldl (stepA c ts) acc).1.length ≤ acc.1.length + l.length) := by
      intro l
      induction l with
      | nil => intro acc; simp
      | cons b r ih =>
        intro acc
        have h := ih (stepA c ts acc b)
        rw [List.foldl_cons]
        obtain ⟨a1, a2⟩ := acc
        cases a2
        · have e : stepA c ts (a1, false) b = (a1 ++ [(b.1, trim b.2)], false) := by simp [stepA]
          rw [e] at h ⊢
          simp at h ⊢
          refine ⟨by omega, fun q => ?_⟩
          have := h.2 q; omega
        · simp only [stepA, if_true] at h ⊢
          split at h
          · rename_i h1
            rw [if_pos h1] at *
            simp at h ⊢
            refine ⟨by omega, fun q => ?_⟩
            rw [foldA_no] at q; cases q
          · rename_i h1
            rw [if_neg h1] at *
            split at h
            · rename_i h2
              rw [if_pos h2] at *
              simp at h ⊢
              refine ⟨by omega, fun q => ?_⟩
              rw [foldA_no] at q; cases q
            · rename_i h2
              rw [if_neg h2] at *
              simp at h ⊢
              refine ⟨by omega, fun q => ?_⟩
              have := h.2 q; omega
    have h := this l ([], true)
    simpa [Nat.add_comm] using h
theorem addP_run {lo hi : Int} {bs : Bs} {c : Int} {s : List Wd} (h : mayW lo hi bs = true) : addP lo hi bs c s = if (runA c (trim s) (fits lo hi c s) bs).2 = true then (runA c (trim s) (fits lo hi c s) bs).1 ++ [(c, trim s)] else (runA c (trim s) (fits lo hi c s) bs).1 := by
  unfold addP
  rw [if_pos h]
  by_cases hf : fits lo hi c s = true
  · rw [hf, if_pos rfl, runA_yes]
  · rw [if_neg hf, Bool.not_eq_true] at *
    rw [hf, runA_no]
    simp
theorem addP_no {lo hi : Int} {bs : Bs} {c : Int} {s : List Wd} (h : mayW lo hi bs = false) : addP lo hi bs c s = [] := by unfold addP; rw [h]; rfl
theorem trimB_snoc (bs : Bs) (k : Nat) (h : k < bs.length) : trimB (bs.take (k + 1)) = trimB (bs.take k) ++ [(off bs k, trim (st bs k))] := by
  unfold trimB
  rw [List.take_add_one, List.getElem?_eq_getElem h, List.map_append]
  simp [off, st, List.getD_eq_getElem?_getD, h]
theorem lt_of_alloc (w w' : World) (o : Obj) (h : Nw (w.alloc o) w') : w.heap.size < (w.alloc o).heap.size ∧ (w.alloc o).heap.size ≤ w'.heap.size := by
  refine ⟨?_, h.size⟩
  show w.heap.size < (w.heap.push _).size
  rw [Array.size_push]; omega
set_option maxRecDepth 20000 in
set_option maxHeartbeats 6400000 in
theorem radd_w (lo hi c : Int) (vl vs : Value) (bs : Bs) (s : List Wd) (w : World) (hv : Bks w vl bs) (hsm : Sm 1000000 1000000 bs) (hs : Words.Set w vs s) (hsl : s.length ≤ 1000000) :
    Calls Try.prog 45 #[span lo hi, vl, .int .i64 c, vs] w (HandsB w (addP lo hi bs c s)) := by
  have HM := hid (fun w' (h : Nw w w') => rmay_w lo hi vl bs w' (hv.nw h) hsm)
  have HTR := hid (fun w' (h : Nw w w') => rtrim_c vs s w' (hs.nw h) (Nat.le_trans hsl (by decide)))
  have HWD := hid (fun w' => rwide_c lo hi w')
  obtain ⟨p, cap, rfl, hcap, hmx, hp0, hbc⟩ := hv
  obtain ⟨qs, cs, rfl⟩ := set_shape hs
  unfold maxLen at hmx
  have HB := hid hbc
  have hln := hsm.n
  clear hbc hs
  by_cases hN : mayW lo hi bs = true
  · rw [hN] at HM
    have HR := hid (addP_run (c := c) (s := s) hN)
    have HTL := hid (Nat.le_trans (trim_len s) hsl)
    have HF := hid (fits_iff lo hi c s)
    clear hN
    generalize trim s = ts at *
    by_cases h1 : ts = []
    · have hd1 : decide ((0 : Int) < (ts.length : Int)) = false := decide_eq_false (by rw [h1]; decide)
      have hd1n : decide (0 < ts.length) = false := decide_eq_false (by rw [h1]; decide)
      have hf : fits lo hi c s = false := by
        cases hq : fits lo hi c s
        · rfl
        · exact absurd h1 (HF.out.1 hq).1
      rw [hf] at HR
      clear h1 hf HF
      go_enter Try.func45, Try.ntmps45
      unfold span at *
      go_upto_region 6 with (first
        | (go_at_call 60; refine (HM.out _ (by repeat (first | assumption | exact Nw.refl _ | refine Nw.alloc ?_ _ | refine Nw.drew ?_ | refine Nw.drewN2 ?_ _ | (refine Nw.trans ?_ (by assumption))))).mono ?_; rintro e w1 ⟨rfl, hn1⟩; have x0 := hn1.cell (box2 w (.int .i64 lo) (.int .i64 hi) 26).1; have x1 := hn1.cell (box2 w (.int .i64 lo) (.int .i64 hi) 26).2)
        | (go_at_call 27; refine (HTR.out _ (((Nw.refl w).alloc _).trans hn1)).mono ?_; rintro e w2 ⟨v3, rfl, hs3, hk3, hn2⟩; obtain ⟨q3, c3, rfl⟩ := set_shape hs3; have x0 := hn2.cell x0; have x1 := hn2.cell x1)
        | (go_at_call 42; refine (HWD.out _).mono ?_; rintro e w3 ⟨rfl, hn3⟩)
        | fail)
      have hnB : Nw w w2 := (by repeat (first | assumption | exact Nw.refl _ | refine Nw.alloc ?_ _ | refine Nw.drew ?_ | refine Nw.drewN2 ?_ _ | (refine Nw.trans ?_ (by assumption))))
      clear hn1 hn2 hs3 hk3
      generalize w2 = wB at *
      have HTF := hid (fun k hk => trimB_snoc bs k hk)
      go_wp2
      go_loopw [9, 10, 12, 13, 35] (fun v o _ _ i wr => ∃ k : Nat, k ≤ bs.length ∧ i = .int .i64 k ∧ o = .bool false ∧ BkOwn wr wB.heap.size v (trimB (bs.take k)) ∧ Nw wB wr) (fun _ _ _ _ i _ => bs.length - (intOf i).toNat)
      case atStart => exact ⟨0, Nat.zero_le _, rfl, rfl, BkOwn.nil _ _, Nw.refl _⟩
      case round =>
        obtain ⟨k, hk, rfl, rfl, ho, hnr⟩ := hrel
        by_cases hlt : k < bs.length
        · have hdk : decide (k < bs.length) = true := decide_eq_true hlt
          have HT := hid (HTF.out k hlt)
          have hlen : (trimB (bs.take k)).length ≤ 1000000 := by rw [trimB_length, List.length_take]; omega
          obtain ⟨b1, o1, vi, rfl, d0, d1, hsl⟩ := HB.out k hlt
          have d0 := (hnB.trans hnr).cell d0
          have d1 := (hnB.trans hnr).cell d1
          obtain ⟨q, c', rfl⟩ := set_shape hsl
          have HTK := hid (fun w' (h : Nw w w') => rtrim_c _ (st bs k) w' (hsl.nw h) (Nat.le_trans (hsm.at k hlt) (by decide)))
          have hsn := hsm.at k hlt
          clear hsl
          generalize st bs k = sk at *
          generalize off bs k = ok at *
          generalize htk : trim sk = tk at *
          generalize trimB (bs.take k) = out at *
          obtain ⟨qo, co, rfl⟩ := ho.shape rfl
          go_upto_region 16 with (first
            | (go_at_call 27; refine (HTK.out _ ((hnB.trans hnr).trans (by repeat (first | assumption | exact Nw.refl _ | refine Nw.alloc ?_ _ | refine Nw.drew ?_ | refine Nw.drewN2 ?_ _ | (refine Nw.trans ?_ (by assumption)))))).mono ?_; rintro e w7 ⟨v7, rfl, hs7, hk7, hn7⟩; obtain ⟨q7, c7, rfl⟩ := set_shape hs7; have z7 := hn7.cell (box2 wr (.int .i64 ok) (.slice q sk.length c') 60).1)
            | fail)
          have hsz := lt_of_alloc wr w7 _ hn7
          go_wp2_with (first
            | (at_builtin; refine appBk rfl _ _ _ rfl Try.underlying28 (ho.nw (show Nw wr _ from (by repeat (first | assumption | exact Nw.refl _ | refine Nw.alloc ?_ _ | refine Nw.drew ?_ | refine Nw.drewN2 ?_ _ | (refine Nw.trans ?_ (by assumption)))))) (Nat.le_trans (Nw.size (show Nw wB wr from hnr)) (Nw.size (show Nw wr _ from (by repeat (first | assumption | exact Nw.refl _ | refine Nw.alloc ?_ _ | refine Nw.drew ?_ | refine Nw.drewN2 ?_ _ | (refine Nw.trans ?_ (by assumption))))))) rfl rfl hs7 (fun k hk e => by have h1 := hk7 k hk; have h2 := (ho.lt k e).2; omega) (by omega) ?_; intro v8 w8 hadd8 hn8 hm8; obtain ⟨q8, c8, rfl⟩ := hadd8.shape (n := List.length out + 1) (by simp))
            | fail)
          go_roundw
          case rel => exact ⟨k + 1, by omega, by go_num, rfl, by rw [HT.out]; exact hadd8, hn8 _ (hnr.trans (by repeat (first | assumption | exact Nw.refl _ | refine Nw.alloc ?_ _ | refine Nw.drew ?_ | refine Nw.drewN2 ?_ _ | (refine Nw.trans ?_ (by assumption))))) (Nat.le_refl _)⟩
          case measure => simp [intOf]; omega
        · obtain rfl : k = bs.length := by omega
          have hdk : decide (bs.length < bs.length) = false := decide_eq_false (by omega)
          go_wp2
          go_ret
          refine ⟨_, rfl, ?_, hnB.trans hnr⟩
          rw [HR.out, runA_no]
          rw [List.take_length] at ho
          exact ho.mono hnB.size
    · have hd1 : decide ((0 : Int) < (ts.length : Int)) = true := decide_eq_true (by have := List.length_pos_iff.2 h1; omega)
      have hd1n : decide (0 < ts.length) = true := decide_eq_true (List.length_pos_iff.2 h1)
      by_cases h2 : 0 ≤ c
      · have hd2 : decide (0 ≤ c) = true := decide_eq_true h2
        by_cases h3 : c < wide lo hi
        · have hd3 : decide (c < wide lo hi) = true := decide_eq_true h3
          rw [HF.out.2 ⟨h1, h2, h3⟩] at HR
          have HNE := hid h1
          clear h1 h2 h3 HF
          generalize wide lo hi = W at *
          go_enter Try.func45, Try.ntmps45
          unfold span at *
          go_upto_region 6 with (first
            | (go_at_call 60; refine (HM.out _ (by repeat (first | assumption | exact Nw.refl _ | refine Nw.alloc ?_ _ | refine Nw.drew ?_ | refine Nw.drewN2 ?_ _ | (refine Nw.trans ?_ (by assumption))))).mono ?_; rintro e w1 ⟨rfl, hn1⟩; have x0 := hn1.cell (box2 w (.int .i64 lo) (.int .i64 hi) 26).1; have x1 := hn1.cell (box2 w (.int .i64 lo) (.int .i64 hi) 26).2)
            | (go_at_call 27; refine (HTR.out _ (((Nw.refl w).alloc _).trans hn1)).mono ?_; rintro e w2 ⟨v3, rfl, hs3, hk3, hn2⟩; obtain ⟨q3, c3, rfl⟩ := set_shape hs3; have x0 := hn2.cell x0; have x1 := hn2.cell x1)
            | (go_at_call 42; refine (HWD.out _).mono ?_; rintro e w3 ⟨rfl, hn3⟩)
            | fail)
          have hnB : Nw w w3 := (by repeat (first | assumption | exact Nw.refl _ | refine Nw.alloc ?_ _ | refine Nw.drew ?_ | refine Nw.drewN2 ?_ _ | (refine Nw.trans ?_ (by assumption))))
          have hsB := hs3.nw hn3
          have hkB := fun k hk => Sl.lt hsB (set_ne' HNE.out) k hk
          have HTL := HTL.out
          clear hn1 hn2 hs3 hk3 hn3
          generalize w3 = wB at *
          go_wp2
          go_loopw [9, 10, 12, 13, 35] (fun v o _ _ i wr => ∃ k : Nat, k ≤ bs.length ∧ i = .int .i64 k ∧ o = .bool (runA c ts true (bs.take k)).2 ∧ BkOwn wr wB.heap.size v (runA c ts true (bs.take k)).1 ∧ Nw wB wr) (fun _ _ _ _ i _ => bs.length - (intOf i).toNat)
          case atStart => exact ⟨0, Nat.zero_le _, rfl, rfl, BkOwn.nil _ _, Nw.refl _⟩
          case round =>
            obtain ⟨k, hk, rfl, hok, ho, hnr⟩ := hrel
            have hlen := runA_len c ts true (bs.take k)
            have hlk : (bs.take k).length ≤ 1000000 := by rw [List.length_take]; omega
            by_cases hlt : k < bs.length
            · have hdk : decide (k < bs.length) = true := decide_eq_true hlt
              have HT := hid (runA_snoc c ts true bs k hlt)
              obtain ⟨b1, o1, vi, rfl, d0, d1, hsl⟩ := HB.out k hlt
              have d0 := (hnB.trans hnr).cell d0
              have d1 := (hnB.trans hnr).cell d1
              obtain ⟨q, c', rfl⟩ := set_shape hsl
              have HTK := hid (fun w' (h : Nw w w') => rtrim_c _ (st bs k) w' (hsl.nw h) (Nat.le_trans (hsm.at k hlt) (by decide)))
              have hsn := hsm.at k hlt
              clear hsl
              generalize st bs k = sk at *
              generalize off bs k = ok at *
              generalize htk : trim sk = tk at *
              generalize runA c ts true (bs.take k) = r at *
              obtain ⟨out, flag⟩ := r
              dsimp only at *
              subst hok
              replace hlen : out.length ≤ 1000001 := by omega
              obtain ⟨qo, co, rfl⟩ := ho.shape rfl
              cases flag with
              | false =>
                have HP := hid (show stepA c ts (out, false) (ok, sk) = (out ++ [(ok, tk)], false) by simp [stepA, htk])
                clear htk
                go_upto_region 16 with (first
                  | (go_at_call 27; refine (HTK.out _ ((hnB.trans hnr).trans (by repeat (first | assumption | exact Nw.refl _ | refine Nw.alloc ?_ _ | refine Nw.drew ?_ | refine Nw.drewN2 ?_ _ | (refine Nw.trans ?_ (by assumption)))))).mono ?_; rintro e w7 ⟨v7, rfl, hs7, hk7, hn7⟩; obtain ⟨q7, c7, rfl⟩ := set_shape hs7; have z7 := hn7.cell (box2 wr (.int .i64 ok) (.slice q sk.length c') 60).1)
                  | fail)
                have hsz := lt_of_alloc wr w7 _ hn7
                go_wp2_with (first
                  | (at_builtin; refine appBk rfl _ _ _ rfl Try.underlying28 (ho.nw (show Nw wr _ from (by repeat (first | assumption | exact Nw.refl _ | refine Nw.alloc ?_ _ | refine Nw.drew ?_ | refine Nw.drewN2 ?_ _ | (refine Nw.trans ?_ (by assumption)))))) (Nat.le_trans (Nw.size (show Nw wB wr from hnr)) (Nw.size (show Nw wr _ from (by repeat (first | assumption | exact Nw.refl _ | refine Nw.alloc ?_ _ | refine Nw.drew ?_ | refine Nw.drewN2 ?_ _ | (refine Nw.trans ?_ (by assumption))))))) rfl rfl hs7 (fun k hk e => by have h1 := hk7 k hk; have h2 := (ho.lt k e).2; omega) (by omega) ?_; intro v8 w8 hadd8 hn8 hm8; obtain ⟨q8, c8, rfl⟩ := hadd8.shape (n := List.length out + 1) (by simp))
                  | fail)
                go_roundw
                case rel => exact ⟨k + 1, by omega, by go_num, by rw [HT.out, HP.out], by rw [HT.out, HP.out]; exact hadd8, hn8 _ (hnr.trans (by repeat (first | assumption | exact Nw.refl _ | refine Nw.alloc ?_ _ | refine Nw.drew ?_ | refine Nw.drewN2 ?_ _ | (refine Nw.trans ?_ (by assumption))))) (Nat.le_refl _)⟩
                case measure => simp [intOf]; omega
              | true =>
                by_cases c1 : c < ok
                · have HP := hid (show stepA c ts (out, true) (ok, sk) = (out ++ [(c, ts)] ++ [(ok, tk)], false) by simp [stepA, htk, c1])
                  have e1 : decide (c < ok) = true := decide_eq_true c1
                  have e2 : (ok == c) = false := beq_eq_false_iff_ne.2 (by omega)
                  clear htk c1
                  go_upto_region 10 with fail
                  have hnz := (Nw.refl wr).alloc (.cells #[.int .i64 ok, .slice q sk.length c'] 60)
                  obtain ⟨z0, z1⟩ := box2 wr (.int .i64 ok) (.slice q sk.length c') 60
                  have hoz := ho.nw hnz
                  have hlz := fun k hk => (ho.lt k hk).2
                  have hnr := hnr.trans hnz
                  clear hnz d0 d1 ho
                  generalize wr.alloc (.cells #[.int .i64 ok, .slice q sk.length c'] 60) = wz at *
                  generalize wr.heap.size = gz at *
                  go_upto_region 11 with (first
                    | (at_builtin; refine appBk rfl _ _ _ rfl Try.underlying28 hoz hnr.size rfl rfl (hsB.nw hnr) (fun k hk e => by have h1 := hkB k hk; have h2 := (hoz.lt k e).1; omega) (by omega) ?_; intro v6 w6 hadd6 hn6 hm6; obtain ⟨q6, c6, rfl⟩ := hadd6.shape (n := List.length out + 1) (by simp))
                    | fail)
                  have hw6 := hn6 w (hnB.trans hnr) hnB.size
                  have hb6 := hn6 wB hnr (Nat.le_refl _)
                  have z0 := hm6.cell z0 (fun e => Nat.lt_irrefl _ (hlz _ e))
                  have z1 := hm6.cell z1 (fun e => Nat.lt_irrefl _ (hlz _ e))
                  go_upto_region 16 with (first
                    | (go_at_call 27; refine (HTK.out _ (hw6.trans (by repeat (first | assumption | exact Nw.refl _ | refine Nw.alloc ?_ _ | refine Nw.drew ?_ | refine Nw.drewN2 ?_ _ | (refine Nw.trans ?_ (by assumption)))))).mono ?_; rintro e w7 ⟨v7, rfl, hs7, hk7, hn7⟩; obtain ⟨q7, c7, rfl⟩ := set_shape hs7; have z7 := hn7.cell z0)
                    | fail)
                  go_wp2_with (first
                    | (at_builtin; refine appBk rfl _ _ _ rfl Try.underlying28 (hadd6.nw hn7) (Nat.le_trans hb6.size hn7.size) rfl rfl hs7 (fun k hk e => by have h1 := hk7 k hk; have h2 := (hadd6.lt k e).2; omega) (by rw [List.length_append, List.length_singleton]; omega) ?_; intro v8 w8 hadd8 hn8 hm8; obtain ⟨q8, c8, rfl⟩ := hadd8.shape (n := List.length out + 1 + 1) (by simp))
                    | fail)
                  go_roundw
                  case rel => exact ⟨k + 1, by omega, by go_num, by rw [HT.out, HP.out], by rw [HT.out, HP.out]; exact hadd8, hn8 _ (hb6.trans hn7) (Nat.le_refl _)⟩
                  case measure => simp [intOf]; omega
                · have e1 : decide (c < ok) = false := decide_eq_false c1
                  by_cases c2 : ok = c
                  · have HP := hid (show stepA c ts (out, true) (ok, sk) = (out ++ [(ok, or tk ts)], false) by simp only [stepA, if_true]; rw [if_neg c1, if_pos c2, htk])
                    have e2 : (ok == c) = true := by rw [beq_iff_eq]; exact c2
                    have htkl := hid htk
                    clear htk c1 c2
                    go_upto_region 14 with (first
                      | (go_at_call 27; refine (HTK.out _ ((hnB.trans hnr).trans (by repeat (first | assumption | exact Nw.refl _ | refine Nw.alloc ?_ _ | refine Nw.drew ?_ | refine Nw.drewN2 ?_ _ | (refine Nw.trans ?_ (by assumption)))))).mono ?_; rintro e w7 ⟨v7, rfl, hs7, hk7, hn7⟩; obtain ⟨q7, c7, rfl⟩ := set_shape hs7; have z7 := hn7.cell (box2 wr (.int .i64 ok) (.slice q sk.length c') 60).1)
                      | fail)
                    have hsz := lt_of_alloc wr w7 _ hn7
                    have hn77 : Nw wr w7 := (by repeat (first | assumption | exact Nw.refl _ | refine Nw.alloc ?_ _ | refine Nw.drew ?_ | refine Nw.drewN2 ?_ _ | (refine Nw.trans ?_ (by assumption))))
                    have HOR := hid (fun w' (h : Nw w7 w') => ror_c _ _ tk ts w' (hs7.nw h) (hsB.nw ((hnr.trans hn77).trans h)) (by rw [← htkl.out]; exact Nat.le_trans (trim_len sk) (by omega)) (by omega))
                    go_upto_region 16 with (first
                      | (go_at_call 68; refine (HOR.out _ (by repeat (first | assumption | exact Nw.refl _ | refine Nw.alloc ?_ _ | refine Nw.drew ?_ | refine Nw.drewN2 ?_ _ | (refine Nw.trans ?_ (by assumption))))).mono ?_; rintro e w8 ⟨v8, rfl, hs8, hk8, hn8⟩; obtain ⟨q8, c8, rfl⟩ := set_shape hs8)
                      | fail)
                    have z8 := hn8.cell z7
                    have hn88 : Nw wr w8 := hn77.trans hn8
                    go_wp2_with (first
                      | (at_builtin; refine appBk rfl _ _ _ rfl Try.underlying28 (ho.nw hn88) (Nat.le_trans hnr.size hn88.size) rfl rfl hs8 (fun k hk e => by have h1 := hk8 k hk; have h2 := (ho.lt k e).2; have h3 := hn77.size; omega) (by omega) ?_; intro v9 w9 hadd9 hn9 hm9; obtain ⟨q9, c9, rfl⟩ := hadd9.shape (n := List.length out + 1) (by simp))
                      | fail)
                    go_roundw
                    case rel => exact ⟨k + 1, by omega, by go_num, by rw [HT.out, HP.out], by rw [HT.out, HP.out]; exact hadd9, hn9 _ (hnr.trans hn88) (Nat.le_refl _)⟩
                    case measure => simp [intOf]; omega
                  · have HP := hid (show stepA c ts (out, true) (ok, sk) = (out ++ [(ok, tk)], true) by simp only [stepA, if_true]; rw [if_neg c1, if_neg c2, htk])
                    have e2 : (ok == c) = false := beq_eq_false_iff_ne.2 c2
                    clear htk c1 c2
                    go_upto_region 16 with (first
                      | (go_at_call 27; refine (HTK.out _ ((hnB.trans hnr).trans (by repeat (first | assumption | exact Nw.refl _ | refine Nw.alloc ?_ _ | refine Nw.drew ?_ | refine Nw.drewN2 ?_ _ | (refine Nw.trans ?_ (by assumption)))))).mono ?_; rintro e w7 ⟨v7, rfl, hs7, hk7, hn7⟩; obtain ⟨q7, c7, rfl⟩ := set_shape hs7; have z7 := hn7.cell (box2 wr (.int .i64 ok) (.slice q sk.length c') 60).1)
                      | fail)
                    have hsz := lt_of_alloc wr w7 _ hn7
                    go_wp2_with (first
                      | (at_builtin; refine appBk rfl _ _ _ rfl Try.underlying28 (ho.nw (show Nw wr _ from (by repeat (first | assumption | exact Nw.refl _ | refine Nw.alloc ?_ _ | refine Nw.drew ?_ | refine Nw.drewN2 ?_ _ | (refine Nw.trans ?_ (by assumption)))))) (Nat.le_trans (Nw.size (show Nw wB wr from hnr)) (Nw.size (show Nw wr _ from (by repeat (first | assumption | exact Nw.refl _ | refine Nw.alloc ?_ _ | refine Nw.drew ?_ | refine Nw.drewN2 ?_ _ | (refine Nw.trans ?_ (by assumption))))))) rfl rfl hs7 (fun k hk e => by have h1 := hk7 k hk; have h2 := (ho.lt k e).2; omega) (by omega) ?_; intro v8 w8 hadd8 hn8 hm8; obtain ⟨q8, c8, rfl⟩ := hadd8.shape (n := List.length out + 1) (by simp))
                      | fail)
                    go_roundw
                    case rel => exact ⟨k + 1, by omega, by go_num, by rw [HT.out, HP.out], by rw [HT.out, HP.out]; exact hadd8, hn8 _ (hnr.trans (by repeat (first | assumption | exact Nw.refl _ | refine Nw.alloc ?_ _ | refine Nw.drew ?_ | refine Nw.drewN2 ?_ _ | (refine Nw.trans ?_ (by assumption))))) (Nat.le_refl _)⟩
                    case measure => simp [intOf]; omega
            · obtain rfl : k = bs.length := by omega
              have hdk : decide (bs.length < bs.length) = false := decide_eq_false (by omega)
              rw [List.take_length] at *
              generalize runA c ts true bs = r at *
              obtain ⟨out, flag⟩ := r
              dsimp only at *
              subst hok
              replace hlen : out.length ≤ 1000001 := by omega
              obtain ⟨qo, co, rfl⟩ := ho.shape rfl
              cases flag with
              | false =>
                go_wp2
                go_ret
                exact ⟨_, rfl, by rw [HR.out]; exact ho.mono hnB.size, hnB.trans hnr⟩
              | true =>
                go_wp2_with (first
                  | (at_builtin; refine appBk rfl _ _ _ rfl Try.underlying28 ho hnr.size rfl rfl (hsB.nw hnr) (fun k hk e => by have h1 := hkB k hk; have h2 := (ho.lt k e).1; omega) (by omega) ?_; intro v8 w8 hadd8 hn8 hm8)
                  | fail)
                go_ret
                exact ⟨_, rfl, by rw [HR.out]; exact hadd8.mono hnB.size, hnB.trans (hn8 _ hnr (Nat.le_refl _))⟩
        · have hd3 : decide (c < wide lo hi) = false := decide_eq_false h3
          have hf : fits lo hi c s = false := by
            cases hq : fits lo hi c s
            · rfl
            · exact absurd (HF.out.1 hq).2.2 h3
          rw [hf] at HR
          clear h1 h2 h3 HF hf
          generalize wide lo hi = W at *
          go_enter Try.func45, Try.ntmps45
          unfold span at *
          go_upto_region 6 with (first
            | (go_at_call 60; refine (HM.out _ (by repeat (first | assumption | exact Nw.refl _ | refine Nw.alloc ?_ _ | refine Nw.drew ?_ | refine Nw.drewN2 ?_ _ | (refine Nw.trans ?_ (by assumption))))).mono ?_; rintro e w1 ⟨rfl, hn1⟩; have x0 := hn1.cell (box2 w (.int .i64 lo) (.int .i64 hi) 26).1; have x1 := hn1.cell (box2 w (.int .i64 lo) (.int .i64 hi) 26).2)
            | (go_at_call 27; refine (HTR.out _ (((Nw.refl w).alloc _).trans hn1)).mono ?_; rintro e w2 ⟨v3, rfl, hs3, hk3, hn2⟩; obtain ⟨q3, c3, rfl⟩ := set_shape hs3; have x0 := hn2.cell x0; have x1 := hn2.cell x1)
            | (go_at_call 42; refine (HWD.out _).mono ?_; rintro e w3 ⟨rfl, hn3⟩)
            | fail)
          have hnB : Nw w w3 := (by repeat (first | assumption | exact Nw.refl _ | refine Nw.alloc ?_ _ | refine Nw.drew ?_ | refine Nw.drewN2 ?_ _ | (refine Nw.trans ?_ (by assumption))))
          clear hn1 hn2 hs3 hk3 hn3
          generalize w3 = wB at *
          have HTF := hid (fun k hk => trimB_snoc bs k hk)
          go_wp2
          go_loopw [9, 10, 12, 13, 35] (fun v o _ _ i wr => ∃ k : Nat, k ≤ bs.length ∧ i = .int .i64 k ∧ o = .bool false ∧ BkOwn wr wB.heap.size v (trimB (bs.take k)) ∧ Nw wB wr) (fun _ _ _ _ i _ => bs.length - (intOf i).toNat)
          case atStart => exact ⟨0, Nat.zero_le _, rfl, rfl, BkOwn.nil _ _, Nw.refl _⟩
          case round =>
            obtain ⟨k, hk, rfl, rfl, ho, hnr⟩ := hrel
            by_cases hlt : k < bs.length
            · have hdk : decide (k < bs.length) = true := decide_eq_true hlt
              have HT := hid (HTF.out k hlt)
              have hlen : (trimB (bs.take k)).length ≤ 1000000 := by rw [trimB_length, List.length_take]; omega
              obtain ⟨b1, o1, vi, rfl, d0, d1, hsl⟩ := HB.out k hlt
              have d0 := (hnB.trans hnr).cell d0
              have d1 := (hnB.trans hnr).cell d1
              obtain ⟨q, c', rfl⟩ := set_shape hsl
              have HTK := hid (fun w' (h : Nw w w') => rtrim_c _ (st bs k) w' (hsl.nw h) (Nat.le_trans (hsm.at k hlt) (by decide)))
              have hsn := hsm.at k hlt
              clear hsl
              generalize st bs k = sk at *
              generalize off bs k = ok at *
              generalize htk : trim sk = tk at *
              generalize trimB (bs.take k) = out at *
              obtain ⟨qo, co, rfl⟩ := ho.shape rfl
              go_upto_region 16 with (first
                | (go_at_call 27; refine (HTK.out _ ((hnB.trans hnr).trans (by repeat (first | assumption | exact Nw.refl _ | refine Nw.alloc ?_ _ | refine Nw.drew ?_ | refine Nw.drewN2 ?_ _ | (refine Nw.trans ?_ (by assumption)))))).mono ?_; rintro e w7 ⟨v7, rfl, hs7, hk7, hn7⟩; obtain ⟨q7, c7, rfl⟩ := set_shape hs7; have z7 := hn7.cell (box2 wr (.int .i64 ok) (.slice q sk.length c') 60).1)
                | fail)
              have hsz := lt_of_alloc wr w7 _ hn7
              go_wp2_with (first
                | (at_builtin; refine appBk rfl _ _ _ rfl Try.underlying28 (ho.nw (show Nw wr _ from (by repeat (first | assumption | exact Nw.refl _ | refine Nw.alloc ?_ _ | refine Nw.drew ?_ | refine Nw.drewN2 ?_ _ | (refine Nw.trans ?_ (by assumption)))))) (Nat.le_trans (Nw.size (show Nw wB wr from hnr)) (Nw.size (show Nw wr _ from (by repeat (first | assumption | exact Nw.refl _ | refine Nw.alloc ?_ _ | refine Nw.drew ?_ | refine Nw.drewN2 ?_ _ | (refine Nw.trans ?_ (by assumption))))))) rfl rfl hs7 (fun k hk e => by have h1 := hk7 k hk; have h2 := (ho.lt k e).2; omega) (by omega) ?_; intro v8 w8 hadd8 hn8 hm8; obtain ⟨q8, c8, rfl⟩ := hadd8.shape (n := List.length out + 1) (by simp))
                | fail)
              go_roundw
              case rel => exact ⟨k + 1, by omega, by go_num, rfl, by rw [HT.out]; exact hadd8, hn8 _ (hnr.trans (by repeat (first | assumption | exact Nw.refl _ | refine Nw.alloc ?_ _ | refine Nw.drew ?_ | refine Nw.drewN2 ?_ _ | (refine Nw.trans ?_ (by assumption))))) (Nat.le_refl _)⟩
              case measure => simp [intOf]; omega
            · obtain rfl : k = bs.length := by omega
              have hdk : decide (bs.length < bs.length) = false := decide_eq_false (by omega)
              go_wp2
              go_ret
              refine ⟨_, rfl, ?_, hnB.trans hnr⟩
              rw [HR.out, runA_no]
              rw [List.take_length] at ho
              exact ho.mono hnB.size
      · have hd2 : decide (0 ≤ c) = false := decide_eq_false h2
        have hf : fits lo hi c s = false := by
          cases hq : fits lo hi c s
          · rfl
          · exact absurd (HF.out.1 hq).2.1 h2
        rw [hf] at HR
        clear h1 h2 HF hf
        go_enter Try.func45, Try.ntmps45
        unfold span at *
        go_upto_region 6 with (first
          | (go_at_call 60; refine (HM.out _ (by repeat (first | assumption | exact Nw.refl _ | refine Nw.alloc ?_ _ | refine Nw.drew ?_ | refine Nw.drewN2 ?_ _ | (refine Nw.trans ?_ (by assumption))))).mono ?_; rintro e w1 ⟨rfl, hn1⟩; have x0 := hn1.cell (box2 w (.int .i64 lo) (.int .i64 hi) 26).1; have x1 := hn1.cell (box2 w (.int .i64 lo) (.int .i64 hi) 26).2)
          | (go_at_call 27; refine (HTR.out _ (((Nw.refl w).alloc _).trans hn1)).mono ?_; rintro e w2 ⟨v3, rfl, hs3, hk3, hn2⟩; obtain ⟨q3, c3, rfl⟩ := set_shape hs3; have x0 := hn2.cell x0; have x1 := hn2.cell x1)
          | (go_at_call 42; refine (HWD.out _).mono ?_; rintro e w3 ⟨rfl, hn3⟩)
          | fail)
        have hnB : Nw w w2 := (by repeat (first | assumption | exact Nw.refl _ | refine Nw.alloc ?_ _ | refine Nw.drew ?_ | refine Nw.drewN2 ?_ _ | (refine Nw.trans ?_ (by assumption))))
        clear hn1 hn2 hs3 hk3
        generalize w2 = wB at *
        have HTF := hid (fun k hk => trimB_snoc bs k hk)
        go_wp2
        go_loopw [9, 10, 12, 13, 35] (fun v o _ _ i wr => ∃ k : Nat, k ≤ bs.length ∧ i = .int .i64 k ∧ o = .bool false ∧ BkOwn wr wB.heap.size v (trimB (bs.take k)) ∧ Nw wB wr) (fun _ _ _ _ i _ => bs.length - (intOf i).toNat)
        case atStart => exact ⟨0, Nat.zero_le _, rfl, rfl, BkOwn.nil _ _, Nw.refl _⟩
        case round =>
          obtain ⟨k, hk, rfl, rfl, ho, hnr⟩ := hrel
          by_cases hlt : k < bs.length
          · have hdk : decide (k < bs.length) = true := decide_eq_true hlt
            have HT := hid (HTF.out k hlt)
            have hlen : (trimB (bs.take k)).length ≤ 1000000 := by rw [trimB_length, List.length_take]; omega
            obtain ⟨b1, o1, vi, rfl, d0, d1, hsl⟩ := HB.out k hlt
            have d0 := (hnB.trans hnr).cell d0
            have d1 := (hnB.trans hnr).cell d1
            obtain ⟨q, c', rfl⟩ := set_shape hsl
            have HTK := hid (fun w' (h : Nw w w') => rtrim_c _ (st bs k) w' (hsl.nw h) (Nat.le_trans (hsm.at k hlt) (by decide)))
            have hsn := hsm.at k hlt
            clear hsl
            generalize st bs k = sk at *
            generalize off bs k = ok at *
            generalize htk : trim sk = tk at *
            generalize trimB (bs.take k) = out at *
            obtain ⟨qo, co, rfl⟩ := ho.shape rfl
            go_upto_region 16 with (first
              | (go_at_call 27; refine (HTK.out _ ((hnB.trans hnr).trans (by repeat (first | assumption | exact Nw.refl _ | refine Nw.alloc ?_ _ | refine Nw.drew ?_ | refine Nw.drewN2 ?_ _ | (refine Nw.trans ?_ (by assumption)))))).mono ?_; rintro e w7 ⟨v7, rfl, hs7, hk7, hn7⟩; obtain ⟨q7, c7, rfl⟩ := set_shape hs7; have z7 := hn7.cell (box2 wr (.int .i64 ok) (.slice q sk.length c') 60).1)
              | fail)
            have hsz := lt_of_alloc wr w7 _ hn7
            go_wp2_with (first
              | (at_builtin; refine appBk rfl _ _ _ rfl Try.underlying28 (ho.nw (show Nw wr _ from (by repeat (first | assumption | exact Nw.refl _ | refine Nw.alloc ?_ _ | refine Nw.drew ?_ | refine Nw.drewN2 ?_ _ | (refine Nw.trans ?_ (by assumption)))))) (Nat.le_trans (Nw.size (show Nw wB wr from hnr)) (Nw.size (show Nw wr _ from (by repeat (first | assumption | exact Nw.refl _ | refine Nw.alloc ?_ _ | refine Nw.drew ?_ | refine Nw.drewN2 ?_ _ | (refine Nw.trans ?_ (by assumption))))))) rfl rfl hs7 (fun k hk e => by have h1 := hk7 k hk; have h2 := (ho.lt k e).2; omega) (by omega) ?_; intro v8 w8 hadd8 hn8 hm8; obtain ⟨q8, c8, rfl⟩ := hadd8.shape (n := List.length out + 1) (by simp))
              | fail)
            go_roundw
            case rel => exact ⟨k + 1, by omega, by go_num, rfl, by rw [HT.out]; exact hadd8, hn8 _ (hnr.trans (by repeat (first | assumption | exact Nw.refl _ | refine Nw.alloc ?_ _ | refine Nw.drew ?_ | refine Nw.drewN2 ?_ _ | (refine Nw.trans ?_ (by assumption))))) (Nat.le_refl _)⟩
            case measure => simp [intOf]; omega
          · obtain rfl : k = bs.length := by omega
            have hdk : decide (bs.length < bs.length) = false := decide_eq_false (by omega)
            go_wp2
            go_ret
            refine ⟨_, rfl, ?_, hnB.trans hnr⟩
            rw [HR.out, runA_no]
            rw [List.take_length] at ho
            exact ho.mono hnB.size
  · rw [Bool.not_eq_true] at hN
    have HR := hid (addP_no (c := c) (s := s) hN)
    rw [hN] at HM
    go_enter Try.func45, Try.ntmps45
    unfold span at *
    go_wp2_with (first
      | (go_at_call 60; refine (HM.out _ (by repeat (first | assumption | exact Nw.refl _ | refine Nw.alloc ?_ _ | refine Nw.drew ?_ | refine Nw.drewN2 ?_ _ | (refine Nw.trans ?_ (by assumption))))).mono ?_; rintro e w1 ⟨rfl, hn1⟩)
      | fail)
    go_ret
    exact ⟨_, rfl, by rw [HR.out]; exact BkOwn.nil _ _, (by repeat (first | assumption | exact Nw.refl _ | refine Nw.alloc ?_ _ | refine Nw.drew ?_ | refine Nw.drewN2 ?_ _ | (refine Nw.trans ?_ (by assumption))))⟩
end Wn
end Go.Proofs.Ythellicimicieaa
