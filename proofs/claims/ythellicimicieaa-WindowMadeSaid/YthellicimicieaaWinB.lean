/- Windows: what stays as it may be, and the laws of adding and of time (plain). No condition. -/
import Derived.Test.YthellicimicieaaWinA
set_option linter.unusedSimpArgs false
set_option linter.unusedVariables false
namespace Go.Proofs.Ythellicimicieaa
namespace Wn
open Ival Words
theorem trimB_length (bs : Bs) : (trimB bs).length = bs.length := by simp [trimB]
theorem trimB_mem {bs : Bs} {b : Int × List Wd} (h : b ∈ trimB bs) : ∃ x ∈ bs, b = (x.1, trim x.2) := by
  obtain ⟨x, hx, rfl⟩ := List.mem_map.1 h
  exact ⟨x, hx, rfl⟩
theorem trimB_ris {bs : Bs} (h : bs.Pairwise fun a b => a.1 < b.1) : (trimB bs).Pairwise fun a b => a.1 < b.1 := by
  unfold trimB
  rw [List.pairwise_map]
  exact h
/-- Windows that may be, and are plain. -/
structure Pl (lo hi : Int) (bs : Bs) : Prop where
  may : may lo hi = true
  cn : Cn bs
  bd : ∀ b ∈ bs, 0 ≤ b.1 ∧ b.1 < wide lo hi
theorem Pl.ok {lo hi : Int} {bs : Bs} (h : Pl lo hi bs) : Ok lo hi bs := ⟨h.may, h.cn.ris, fun b hb => ⟨(h.bd b hb).1, (h.bd b hb).2, by rw [(h.cn.tr b hb).1]; exact (h.cn.tr b hb).2⟩⟩
theorem Pl.mayW {lo hi : Int} {bs : Bs} (h : Pl lo hi bs) : mayW lo hi bs = true := (mayW_iff _ _ _).2 h.ok
theorem Pl.nil {lo hi : Int} (h : Ival.may lo hi = true) : Pl lo hi [] := ⟨h, ⟨List.Pairwise.nil, fun b hb => by cases hb⟩, fun b hb => by cases hb⟩
theorem Ok.pl {lo hi : Int} {bs : Bs} (h : Ok lo hi bs) : Pl lo hi (trimB bs) := ⟨h.may, ⟨trimB_ris h.ris, fun b hb => by
  obtain ⟨x, hx, rfl⟩ := trimB_mem hb
  exact ⟨trim_trim _, (h.bd x hx).2.2⟩⟩, fun b hb => by
  obtain ⟨x, hx, rfl⟩ := trimB_mem hb
  exact ⟨(h.bd x hx).1, (h.bd x hx).2.1⟩⟩
theorem Pl.trimB {lo hi : Int} {bs : Bs} (h : Pl lo hi bs) : trimB bs = bs := by
  unfold Wn.trimB
  conv => rhs; rw [← List.map_id bs]
  exact List.map_congr_left fun b hb => by rw [(h.cn.tr b hb).1]; rfl
theorem or_ne {x s : List Wd} (h : trim x = x) (hn : x ≠ []) : or x s ≠ [] := by
  obtain ⟨i, hi⟩ := some_word h hn
  intro e
  have := wd_or x s i
  rw [e, wd_nil] at this
  exact hi (BitVec.or_eq_zero_iff.1 this.symm).1
theorem ins_mem {bs : Bs} {c : Int} {s : List Wd} : ∀ b ∈ ins bs c s, b = (c, s) ∨ b ∈ bs ∨ ∃ x, (c, x) ∈ bs ∧ b = (c, or x s) := by
  induction bs with
  | nil => intro b hb; left; simpa [ins] using hb
  | cons y r ih =>
    obtain ⟨o, x⟩ := y
    intro b hb
    unfold ins at hb
    split at hb
    · rcases List.mem_cons.1 hb with h | h
      · exact Or.inl h
      · exact Or.inr (Or.inl h)
    · split at hb
      · rename_i h1 h2
        subst h2
        rcases List.mem_cons.1 hb with h | h
        · exact Or.inr (Or.inr ⟨x, List.mem_cons_self, h⟩)
        · exact Or.inr (Or.inl (List.mem_cons_of_mem _ h))
      · rcases List.mem_cons.1 hb with h | h
        · exact Or.inr (Or.inl (by rw [h]; exact List.mem_cons_self))
        · rcases ih b h with q | q | ⟨x, q1, q2⟩
          · exact Or.inl q
          · exact Or.inr (Or.inl (List.mem_cons_of_mem _ q))
          · exact Or.inr (Or.inr ⟨x, List.mem_cons_of_mem _ q1, q2⟩)
theorem ins_ris {bs : Bs} {c : Int} {s : List Wd} (h : bs.Pairwise fun a b => a.1 < b.1) : (ins bs c s).Pairwise fun a b => a.1 < b.1 := by
  induction bs with
  | nil => exact List.pairwise_singleton _ _
  | cons y r ih =>
    obtain ⟨o, x⟩ := y
    obtain ⟨h1, h2⟩ := List.pairwise_cons.1 h
    unfold ins
    split
    · rename_i hc
      refine List.pairwise_cons.2 ⟨fun b hb => ?_, h⟩
      rcases List.mem_cons.1 hb with rfl | hb
      · exact hc
      · exact Int.lt_trans hc (h1 b hb)
    · split
      · exact List.pairwise_cons.2 ⟨h1, h2⟩
      · rename_i hc hc2
        refine List.pairwise_cons.2 ⟨fun b hb => ?_, ih h2⟩
        rcases ins_mem b hb with rfl | hb | ⟨x, q1, rfl⟩
        · show o < c; omega
        · exact h1 b hb
        · show o < c; omega
theorem ins_cn {bs : Bs} (h : Cn bs) {c : Int} {s : List Wd} (hs : trim s = s) (hn : s ≠ []) : Cn (ins bs c s) := ⟨ins_ris h.ris, fun b hb => by
  rcases ins_mem b hb with rfl | hb | ⟨x, q1, rfl⟩
  · exact ⟨hs, hn⟩
  · exact h.tr b hb
  · have := h.tr _ q1
    exact ⟨or_trim _ _, or_ne this.1 this.2⟩⟩
theorem ins_pl {lo hi : Int} {bs : Bs} (h : Pl lo hi bs) {c : Int} {s : List Wd} (h0 : 0 ≤ c) (h1 : c < wide lo hi) (hs : trim s = s) (hn : s ≠ []) : Pl lo hi (ins bs c s) := ⟨h.may, ins_cn h.cn hs hn, fun b hb => by
  rcases ins_mem b hb with rfl | hb | ⟨x, q1, rfl⟩
  · exact ⟨h0, h1⟩
  · exact h.bd b hb
  · exact ⟨h0, h1⟩⟩
theorem fits_iff (lo hi c : Int) (s : List Wd) : fits lo hi c s = true ↔ trim s ≠ [] ∧ 0 ≤ c ∧ c < wide lo hi := by
  unfold fits; simp
theorem add_pl {lo hi : Int} {bs : Bs} (h : Ok lo hi bs) (c : Int) (s : List Wd) : Pl lo hi (addP lo hi bs c s) := by
  unfold addP
  rw [if_pos ((mayW_iff _ _ _).2 h)]
  split
  · rename_i hf
    obtain ⟨h1, h2, h3⟩ := (fits_iff ..).1 hf
    exact ins_pl h.pl h2 h3 (trim_trim _) h1
  · exact h.pl
theorem gl_add {lo hi : Int} {bs : Bs} (h : Ok lo hi bs) (c : Int) (s : List Wd) (g : Int → Bool) (i : Nat) : gl g (addP lo hi bs c s) i = gl g bs i ||| (if (0 ≤ c ∧ c < wide lo hi) ∧ g c = true then wd s i else 0) := by
  unfold addP
  rw [if_pos ((mayW_iff _ _ _).2 h)]
  split
  · rename_i hf
    obtain ⟨h1, h2, h3⟩ := (fits_iff ..).1 hf
    rw [gl_ins, gl_trim, wd_trim]
    by_cases hg : g c = true
    · rw [if_pos hg, if_pos ⟨⟨h2, h3⟩, hg⟩]
    · rw [if_neg hg, if_neg (fun q => hg q.2)]
  · rename_i hf
    rw [gl_trim]
    by_cases hc : (0 ≤ c ∧ c < wide lo hi) ∧ g c = true
    · have : trim s = [] := by
        by_cases q : trim s = []
        · exact q
        · exact absurd ((fits_iff ..).2 ⟨q, hc.1.1, hc.1.2⟩) hf
      rw [if_pos hc, trim_nil.1 this i]; simp
    · rw [if_neg hc]; simp
/-! ### Time goes on -/
theorem later_mono {lo hi o p d : Int} (hd : 0 ≤ d) (h : o < p) (h0 : 0 ≤ later lo hi o d) (h1 : 0 ≤ later lo hi p d) : later lo hi o d ≤ later lo hi p d := by
  unfold later at *
  by_cases q1 : o < 0 ∨ wide lo hi ≤ o
  · rw [if_pos q1] at h0; omega
  · by_cases q2 : p < 0 ∨ wide lo hi ≤ p
    · rw [if_pos q2] at h1; omega
    · rw [if_neg q1] at h0 ⊢
      rw [if_neg q2] at h1 ⊢
      have hm : may lo hi = true := by
        by_cases hm : may lo hi = true
        · exact hm
        · rw [wide_no (by simpa using hm)] at q1; omega
      have hw := wide_yes hm
      unfold last at *
      split <;> split <;> (try split) <;> (try split) <;> simp_all <;> omega
theorem later_wide {lo hi o d : Int} (hd : 0 ≤ d) (h0 : 0 ≤ later lo hi o d) : later lo hi o d < wide lo hi := by
  unfold later at *
  by_cases q1 : o < 0 ∨ wide lo hi ≤ o
  · rw [if_pos q1] at h0; omega
  · rw [if_neg q1] at h0 ⊢
    have hm : may lo hi = true := by
      by_cases hm : may lo hi = true
      · exact hm
      · rw [wide_no (by simpa using hm)] at q1; omega
    have hw := wide_yes hm
    unfold last at *
    split <;> (try split) <;> simp_all <;> omega
/-- While time goes on over a window: what has been pushed is plain, and not beyond what is to come. -/
structure Up (lo hi d : Int) (out l : Bs) : Prop where
  pl : Pl lo hi out
  lt : ∀ b ∈ out, ∀ x ∈ l, 0 ≤ later lo hi x.1 d → b.1 ≤ later lo hi x.1 d
theorem push_mem {out : Bs} {c : Int} {s : List Wd} : ∀ b ∈ push out c s, b ∈ out ∨ b.1 = c := by
  intro b hb
  unfold push at hb
  split at hb
  · exact Or.inl hb
  · split at hb
    · rcases List.mem_append.1 hb with h | h
      · exact Or.inl (List.mem_of_mem_take h)
      · right; simp at h; rw [h]
    · rcases List.mem_append.1 hb with h | h
      · exact Or.inl h
      · right; simp at h; rw [h]
theorem push_pl {lo hi : Int} {out : Bs} (h : Pl lo hi out) {c : Int} {s : List Wd} (hc : c < wide lo hi) (hs : trim s ≠ []) (hlt : ∀ b ∈ out, 0 ≤ c → b.1 ≤ c) : Pl lo hi (push out c s) := by
  unfold push
  split
  · exact h
  · rename_i hc0
    have hc0 : 0 ≤ c := by omega
    split
    · rename_i h2
      have e := take_last out h2.1
      rw [h2.2] at e
      have hr := h.cn.ris
      rw [e] at hr
      rw [List.pairwise_append] at hr
      have hl : (c, st out (out.length - 1)) ∈ out := by rw [← h2.2]; exact off_mem (by omega)
      refine ⟨h.may, ⟨List.pairwise_append.2 ⟨hr.1, List.pairwise_singleton _ _, fun a ha b hb => ?_⟩, fun b hb => ?_⟩, fun b hb => ?_⟩
      · have := hr.2.2 a ha _ (List.mem_singleton.2 rfl)
        simp at hb
        rw [hb]
        exact this
      · rcases List.mem_append.1 hb with q | q
        · exact h.cn.tr b (List.mem_of_mem_take q)
        · simp at q
          rw [q]
          have := h.cn.tr _ hl
          exact ⟨or_trim _ _, or_ne this.1 this.2⟩
      · rcases List.mem_append.1 hb with q | q
        · exact h.bd b (List.mem_of_mem_take q)
        · simp at q; rw [q]; exact ⟨hc0, hc⟩
    · rename_i h2
      refine ⟨h.may, ⟨List.pairwise_append.2 ⟨h.cn.ris, List.pairwise_singleton _ _, fun a ha b hb => ?_⟩, fun b hb => ?_⟩, fun b hb => ?_⟩
      · simp at hb
        rw [hb]
        have h3 := hlt a ha hc0
        have hpos : 0 < out.length := List.length_pos_of_mem ha
        have hle : a.1 ≤ off out (out.length - 1) := by
          have e := take_last out hpos
          have hr := h.cn.ris
          rw [e, List.pairwise_append] at hr
          rw [e] at ha
          rcases List.mem_append.1 ha with q | q
          · exact Int.le_of_lt (hr.2.2 a q _ (List.mem_singleton.2 rfl))
          · simp only [List.mem_singleton] at q; rw [q]; exact Int.le_refl _
        have h4 := hlt _ (off_mem (show out.length - 1 < out.length by omega)) hc0
        dsimp only at h4
        have h5 : off out (out.length - 1) ≠ c := fun q => h2 ⟨hpos, q⟩
        show a.1 < c
        omega
      · rcases List.mem_append.1 hb with q | q
        · exact h.cn.tr b q
        · simp at q; rw [q]; exact ⟨trim_trim _, hs⟩
      · rcases List.mem_append.1 hb with q | q
        · exact h.bd b q
        · simp at q; rw [q]; exact ⟨hc0, hc⟩
theorem Up.step {lo hi d : Int} {out l : Bs} {b : Int × List Wd} (hd : 0 ≤ d) (h : Up lo hi d out (b :: l)) (hr : ∀ x ∈ l, b.1 < x.1) (hs : trim b.2 ≠ []) : Up lo hi d (push out (later lo hi b.1 d) b.2) l := by
  refine ⟨?_, fun y hy x hx h0 => ?_⟩
  · by_cases h0 : 0 ≤ later lo hi b.1 d
    · exact push_pl h.pl (later_wide hd h0) hs (fun y hy q => h.lt y hy b List.mem_cons_self q)
    · unfold push; rw [if_pos (by omega)]; exact h.pl
  · by_cases hb : 0 ≤ later lo hi b.1 d
    · rcases push_mem y hy with q | q
      · exact h.lt y q x (List.mem_cons_of_mem _ hx) h0
      · rw [q]; exact later_mono hd (hr x hx) hb h0
    · unfold push at hy
      rw [if_pos (by omega)] at hy
      exact h.lt y hy x (List.mem_cons_of_mem _ hx) h0
theorem pushes_pl {lo hi d : Int} (hd : 0 ≤ d) : ∀ (l out : Bs), Up lo hi d out l → l.Pairwise (fun a b => a.1 < b.1) → (∀ b ∈ l, trim b.2 ≠ []) → Pl lo hi (pushes lo hi d out l)
  | [], out, h, _, _ => h.pl
  | b :: r, out, h, hr, hs => pushes_pl hd r _ (h.step hd (List.pairwise_cons.1 hr).1 (hs b List.mem_cons_self)) (List.pairwise_cons.1 hr).2 (fun x hx => hs x (List.mem_cons_of_mem _ hx))
theorem Up.start {lo hi d : Int} {l : Bs} (h : may lo hi = true) : Up lo hi d [] l := ⟨Pl.nil h, fun b hb => by cases hb⟩
theorem shift_pl {lo hi d : Int} (hd : 0 ≤ d) {bs : Bs} (h : Ok lo hi bs) : Pl lo hi (shiftP lo hi bs d) := by
  unfold shiftP
  rw [if_pos ((mayW_iff _ _ _).2 h)]
  exact pushes_pl hd bs [] (Up.start h.may) h.ris (fun b hb => (h.bd b hb).2.2)
theorem gl_shift {lo hi d : Int} {bs : Bs} (h : Ok lo hi bs) (g : Int → Bool) (i : Nat) : gl g (shiftP lo hi bs d) i = gl (fun o => decide (0 ≤ later lo hi o d) && g (later lo hi o d)) bs i := by
  unfold shiftP
  rw [if_pos ((mayW_iff _ _ _).2 h), gl_pushes]
  simp [gl]
/-- The reference adds to what has been pushed: the same. -/
theorem add_push {lo hi d : Int} {out l : Bs} {b : Int × List Wd} (h : Up lo hi d out (b :: l)) (hd : 0 ≤ d) (hc : 0 ≤ later lo hi b.1 d) (hs : trim b.2 ≠ []) : addP lo hi out (later lo hi b.1 d) b.2 = push out (later lo hi b.1 d) b.2 := by
  have hw := later_wide hd hc
  have h1 := add_pl h.pl.ok (later lo hi b.1 d) b.2
  have h2 := push_pl h.pl hw hs (fun y hy q => h.lt y hy b List.mem_cons_self q)
  refine Cn.ext h1.cn h2.cn fun o i => ?_
  rw [gl_add h.pl.ok, gl_push]
  congr 2
  simp [hc, hw]
/-! ### The laws -/
theorem gl_congr {g g' : Int → Bool} {bs : Bs} (h : ∀ b ∈ bs, g b.1 = g' b.1) (i : Nat) : gl g bs i = gl g' bs i := by
  induction bs with
  | nil => rfl
  | cons b r ih => rw [gl_cons, gl_cons, ih fun x hx => h x (List.mem_cons_of_mem _ hx), h b List.mem_cons_self]
theorem shift_zero {lo hi : Int} {bs : Bs} (h : Pl lo hi bs) (hz : ∀ c, 0 ≤ c → c < wide lo hi → later lo hi c 0 = c) : shiftP lo hi bs 0 = bs :=
  Cn.ext (shift_pl (Int.le_refl 0) h.ok).cn h.cn fun o i => by
    rw [gl_shift h.ok]
    exact gl_congr (fun b hb => by
      have := h.bd b hb
      rw [hz b.1 this.1 this.2, decide_eq_true this.1, Bool.true_and]) i
theorem shift_shift {lo hi d e : Int} (hd : 0 ≤ d) (he : 0 ≤ e) {bs : Bs} (h : Pl lo hi bs) (hz : ∀ c, 0 ≤ c → c < wide lo hi → later lo hi (later lo hi c d) e = later lo hi c (d + e)) : shiftP lo hi (shiftP lo hi bs d) e = shiftP lo hi bs (d + e) :=
  Cn.ext (shift_pl he (shift_pl hd h.ok).ok).cn (shift_pl (Int.add_nonneg hd he) h.ok).cn fun o i => by
    rw [gl_shift (shift_pl hd h.ok).ok, gl_shift h.ok, gl_shift h.ok]
    exact gl_congr (fun b hb => by
      have := h.bd b hb
      rw [hz b.1 this.1 this.2]
      by_cases q : 0 ≤ later lo hi b.1 d
      · rw [decide_eq_true q, Bool.true_and]
      · have e1 : later lo hi b.1 (d + e) = -1 := by
          rw [← hz b.1 this.1 this.2]
          exact if_pos (Or.inl (by omega))
        rw [decide_eq_false q, Bool.false_and, e1]; rfl) i
theorem or3 (a b c : Wd) : a ||| b ||| c = a ||| c ||| b := by rw [BitVec.or_assoc, BitVec.or_comm b, ← BitVec.or_assoc]
theorem add_add {lo hi : Int} {bs : Bs} (h : Pl lo hi bs) (c k : Int) (s t : List Wd) : addP lo hi (addP lo hi bs c s) k t = addP lo hi (addP lo hi bs k t) c s :=
  Cn.ext (add_pl (add_pl h.ok c s).ok k t).cn (add_pl (add_pl h.ok k t).ok c s).cn fun o i => by
    rw [gl_add (add_pl h.ok c s).ok, gl_add h.ok, gl_add (add_pl h.ok k t).ok, gl_add h.ok, or3]
theorem add_or {lo hi : Int} {bs : Bs} (h : Pl lo hi bs) (c : Int) (s t : List Wd) : addP lo hi (addP lo hi bs c s) c t = addP lo hi bs c (or s t) :=
  Cn.ext (add_pl (add_pl h.ok c s).ok c t).cn (add_pl h.ok c (or s t)).cn fun o i => by
    rw [gl_add (add_pl h.ok c s).ok, gl_add h.ok, gl_add h.ok, wd_or, BitVec.or_assoc]
    split <;> simp
theorem shift_add {lo hi d : Int} (hd : 0 ≤ d) {bs : Bs} (h : Pl lo hi bs) (c : Int) (h0 : 0 ≤ c) (h1 : c < wide lo hi) (s : List Wd) : shiftP lo hi (addP lo hi bs c s) d = if 0 ≤ later lo hi c d then addP lo hi (shiftP lo hi bs d) (later lo hi c d) s else shiftP lo hi bs d := by
  have ha := (add_pl h.ok c s).ok
  have hs := shift_pl hd h.ok
  by_cases q : 0 ≤ later lo hi c d
  · rw [if_pos q]
    refine Cn.ext (shift_pl hd ha).cn (add_pl hs.ok _ s).cn fun o i => ?_
    rw [gl_shift ha, gl_add h.ok, gl_add hs.ok, gl_shift h.ok]
    congr 2
    simp [h0, h1, q, later_wide hd q]
  · rw [if_neg q]
    refine Cn.ext (shift_pl hd ha).cn hs.cn fun o i => ?_
    rw [gl_shift ha, gl_add h.ok, gl_shift h.ok]
    simp [q]
/-- No window is wider than its interval. -/
theorem len_wide : ∀ (bs : Bs) (a b : Int), a ≤ b → bs.Pairwise (fun a b => a.1 < b.1) → (∀ x ∈ bs, a ≤ x.1 ∧ x.1 < b) → (bs.length : Int) ≤ b - a
  | [], a, b, h, _, _ => by simp; omega
  | x :: r, a, b, h, hr, hx => by
    have h1 := hx x List.mem_cons_self
    have h2 := List.pairwise_cons.1 hr
    have := len_wide r (x.1 + 1) b (by omega) h2.2 (fun y hy => ⟨h2.1 y hy, (hx y (List.mem_cons_of_mem _ hy)).2⟩)
    rw [List.length_cons]
    omega
end Wn
end Go.Proofs.Ythellicimicieaa
