/- The contracts of Index and Contains, of equality of events and of traces. No condition but a text's length. -/
import Derived.Test.YtjelbfodkacipaaTrE
import Derived.Test.YtjelbfodkacipaaTrD
set_option linter.unusedSimpArgs false
set_option linter.unusedVariables false
namespace Go.Proofs.Ytjelbfodkacipaa
open Go.ChangeShapes Go.WideShapes Go.ChangeAt Go.RowKit
namespace Tr
open Go.Proofs.Ytjelbfodkacipaa.Lx (isIn nameB strs_open strs_cell contains_c)
open Go.Proofs.Ytjelbfodkacipaa.Rec (rises i64s_open i64_cell)
/-! ### Index -/
def idx : List ByteArray → ByteArray → Int → Int
  | [], _, _ => -1
  | y :: r, s, k => if y = s then k else idx r s (k + 1)
def idxP (l : List ByteArray) (s : ByteArray) : Int := idx l s 0
theorem idx_at (l : List ByteArray) (s : ByteArray) : ∀ (k : Nat) (n : Int), s ∉ l.take k → l[k]? = some s → idx l s n = n + k := by
  induction l with
  | nil => intro k n _ h; simp at h
  | cons y r ih =>
    intro k n h1 h2
    cases k with
    | zero =>
      obtain rfl : y = s := by simpa using h2
      simp [idx]
    | succ k =>
      rw [List.take_succ_cons, List.mem_cons, not_or] at h1
      rw [idx, if_neg (fun e => h1.1 e.symm), ih k (n + 1) h1.2 (by simpa using h2)]
      omega
theorem idx_no (l : List ByteArray) (s : ByteArray) : ∀ n : Int, s ∉ l → idx l s n = -1 := by
  induction l with
  | nil => intro n _; rfl
  | cons y r ih =>
    intro n h
    rw [List.mem_cons, not_or] at h
    rw [idx, if_neg (fun e => h.1 e.symm), ih _ h.2]
theorem idx_ge (l : List ByteArray) (s : ByteArray) : ∀ n : Int, 0 ≤ n → -1 ≤ idx l s n ∧ idx l s n < n + l.length ∨ idx l s n = -1 := by
  induction l with
  | nil => intro n _; exact Or.inr rfl
  | cons y r ih =>
    intro n h
    unfold idx
    split
    · left; simp; omega
    · rcases ih (n + 1) (by omega) with h1 | h1
      · left; simp; omega
      · exact Or.inr h1
theorem idxP_bd (l : List ByteArray) (s : ByteArray) : -1 ≤ idxP l s ∧ idxP l s ≤ l.length := by
  unfold idxP
  rcases idx_ge l s 0 (Int.le_refl _) with h | h
  · omega
  · rw [h]; omega
theorem index_c (v : Value) (l : List ByteArray) (s : ByteArray) (w : World) (hv : Sl w v (Lx.strs l)) : Calls Try.prog 50 #[v, .string s] w (Gives (.int .i64 (idxP l s)) w) := by
  obtain ⟨p, cap, rfl, hcap, hmx, _, hc⟩ := strs_open hv
  unfold maxLen at hmx
  have HC := hid hc
  clear hc hv
  go_enter Try.func50, Try.ntmps50
  go_wp2
  go_loopw [5, 8] (fun _ i wr => ∃ k : Nat, k ≤ l.length ∧ i = .int .i64 k ∧ Hid (s ∉ l.take k) ∧ Nw w wr) (fun _ i _ => l.length - (intOf i).toNat)
  case atStart => exact ⟨0, Nat.zero_le _, rfl, (by simp : s ∉ l.take 0), Nw.refl _⟩
  case round =>
    obtain ⟨k, hk, rfl, ht, hn⟩ := hrel
    by_cases hlt : k < l.length
    · have hdk : decide (k < l.length) = true := decide_eq_true hlt
      obtain ⟨b1, o1, rfl, hcell⟩ := strs_cell (HC.out.nw hn) k hlt
      by_cases he : l[k] = s
      · have hd : (s.toList == l[k].toList) = true := by rw [he]; exact beq_self_eq_true _
        have HG := hid (show idxP l s = k by
          have := idx_at l s k 0 ht.out (by rw [List.getElem?_eq_getElem hlt, he])
          rw [Int.zero_add] at this
          exact this)
        clear he
        generalize l[k] = y at *
        go_wp2
        go_ret
        exact Gives.i HG.out.symm hn
      · have hd : (s.toList == l[k].toList) = false := by rw [Lx.beq_str]; exact decide_eq_false (fun e => he e.symm)
        have HN := hid (Lx.not_take hlt ht.out he)
        clear he
        generalize l[k] = y at *
        go_wp2
        go_roundw
        case rel => exact ⟨k + 1, by omega, by go_num, HN, hn⟩
        case measure => simp [intOf]; omega
    · have hdk : decide (k < l.length) = false := decide_eq_false hlt
      have HN := hid (show idxP l s = -1 from idx_no l s 0 (by have := ht.out; rwa [List.take_of_length_le (by omega)] at this))
      go_wp2
      go_ret
      exact Gives.i HN.out.symm hn
theorem noti_take {l : List Int} {x : Int} {k : Nat} (hk : k < l.length) (h : x ∉ l.take k) (he : l.getD k 0 ≠ x) : x ∉ l.take (k + 1) := by
  rw [List.take_add_one, List.getElem?_eq_getElem hk]
  simp only [List.mem_append, Option.toList_some, List.mem_singleton, not_or]
  refine ⟨h, fun e => he ?_⟩
  rw [List.getD_eq_getElem?_getD, List.getElem?_eq_getElem hk, e]; rfl
theorem indexi_c (v : Value) (l : List Int) (x : Int) (w : World) (hv : Sl w v (i64s l)) : Calls Try.prog 51 #[v, .int .i64 x] w fun e w' => ∃ i : Int, e = .returned (.int .i64 i) ∧ (0 ≤ i ↔ x ∈ l) ∧ Nw w w' := by
  obtain ⟨p, cap, rfl, hcap, hmx, _, hc⟩ := i64s_open hv
  unfold maxLen at hmx
  have HC := hid hc
  clear hc hv
  go_enter Try.func51, Try.ntmps51
  go_wp2
  go_loopw [5, 8] (fun _ i wr => ∃ k : Nat, k ≤ l.length ∧ i = .int .i64 k ∧ Hid (x ∉ l.take k) ∧ Nw w wr) (fun _ i _ => l.length - (intOf i).toNat)
  case atStart => exact ⟨0, Nat.zero_le _, rfl, (by simp : x ∉ l.take 0), Nw.refl _⟩
  case round =>
    obtain ⟨k, hk, rfl, ht, hn⟩ := hrel
    by_cases hlt : k < l.length
    · have hdk : decide (k < l.length) = true := decide_eq_true hlt
      obtain ⟨b1, o1, rfl, hcell⟩ := i64_cell (HC.out.nw hn) k hlt
      by_cases he : l.getD k 0 = x
      · have hd : (x == l.getD k 0) = true := by rw [he]; exact beq_self_eq_true _
        have HM := hid (show x ∈ l by rw [← he, List.getD_eq_getElem?_getD, List.getElem?_eq_getElem hlt]; exact List.getElem_mem hlt)
        clear he
        generalize l.getD k 0 = y at *
        go_wp2
        go_ret
        exact ⟨(k : Int), rfl, ⟨fun _ => HM.out, fun _ => by omega⟩, hn⟩
      · have hd : (x == l.getD k 0) = false := beq_eq_false_iff_ne.2 (fun e => he e.symm)
        have HN := hid (noti_take hlt ht.out he)
        clear he
        generalize l.getD k 0 = y at *
        go_wp2
        go_roundw
        case rel => exact ⟨k + 1, by omega, by go_num, HN, hn⟩
        case measure => simp [intOf]; omega
    · have hdk : decide (k < l.length) = false := decide_eq_false hlt
      have HN := hid (show x ∉ l by have := ht.out; rwa [List.take_of_length_le (by omega)] at this)
      go_wp2
      go_ret
      exact ⟨-1, rfl, ⟨fun h => by omega, fun h => absurd h HN.out⟩, hn⟩
theorem containsi_c (v : Value) (l : List Int) (x : Int) (w : World) (hv : Sl w v (i64s l)) : Calls Try.prog 27 #[v, .int .i64 x] w (Gives (.bool (decide (x ∈ l))) w) := by
  go_enter Try.func27, Try.ntmps27
  go_wp2_with (first
    | (go_at_call 51; refine (indexi_c _ _ _ _ hv).mono ?_; rintro e w1 ⟨i, rfl, hi, hn1⟩)
    | fail)
  go_ret
  exact Gives.b (by first | rfl | (rw [Bool.eq_iff_iff]; simp only [decide_eq_true_eq]; exact hi)) (by repeat (first | assumption | exact Nw.refl _ | refine Nw.alloc ?_ _ | refine Nw.drew ?_ | refine Nw.drewN2 ?_ _ | (refine Nw.trans ?_ (by assumption))))
/-! ### Equality of events -/
theorem same_c (u v : Value) (t s : Int) (a b : List Int) (w : World) (hu : Sl w u (i64s a)) (hv : Sl w v (i64s b)) :
    Calls Try.prog 74 #[.agg #[.int .u64 t, u], .agg #[.int .u64 s, v]] w (Gives (.bool (decide (t = s ∧ a = b))) w) := by
  obtain ⟨p, cap, rfl, hcap, hmx, _, hc⟩ := i64s_open hu
  obtain ⟨p2, cap2, rfl, hcap2, hmx2, _, hc2⟩ := i64s_open hv
  by_cases h : t = s
  · subst h
    have HF := hid (show decide (t = t ∧ a = b) = decide (a = b) by simp)
    go_enter Try.func74, Try.ntmps74
    go_wp2_with (first
      | (go_at_call 57; refine (eqi_c _ _ a b _ (hu.nw (by repeat (first | assumption | exact Nw.refl _ | refine Nw.alloc ?_ _ | refine Nw.drew ?_ | refine Nw.drewN2 ?_ _ | (refine Nw.trans ?_ (by assumption))))) (hv.nw (by repeat (first | assumption | exact Nw.refl _ | refine Nw.alloc ?_ _ | refine Nw.drew ?_ | refine Nw.drewN2 ?_ _ | (refine Nw.trans ?_ (by assumption)))))).mono ?_; rintro e w1 ⟨rfl, hn1⟩))
    go_ret
    exact Gives.b HF.out.symm (by repeat (first | assumption | exact Nw.refl _ | refine Nw.alloc ?_ _ | refine Nw.drew ?_ | refine Nw.drewN2 ?_ _ | (refine Nw.trans ?_ (by assumption))))
  · have hd : (t == s) = false := beq_eq_false_iff_ne.2 h
    have HF := hid (show decide (t = s ∧ a = b) = false from decide_eq_false (fun e => h e.1))
    go_enter Try.func74, Try.ntmps74
    go_wp2
    go_ret
    exact Gives.b HF.out.symm (by repeat (first | assumption | exact Nw.refl _ | refine Nw.alloc ?_ _ | refine Nw.drew ?_ | refine Nw.drewN2 ?_ _ | (refine Nw.trans ?_ (by assumption))))

theorem front1_c (u v : Value) (t s : Int) (a b : List Int) (w : World) (hu : Sl w u (i64s a)) (hv : Sl w v (i64s b)) :
    Calls Try.prog 56 #[.agg #[.int .u64 t, u], .agg #[.int .u64 s, v]] w (Gives (.bool (decide (t = s ∧ a = b))) w) := by
  obtain ⟨p, cap, rfl, hcap, hmx, _, hc⟩ := i64s_open hu
  obtain ⟨p2, cap2, rfl, hcap2, hmx2, _, hc2⟩ := i64s_open hv
  by_cases h : t = s
  · subst h
    have HF := hid (show decide (t = t ∧ a = b) = decide (a = b) by simp)
    go_enter Try.func56, Try.ntmps56
    go_wp2_with (first
      | (go_at_call 57; refine (eqi_c _ _ a b _ (hu.nw (by repeat (first | assumption | exact Nw.refl _ | refine Nw.alloc ?_ _ | refine Nw.drew ?_ | refine Nw.drewN2 ?_ _ | (refine Nw.trans ?_ (by assumption))))) (hv.nw (by repeat (first | assumption | exact Nw.refl _ | refine Nw.alloc ?_ _ | refine Nw.drew ?_ | refine Nw.drewN2 ?_ _ | (refine Nw.trans ?_ (by assumption)))))).mono ?_; rintro e w1 ⟨rfl, hn1⟩))
    go_ret
    exact Gives.b HF.out.symm (by repeat (first | assumption | exact Nw.refl _ | refine Nw.alloc ?_ _ | refine Nw.drew ?_ | refine Nw.drewN2 ?_ _ | (refine Nw.trans ?_ (by assumption))))
  · have hd : (t == s) = false := beq_eq_false_iff_ne.2 h
    have HF := hid (show decide (t = s ∧ a = b) = false from decide_eq_false (fun e => h e.1))
    go_enter Try.func56, Try.ntmps56
    go_wp2
    go_ret
    exact Gives.b HF.out.symm (by repeat (first | assumption | exact Nw.refl _ | refine Nw.alloc ?_ _ | refine Nw.drew ?_ | refine Nw.drewN2 ?_ _ | (refine Nw.trans ?_ (by assumption))))

theorem es_of_take (a b : Es) (n : Nat) (h : a.take n = b.take n) (h1 : n < a.length) (h2 : n < b.length) : (tm a n = tm b n ∧ ids a n = ids b n) ↔ a.take (n + 1) = b.take (n + 1) := by
  rw [List.take_add_one, List.take_add_one, h, List.append_cancel_left_eq]
  unfold tm ids
  simp only [List.getD_eq_getElem?_getD, List.getElem?_eq_getElem h1, List.getElem?_eq_getElem h2, Option.getD_some, Option.toList_some, List.cons.injEq, and_true]
  exact Prod.ext_iff.symm
set_option maxRecDepth 20000 in
theorem sames_c (u v : Value) (a b : Es) (w : World) (hu : Evs w u a) (hv : Evs w v b) : Calls Try.prog 54 #[u, v] w (Gives (.bool (decide (a = b))) w) := by
  obtain ⟨p, cap, rfl, hcap, hmx, _, hc⟩ := hu
  obtain ⟨p2, cap2, rfl, hcap2, hmx2, _, hc2⟩ := hv
  unfold maxLen at hmx hmx2
  have HC := hid hc
  have HC2 := hid hc2
  clear hc hc2
  by_cases hl : a.length = b.length
  · have HL := hid hl
    rw [← hl] at hcap2 ⊢
    clear hl
    go_enter Try.func54, Try.ntmps54
    go_wp2
    go_loopw [5, 13] (fun _ i wr => ∃ k : Nat, k ≤ a.length ∧ i = .int .i64 k ∧ Hid (a.take k = b.take k) ∧ Nw w wr) (fun _ i _ => a.length - (intOf i).toNat)
    case atStart => exact ⟨0, Nat.zero_le _, rfl, hid rfl, Nw.refl _⟩
    case round =>
      obtain ⟨k, hk, rfl, ht, hn⟩ := hrel
      by_cases hlt : k < a.length
      · have HK2 := hid (show k < b.length by have := HL.out; omega)
        obtain ⟨b1, o1, v1, rfl, c0, c1, s1⟩ := (HC.out.nw hn) k hlt
        obtain ⟨b2, o2, v2, rfl, d0, d1, s2⟩ := (HC2.out.nw hn) k HK2.out
        have hdk : decide (k < a.length) = true := decide_eq_true hlt
        have HT := hid (es_of_take a b k ht.out hlt HK2.out)
        have HS := hid (fun w' (h : Nw wr w') => same_c v1 v2 (tm a k) (tm b k) (ids a k) (ids b k) w' (s1.nw h) (s2.nw h))
        have g1 := World.block_lt_of_cell? wr _ c0
        have g2 := World.block_lt_of_cell? wr _ d0
        simp only at g1 g2
        clear s1 s2
        by_cases he : tm a k = tm b k ∧ ids a k = ids b k
        · have hde : decide (tm a k = tm b k ∧ ids a k = ids b k) = true := decide_eq_true he
          have HN := hid (HT.out.1 he)
          rw [hde] at HS
          clear ht HT he hde
          generalize tm a k = x at *
          generalize tm b k = y at *
          go_upto_region 6 with fail
          refine wp_region_stairs (by kernel_rfl) (by kernel_rfl) (by kernel_rfl) ?_
          iterate 10
            refine Stairs.is ?_ ?_ ?_
            rotate_left 1
            · intro x wR hR hd K hK
              simp only [Act.put, List.setIfInBounds_toArray, List.set_cons_zero, List.set_cons_succ, Nat.reduceAdd, List.length_nil, List.length_cons, List.nil_append, List.cons_append, Say.ok] at hK ⊢
              clear hd
              change Hid _ at hK
              obtain ⟨hcR, hfR, hzR⟩ := nwc hR
              first | (refine wanted_yes ?_ ?_; rfl) | (refine wanted_no ?_ ?_; rfl)
              go_wp2_with (first | (go_at_call 74; refine (HS.out _ (by repeat (first | assumption | exact Nw.refl _ | refine Nw.alloc ?_ _ | refine Nw.drew ?_ | refine Nw.drewN2 ?_ _ | (refine Nw.trans ?_ (by assumption))))).mono ?_; rintro e w5 ⟨rfl, hn5⟩))
              all_goals (refine hK.out _ _ ?_ ?_ <;> first | (solve | (repeat (first | assumption | exact Nw.refl _ | refine Nw.alloc ?_ _ | refine Nw.drew ?_ | refine Nw.drewN2 ?_ _ | (refine Nw.trans ?_ (by assumption))))) | exact rfl)
            try simp only [Act.put, List.setIfInBounds_toArray, List.set_cons_zero, List.set_cons_succ, Nat.reduceAdd, List.length_nil, List.length_cons, List.nil_append, List.cons_append]
          refine Stairs.nil ?_
          intro x wR hR hx
          clear hx
          obtain ⟨hcR, hfR, hzR⟩ := nwc hR
          go_wp2
          go_roundw
          case rel => exact ⟨k + 1, by omega, by go_num, HN, (by repeat (first | assumption | exact Nw.refl _ | refine Nw.alloc ?_ _ | refine Nw.drew ?_ | refine Nw.drewN2 ?_ _ | (refine Nw.trans ?_ (by assumption))))⟩
          case measure => simp [intOf]; omega
        · have hde : decide (tm a k = tm b k ∧ ids a k = ids b k) = false := decide_eq_false he
          have HF := hid (show decide (a = b) = false from decide_eq_false (fun h => he (by rw [h]; exact ⟨rfl, rfl⟩)))
          rw [hde] at HS
          clear ht he HT hde
          generalize tm a k = x at *
          generalize tm b k = y at *
          go_upto_region 6 with fail
          refine wp_region_stairs (by kernel_rfl) (by kernel_rfl) (by kernel_rfl) ?_
          iterate 10
            refine Stairs.is ?_ ?_ ?_
            rotate_left 1
            · intro x wR hR hd K hK
              simp only [Act.put, List.setIfInBounds_toArray, List.set_cons_zero, List.set_cons_succ, Nat.reduceAdd, List.length_nil, List.length_cons, List.nil_append, List.cons_append, Say.ok] at hK ⊢
              clear hd
              change Hid _ at hK
              obtain ⟨hcR, hfR, hzR⟩ := nwc hR
              first | (refine wanted_yes ?_ ?_; rfl) | (refine wanted_no ?_ ?_; rfl)
              go_wp2_with (first | (go_at_call 74; refine (HS.out _ (by repeat (first | assumption | exact Nw.refl _ | refine Nw.alloc ?_ _ | refine Nw.drew ?_ | refine Nw.drewN2 ?_ _ | (refine Nw.trans ?_ (by assumption))))).mono ?_; rintro e w5 ⟨rfl, hn5⟩))
              all_goals (refine hK.out _ _ ?_ ?_ <;> first | (solve | (repeat (first | assumption | exact Nw.refl _ | refine Nw.alloc ?_ _ | refine Nw.drew ?_ | refine Nw.drewN2 ?_ _ | (refine Nw.trans ?_ (by assumption))))) | exact rfl)
            try simp only [Act.put, List.setIfInBounds_toArray, List.set_cons_zero, List.set_cons_succ, Nat.reduceAdd, List.length_nil, List.length_cons, List.nil_append, List.cons_append]
          refine Stairs.nil ?_
          intro x wR hR hx
          clear hx
          obtain ⟨hcR, hfR, hzR⟩ := nwc hR
          go_wp2
          go_ret
          exact Gives.b HF.out.symm (by repeat (first | assumption | exact Nw.refl _ | refine Nw.alloc ?_ _ | refine Nw.drew ?_ | refine Nw.drewN2 ?_ _ | (refine Nw.trans ?_ (by assumption))))
      · have hdk : decide (k < a.length) = false := decide_eq_false hlt
        have HF := hid (show decide (a = b) = true from decide_eq_true (by have h0 := HL.out; have := ht.out; rwa [List.take_of_length_le (by omega), List.take_of_length_le (by omega)] at this))
        clear ht
        go_wp2
        go_ret
        exact Gives.b HF.out.symm (by repeat (first | assumption | exact Nw.refl _ | refine Nw.alloc ?_ _ | refine Nw.drew ?_ | refine Nw.drewN2 ?_ _ | (refine Nw.trans ?_ (by assumption))))
  · have hd : ((a.length : Int) != b.length) = true := by simp; omega
    have HF := hid (show decide (a = b) = false from decide_eq_false (fun h => hl (by rw [h])))
    go_enter Try.func54, Try.ntmps54
    go_wp2
    go_ret
    exact Gives.b HF.out.symm (by repeat (first | assumption | exact Nw.refl _ | refine Nw.alloc ?_ _ | refine Nw.drew ?_ | refine Nw.drewN2 ?_ _ | (refine Nw.trans ?_ (by assumption))))
theorem T.ext_iff (a b : T) : a = b ↔ a.names = b.names ∧ a.evs = b.evs := by cases a; cases b; simp
instance : DecidableEq T := fun a b => decidable_of_iff _ (T.ext_iff a b).symm
theorem samet_c (un ue vn ve : Value) (a b : T) (w : World) (h1 : Sl w un (Lx.strs a.names)) (h2 : Evs w ue a.evs) (h3 : Sl w vn (Lx.strs b.names)) (h4 : Evs w ve b.evs) :
    Calls Try.prog 31 #[.agg #[un, ue], .agg #[vn, ve]] w (Gives (.bool (decide (a = b))) w) := by
  have HF := hid (show decide (a = b) = (decide (a.names = b.names) && decide (a.evs = b.evs)) by rw [Bool.eq_iff_iff]; simp [T.ext_iff])
  obtain ⟨p, cap, rfl, _, _, _, _⟩ := strs_open h1
  obtain ⟨p2, cap2, rfl, _, _, _, _⟩ := strs_open h3
  have h2' := h2
  have h4' := h4
  obtain ⟨p3, cap3, rfl, _, _, _, _⟩ := h2
  obtain ⟨p4, cap4, rfl, _, _, _, _⟩ := h4
  by_cases h : a.names = b.names
  · have hd : decide (a.names = b.names) = true := decide_eq_true h
    have HS := hid (fun w' (q : Nw w w') => eqs_c _ _ _ _ w' (h1.nw q) (h3.nw q))
    rw [hd] at HF HS
    clear hd h
    go_enter Try.func31, Try.ntmps31
    go_wp2_with (first
      | (go_at_call 53; refine (HS.out _ (by repeat (first | assumption | exact Nw.refl _ | refine Nw.alloc ?_ _ | refine Nw.drew ?_ | refine Nw.drewN2 ?_ _ | (refine Nw.trans ?_ (by assumption))))).mono ?_; rintro e w1 ⟨rfl, hn1⟩; obtain ⟨hc1, hf1, hz1⟩ := nwc hn1)
      | (go_at_call 54; refine (sames_c _ _ a.evs b.evs _ (h2'.nw (by repeat (first | assumption | exact Nw.refl _ | refine Nw.alloc ?_ _ | refine Nw.drew ?_ | refine Nw.drewN2 ?_ _ | (refine Nw.trans ?_ (by assumption))))) (h4'.nw (by repeat (first | assumption | exact Nw.refl _ | refine Nw.alloc ?_ _ | refine Nw.drew ?_ | refine Nw.drewN2 ?_ _ | (refine Nw.trans ?_ (by assumption)))))).mono ?_; rintro e w2 ⟨rfl, hn2⟩)
      | fail)
    go_ret
    exact Gives.b HF.out.symm (by repeat (first | assumption | exact Nw.refl _ | refine Nw.alloc ?_ _ | refine Nw.drew ?_ | refine Nw.drewN2 ?_ _ | (refine Nw.trans ?_ (by assumption))))
  · have hd : decide (a.names = b.names) = false := decide_eq_false h
    have HS := hid (fun w' (q : Nw w w') => eqs_c _ _ _ _ w' (h1.nw q) (h3.nw q))
    rw [hd] at HF HS
    clear hd h
    go_enter Try.func31, Try.ntmps31
    go_wp2_with (first
      | (go_at_call 53; refine (HS.out _ (by repeat (first | assumption | exact Nw.refl _ | refine Nw.alloc ?_ _ | refine Nw.drew ?_ | refine Nw.drewN2 ?_ _ | (refine Nw.trans ?_ (by assumption))))).mono ?_; rintro e w1 ⟨rfl, hn1⟩; obtain ⟨hc1, hf1, hz1⟩ := nwc hn1)
      | fail)
    go_ret
    exact Gives.b HF.out.symm (by repeat (first | assumption | exact Nw.refl _ | refine Nw.alloc ?_ _ | refine Nw.drew ?_ | refine Nw.drewN2 ?_ _ | (refine Nw.trans ?_ (by assumption))))
end Tr
end Go.Proofs.Ytjelbfodkacipaa
