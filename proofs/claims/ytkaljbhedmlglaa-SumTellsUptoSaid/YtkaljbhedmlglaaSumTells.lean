/- SumTells: for every input of bulk at most 1048576 the law returns true, and each argument reads as it did. -/
import Derived.Test.YtkaljbhedmlglaaSumAdds
import Derived.Test.YtkaljbhedmlglaaRegion
namespace Go.Proofs.Ytkaljbhedmlglaa
open Go.ChangeShapes Go.WideShapes Go.ChangeAt Go.RowKit
open Go.ChangeMaps (open_string shut_string)
namespace Sum
/-! ### One byte changed, two exchanged -/
theorem S_set (l : List UInt8) (i : Nat) (x z : UInt8) (h : l[i]? = some x) : S (l.set i z) = S l - x.toNat + z.toNat := by
  induction l generalizing i with
  | nil => simp at h
  | cons y r ih =>
    cases i with
    | zero => simp at h; subst h; rw [List.set_cons_zero, S_cons, S_cons]; omega
    | succ i => simp at h; rw [List.set_cons_succ, S_cons, S_cons, ih i h]; omega
theorem V_set (l : List UInt8) (n : Int) (i : Nat) (x z : UInt8) (h : l[i]? = some x) : V n (l.set i z) = V n l + (z.toNat - x.toNat) * (n - i) := by
  induction l generalizing i n with
  | nil => simp at h
  | cons y r ih =>
    cases i with
    | zero => simp at h; subst h; rw [List.set_cons_zero]; simp only [V]; grind
    | succ i => simp at h; rw [List.set_cons_succ]; simp only [V]; rw [ih (n - 1) i h]; grind
theorem more_eq (a b : List UInt8) : more 1 a = more 1 b ↔ (1 + S a) % 65521 = (1 + S b) % 65521 ∧ (a.length + V a.length a) % 65521 = (b.length + V b.length b) % 65521 := by
  rw [sum_is, sum_is]
  generalize (1 + S a) = p
  generalize (1 + S b) = q
  generalize (a.length + V a.length a) = r
  generalize (b.length + V b.length b) = s
  omega
theorem set_self {α : Type} (l : List α) (i : Nat) (x : α) (h : l[i]? = some x) : l.set i x = l := by
  have := (List.getElem?_eq_some_iff.1 h).2
  rw [← this]; simp
theorem set_told (l : List UInt8) (i : Nat) (x z : UInt8) (h : l[i]? = some x) : more 1 (l.set i z) = more 1 l ↔ z = x := by
  constructor
  · intro e
    have := ((more_eq _ _).1 e).1
    rw [S_set l i x z h] at this
    have h1 := x.toNat_lt
    have h2 := z.toNat_lt
    exact UInt8.toNat_inj.1 (by omega)
  · rintro rfl
    rw [set_self l i z h]
theorem swap_told (l : List UInt8) (i : Nat) (x y : UInt8) (hx : l[i]? = some x) (hy : l[i + 1]? = some y) : more 1 ((l.set i y).set (i + 1) x) = more 1 l ↔ x = y := by
  have hy2 : (l.set i y)[i + 1]? = some y := by rw [List.getElem?_set_ne (by omega)]; exact hy
  constructor
  · intro e
    have := ((more_eq _ _).1 e).2
    rw [V_set _ _ (i + 1) y x hy2, V_set l _ i x y hx] at this
    simp only [List.length_set] at this
    have h1 := x.toNat_lt
    have h2 := y.toNat_lt
    have e2 : V l.length l + ((y.toNat : Int) - x.toNat) * (l.length - i) + ((x.toNat : Int) - y.toNat) * (l.length - ((i + 1 : Nat) : Int)) = V l.length l + ((y.toNat : Int) - x.toNat) := by
      have : ((i + 1 : Nat) : Int) = (i : Int) + 1 := by omega
      rw [this]
      grind
    rw [e2] at this
    exact UInt8.toNat_inj.1 (by omega)
  · rintro rfl
    rw [set_self l i x hx, set_self l (i + 1) x hy]
theorem xor_val (a b : UInt8) : bits .xor .u8 (a.toNat : Int) (b.toNat : Int) = ((a ^^^ b).toNat : Int) := by
  have h1 := a.toNat_lt
  have h2 := b.toNat_lt
  rw [u8_xor_nat _ _ h1 h2, UInt8.toNat_xor]
theorem xor_same (a x : UInt8) : a ^^^ x = a ↔ x = 0 := by
  constructor
  · intro h
    have := congrArg (fun z => a ^^^ z) h
    simpa [← UInt8.xor_assoc] using this
  · rintro rfl; simp
theorem u8_zero (x : UInt8) : (x.toNat : Int) = 0 ↔ x = 0 := by
  constructor
  · intro h; exact UInt8.toNat_inj.1 (by have : (0 : UInt8).toNat = 0 := rfl; omega)
  · rintro rfl; rfl
/-- Two bools that are one. -/
theorem two_beq {a b c d : Int} (h : a = b ↔ c = d) : ∃ t : Bool, (a == b) = t ∧ (c == d) = t := by
  by_cases hp : a = b
  · exact ⟨true, by simpa using hp, by simpa using h.1 hp⟩
  · exact ⟨false, by simpa using hp, by simpa using mt h.2 hp⟩
theorem u8_iff (x y : UInt8) : x = y ↔ (x.toNat : Int) = (y.toNat : Int) := ⟨fun h => by rw [h], fun h => UInt8.toNat_inj.1 (by omega)⟩
theorem own8 {w : World} {B : Nat} {e : TypeId} {v : Value} {bs : List UInt8} (h : Own w B e v ([] ++ u8s bs)) (hne : 0 < bs.length) :
    ∃ g cap, v = .slice (some ⟨g, 0, none⟩) bs.length cap ∧ B ≤ g ∧ bs.length ≤ cap ∧ cap ≤ maxLen ∧ Own w B e (.slice (some ⟨g, 0, none⟩) bs.length cap) (u8s bs) := by
  rw [List.nil_append] at h
  obtain ⟨g, cap, h1, h2, h3, h4⟩ := h.opened (by rw [u8s_length]; exact hne)
  rw [u8s_length] at h1 h3
  subst h1
  exact ⟨g, cap, rfl, h2, h3, h4, h⟩
theorem idx (at_ : Int) (n : Nat) (h : 0 < n) : ∃ i : Nat, i < n ∧ (IntKind.u64.wrap at_).tmod n = i := by
  have h0 : 0 ≤ IntKind.u64.wrap at_ := by rw [IntKind.wrap_u64]; omega
  rw [Int.tmod_eq_emod_of_nonneg h0]
  have h1 := Int.emod_nonneg (IntKind.u64.wrap at_) (by omega : (n : Int) ≠ 0)
  have h2 := Int.emod_lt_of_pos (IntKind.u64.wrap at_) (by omega : (0 : Int) < n)
  exact ⟨(IntKind.u64.wrap at_ % n).toNat, by omega, by omega⟩
set_option maxRecDepth 20000 in
set_option maxHeartbeats 1000000 in
theorem tells_nil (v : Value) (n : Int) (x : UInt8) (w : World) (hv : Bytes w v []) :
    Calls Try.prog 4 #[v, .int .i64 n, .int .u8 x.toNat] w fun e w' => e = .returned (.bool true) ∧ Nw w w' := by
  obtain ⟨p, cap, rfl, hcap, hmx, _, hc⟩ := hv.open
  go_enter Try.func4, Try.ntmps4
  go_wp2_with (go_at_call 16; refine (awake_c _).mono ?_; rintro e w5 ⟨rfl, hn6⟩)
  go_ret
  exact ⟨rfl, (by repeat (first | assumption | exact Nw.refl _ | refine Nw.alloc ?_ _ | refine Nw.drew ?_ | (refine Nw.trans ?_ (by assumption))))⟩
set_option maxRecDepth 20000 in
set_option maxHeartbeats 1000000 in
theorem tells_some (v : Value) (bs : List UInt8) (n : Int) (x : UInt8) (w : World) (hv : Bytes w v bs) (hpos : 0 < bs.length) (hlen : bs.length ≤ 1000000000) (hn0 : -9223372036854775808 ≤ n) (hn1 : n ≤ 9223372036854775807) :
    Calls Try.prog 4 #[v, .int .i64 n, .int .u8 x.toNat] w fun e w' => e = .returned (.bool true) ∧ Nw w w' := by
  obtain ⟨p, cap, rfl, hcap, hmx, _, hc⟩ := hv.open
  obtain ⟨i, hi, hwi⟩ := idx n bs.length hpos
  obtain ⟨b, off, y, rfl, hcell, hy, hly⟩ := u8s_cell hc i hi
  have hxv := xor_val y x
  unfold maxLen at hmx
  have hz : ((bs.length : Int) == 0) = false := beq_eq_false_iff_ne.2 (by omega)
  go_enter Try.func4, Try.ntmps4
  go_upto_region 5 with (first
    | (at_builtin; refine app1 rfl _ _ _ rfl _ _ _ Try.underlying23 info_u8 rfl (by decide) ((Nw.refl w).alloc _) (Own.new w _ _ [] (Nat.le_refl _) (Nat.zero_le _)) rfl (hv.nw ((Nw.refl w).alloc _)) rfl (u8s_one _) ?_ ?_; rotate_left; (simp only [u8s_length, List.length_append, List.length_nil, List.length_cons, List.length_map]; omega); intro v1 w1 hown1 hg1 hn1))
  obtain ⟨g, cap1, rfl, hB, hcap1, hmx1, hown⟩ := own8 hown1 hpos
  have hc1 := hown.cell (u8s_length bs).symm i (by rw [u8s_length]; exact hi)
  rw [u8s_get bs i y hy.out] at hc1
  have hf1 := hown.frozen (u8s_length bs).symm i
  have hown2 := hown.set (u8s_length bs).symm i (.int .u8 ((y.toNat ^^^ x.toNat : Nat) : Int))
  have e1 : u8s (bs.set i (y ^^^ x)) = (u8s bs).set i (.int .u8 ((y.toNat ^^^ x.toNat : Nat) : Int)) := by rw [u8s_set, UInt8.toNat_xor]
  rw [← e1] at hown2
  have hn2 : Nw w (w1.setCell ⟨g, i, none⟩ (.int .u8 ((y.toNat ^^^ x.toNat : Nat) : Int))) := hn1.setCell hB _
  have hsum1 : Bytes (w1.setCell ⟨g, i, none⟩ (.int .u8 ((y.toNat ^^^ x.toNat : Nat) : Int))) (.slice (some ⟨g, 0, none⟩) bs.length cap1) (bs.set i (y ^^^ x)) := hown2.sl
  have hsum2 := hv.nw hn2
  clear hown1 hown e1 hown2
  go_upto_region 6 with fail
  generalize (w1.setCell ⟨g, i, none⟩ (.int .u8 ((y.toNat ^^^ x.toNat : Nat) : Int))) = w2 at *
  obtain ⟨t, ht1, ht2⟩ := two_beq ((set_told bs i y _ hy.out).trans ((xor_same y x).trans (u8_zero x).symm))
  by_cases hi2 : i + 1 < bs.length
  · obtain ⟨b', off', y2, e, hcell2, hy2, hly2⟩ := u8s_cell hc (i + 1) hi2
    cases e
    go_upto_region 10 with (first
      | (go_at_call 12; refine (sum_c _ _ _ (by first | assumption | exact Bytes.nil _ | (apply Bytes.nw; assumption; repeat (first | assumption | exact Nw.refl _ | refine Nw.alloc ?_ _ | refine Nw.drew ?_ | (refine Nw.trans ?_ (by assumption)))))).mono ?_; rintro e w' ⟨rfl, rfl⟩)
      | (at_builtin; refine app1 rfl _ _ _ rfl _ _ _ Try.underlying23 info_u8 rfl (by decide) (hn2.alloc _) (Own.new w2 _ _ [] hn2.size (Nat.zero_le _)) rfl (hsum2.nw ((Nw.refl w2).alloc _)) rfl (u8s_one _) ?_ ?_; rotate_left; (simp only [u8s_length, List.length_append, List.length_nil, List.length_cons, List.length_map]; omega); intro v3 w3 hown3 hg3 hn3))
    obtain ⟨g3, cap3, rfl, hB3, hcap3, hmx3, hown⟩ := own8 hown3 hpos
    have k1 := hn3.cell hcell
    have k2 := hn3.cell hcell2
    have k3 := hown.cell (u8s_length bs).symm i (by rw [u8s_length]; exact hi)
    rw [u8s_get bs i y hy.out] at k3
    have k4 := hown.cell (u8s_length bs).symm (i + 1) (by rw [u8s_length]; exact hi2)
    rw [u8s_get bs (i + 1) y2 hy2.out] at k4
    have k5 := hown.frozen (u8s_length bs).symm i
    have k6 := hown.frozen (u8s_length bs).symm (i + 1)
    have HO := hid hown
    clear hown hown3
    go_region
    go_upto_region 11 with fail
    have hown4 := (HO.out.set (u8s_length bs).symm i (.int .u8 (y2.toNat : Int))).set (by rw [List.length_set, u8s_length]) (i + 1) (.int .u8 (y.toNat : Int))
    rw [← u8s_set, ← u8s_set] at hown4
    have hn4 : Nw w ((w3.setCell ⟨g3, i, none⟩ (.int .u8 (y2.toNat : Int))).setCell ⟨g3, i + 1, none⟩ (.int .u8 (y.toNat : Int))).drew :=
      ((hn3.setCell hB3 _).setCell hB3 _).drew
    have hd : Bytes ((w3.setCell ⟨g3, i, none⟩ (.int .u8 (y2.toNat : Int))).setCell ⟨g3, i + 1, none⟩ (.int .u8 (y.toNat : Int))).drew (.slice (some ⟨g3, 0, none⟩) bs.length cap3) ((bs.set i y2).set (i + 1) y) := hown4.sl
    have hb4 := hv.nw hn4
    have q1 := hn4.cell hcell
    have q2 := hn4.cell hcell2
    clear hown4 k1 k2 k3 k4 k5 k6 hsum1 hsum2
    generalize ((w3.setCell ⟨g3, i, none⟩ (.int .u8 (y2.toNat : Int))).setCell ⟨g3, i + 1, none⟩ (.int .u8 (y.toNat : Int))).drew = w4 at *
    have q3 := fun w' (h : Nw w4 w') => h.cell q1
    have q4 := fun w' (h : Nw w4 w') => h.cell q2
    obtain ⟨t2, ht3, ht4⟩ := two_beq ((swap_told bs i y y2 hy.out hy2.out).trans (u8_iff y y2))
    refine wp_region_says [Is (.slice (some ⟨g3, 0, none⟩) bs.length cap3), Is (.int .u32 (more 1 ((bs.set i y2).set (i + 1) y))), Is (.slice (some ⟨b, off, none⟩) bs.length cap), Is (.int .u32 (more 1 bs)), Is (.bool t2),
      Is (.slice (some ⟨b, off, none⟩) bs.length cap), Is (.int .i64 i), Is (.pointer (some ⟨b, off + i, none⟩)), Is (.int .u8 y.toNat), Is (.slice (some ⟨b, off, none⟩) bs.length cap), Is (.int .i64 i), Is (.int .i64 (i + 1)),
      Is (.pointer (some ⟨b, off + (i + 1), none⟩)), Is (.int .u8 y2.toNat), Is (.bool t2), Is (.bool true), Is (.bool true), Is (.bool true), Is (.bool true), Is (.bool true)] (by kernel_rfl) (by kernel_rfl) (by simp [StabL]) ?phi_steps ?phi_end
    case phi_steps =>
      repeat' (first | exact StepsOk.nil | refine StepsOk.cons ?_ ?_)
      all_goals
        intro x wR hR hd K hK
        simp only [fill, Act.put, List.setIfInBounds_toArray, List.set_cons_zero, List.set_cons_succ, Nat.reduceAdd, says, List.getD_cons_zero, List.getD_cons_succ, Is] at hK ⊢
        try simp [Region.binds, says, Is] at hd
        try have hs := str_ok hd
        try simp only [hd] at hK ⊢
        first | (refine wanted_yes ?_ ?_; rfl) | (refine wanted_no ?_ ?_; rfl)
        go_wp2_with (first 
      | (go_at_call 12; refine (sum_c _ _ _ (by first | assumption | exact Bytes.nil _ | (apply Bytes.nw; assumption; repeat (first | assumption | exact Nw.refl _ | refine Nw.alloc ?_ _ | refine Nw.drew ?_ | (refine Nw.trans ?_ (by assumption)))))).mono ?_; rintro e w' ⟨rfl, rfl⟩)
      | (go_at_call 16; refine (awake_c _).mono ?_; rintro e w5 ⟨rfl, hn5⟩))
      all_goals (try simp only [hd])
      all_goals (refine hK _ _ ?_ ?_ <;> first | exact Nw.refl _ | assumption | exact rfl)
    intro x wR hR hx
    simp only [fill, Act.put, List.setIfInBounds_toArray, List.set_cons_zero, List.set_cons_succ, Nat.reduceAdd]
    have h19 := hx 19 (by decide)
    simp only [says, List.getD_cons_zero, List.getD_cons_succ, Is] at h19
    clear hx
    go_wp2
    go_ret
    exact ⟨by rw [← h19]; rfl, hn4.trans hR⟩
  · go_wp2_with (first
      | (go_at_call 12; refine (sum_c _ _ _ (by first | assumption | exact Bytes.nil _ | (apply Bytes.nw; assumption; repeat (first | assumption | exact Nw.refl _ | refine Nw.alloc ?_ _ | refine Nw.drew ?_ | (refine Nw.trans ?_ (by assumption)))))).mono ?_; rintro e w' ⟨rfl, rfl⟩)
      | (go_at_call 16; refine (awake_c _).mono ?_; rintro e w5 ⟨rfl, hn6⟩))
    go_ret
    exact ⟨rfl, (by repeat (first | assumption | exact Nw.refl _ | refine Nw.alloc ?_ _ | refine Nw.drew ?_ | (refine Nw.trans ?_ (by assumption))))⟩
theorem tells_walk (v : Value) (bs : List UInt8) (n : Int) (x : UInt8) (w : World) (hv : Bytes w v bs) (hlen : bs.length ≤ 1000000000) (hn : -9223372036854775808 ≤ n ∧ n ≤ 9223372036854775807) :
    Calls Try.prog 4 #[v, .int .i64 n, .int .u8 x.toNat] w fun e w' => e = .returned (.bool true) ∧ Nw w w' := by
  cases bs with
  | nil => exact tells_nil v n x w hv
  | cons y r => exact tells_some v (y :: r) n x w hv (by simp) hlen hn.1 hn.2
end Sum
namespace LSumTells
theorem contract (H : Type) (enc : TypeId × Value → H) (W : World) (base : Nat) (args : Array Value) (ds gs : List (DataW H)) (before : List MemPlace)
    (hval : ∀ (j : Nat) t v, Try.f4.params[j]? = some t → args[j]? = some v → Value.okWide Try.prog W .any base t v)
    (hW : DataW.Whole enc Try.prog Try.f4.params.toList Rows.sumTellsSpec.vars false W args.toList ds gs before) (hk : Rows.uptoSmall H (ds ++ gs) = true) :
    Calls Try.prog 4 args W fun e W' => ∃ v, e = .returned v ∧ Rows.sumTellsSpec.post enc Try.prog Try.f4 false true false false W args v W' := by
  have hA1 := hW
  obtain ⟨p, q, hA, hV, _, _, _⟩ := hA1
  obtain ⟨rfl, _⟩ := trodVars_none hV
  rw [Try.params4] at hA hval
  obtain ⟨v0, vs0, d0, ds0, p0, q0, hargs, rfl, _, h0, r0⟩ := trodAll_cons hA
  obtain ⟨v1, vs1, d1, ds1, p1, q1, rfl, rfl, _, h1, r1⟩ := trodAll_cons r0
  obtain ⟨v2, vs2, d2, ds2, p2, q2, rfl, rfl, _, h2, r2⟩ := trodAll_cons r1
  obtain ⟨rfl, rfl, _⟩ := trodAll_nil r2
  obtain rfl : args = #[v0, v1, v2] := by cases args; simp_all
  have hk0 := hk
  simp only [List.append_nil] at hk0
  have hk1 : Rows.uptoBulkAll [d0, d1, d2] ≤ 1048576 := of_decide_eq_true hk0
  simp only [Rows.uptoBulkAll] at hk1
  obtain ⟨b0, hb0, hl0⟩ := open_bytes Try.underlying23 Try.underlying5 (by kernel_rfl) (hval 0 23 v0 rfl rfl) h0
  obtain ⟨n1, rfl, e1, _, wf1⟩ := open_int Try.underlying3 (hval 1 3 v1 rfl rfl) h1
  have bd1 := bounds_i64 wf1
  obtain ⟨n2, rfl, e2, _, wf2⟩ := open_int Try.underlying5 (hval 2 5 v2 rfl rfl) h2
  have bd2 := bounds_u8 wf2
  obtain ⟨x2, rfl⟩ := u8_of n2 bd2
  refine (Sum.tells_walk _ b0 _ x2 _ hb0 (by omega) bd1).mono fun e W' ⟨he, hb⟩ => ⟨_, he, law_post 4 laidOut hW rfl (by rw [Try.params4]; intro t ht; simp at ht; rcases ht with rfl | rfl | rfl <;> exact ⟨by kernel_rfl, of_decide_eq_true (by kernel_rfl)⟩) (by kernel_rfl) Try.underlying4 rfl hb⟩
set_option maxRecDepth 100000 in
theorem lifted (os : Os) (started : os.Started) (H : Type) (enc : TypeId × Value → H) (F : Stop.Interp) :
    ReturnsInHanded {} Try.checked os 4 .any ((Rows.OpenSpec.upto Rows.sumTellsSpec).pre6 enc Try.prog Try.f4 Rows.sumTellsUptoRow.domain false) (((Rows.OpenSpec.upto Rows.sumTellsSpec).at F).post enc Try.prog Try.f4 false true false false) := by
  refine returnsInHanded_of_cond (C := Try.checked) (s := Rows.OpenSpec.upto Rows.sumTellsSpec) (k := Rows.uptoSmall) rfl own started (by kernel_rfl) Try.func4
    (OpenSpec.witness (enc := enc) (C := Try.checked) (s := Rows.OpenSpec.upto Rows.sumTellsSpec) (k := Rows.uptoSmall) rfl false ⟨#[], #[.slice none 0 0, .int .i64 0, .int .u8 0], []⟩ 8 (by kernel_rfl) (by kernel_rfl) (by kernel_rfl)
      (x := ([.nil, .lit (.int .i64 0), .lit (.int .u8 0)], [], [])) (by kernel_rfl) rfl (by kernel_rfl)) ?_
  intro W base args ds gs before hval hW _ hk _
  exact contract H enc W base args ds gs before hval hW hk
theorem proved : Rows.SumTellsUptoSaid :=
  OpenClaim.holds_of_cond 4 Try.f4 rfl rfl rfl rfl rfl rfl rfl ⟨rfl, rfl, rfl, rfl, rfl⟩ rfl rfl rfl rfl rfl (by kernel_rfl) Try.func4 (by kernel_rfl)
    (of_decide_eq_true (by kernel_rfl)) (by unfold Func.isWrapper; first | (rw [if_pos (by decide +kernel)]; kernel_rfl) | (rw [if_neg (by decide +kernel)]; exact ⟨rfl, rfl⟩))
    (fun os started H enc _ F => lifted os started H enc F)
end LSumTells

end Go.Proofs.Ytkaljbhedmlglaa
