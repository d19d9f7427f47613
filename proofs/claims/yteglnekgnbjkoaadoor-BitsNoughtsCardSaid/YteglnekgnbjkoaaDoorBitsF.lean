/- The contracts of bits.Of and of the reference's Of: for any numbers the set of those that may be in one. -/
import Derived.Test.YteglnekgnbjkoaaDoorBitsE
namespace Go.Proofs.YteglnekgnbjkoaaDoor
open Go.ChangeShapes Go.WideShapes Go.ChangeAt Go.RowKit
namespace Words
theorem zs_cell {w : World} {p : Option Addr} {zs : List Int} (h : Cells w p (i64s zs)) (i : Nat) (hi : i < zs.length) :
    ∃ b off, p = some ⟨b, off, none⟩ ∧ w.cell? ⟨b, off + i, none⟩ = some (.int .i64 zs[i]) := by
  obtain ⟨b, off, e, h⟩ := h i (by rw [i64s_length]; exact hi)
  refine ⟨b, off, e, ?_⟩
  rw [h]; simp [i64s]
theorem zs_open {w : World} {v : Value} {zs : List Int} (h : Sl w v (i64s zs)) : ∃ p cap, v = .slice p zs.length cap ∧ zs.length ≤ cap ∧ cap ≤ maxLen ∧ (p = none → cap = 0) ∧ Cells w p (i64s zs) := h.open (i64s_length zs)
theorem bit_bv2 (n : Int) (h : 0 ≤ n) : ((bit (n.toNat % 64)).toNat : Int) = IntKind.u64.wrap (2 ^ (n % 64).toNat) := by
  have hk : n.toNat % 64 < 64 := by omega
  have e : (n % 64).toNat = n.toNat % 64 := by omega
  have hb := bit_bv _ hk
  have h1 : 2 ^ (n.toNat % 64) < 2 ^ 64 := Nat.pow_lt_pow_right (by decide) hk
  have e2 : (2 : Int) ^ (n.toNat % 64) = ((2 ^ (n.toNat % 64) : Nat) : Int) := by simp
  rw [hb, e, e2, IntKind.wrap_u64]
  omega
theorem setb_at (s : List Wd) (n : Int) (h : 0 ≤ n) : s.set (n / 64).toNat (wd s (n / 64).toNat ||| bit (n.toNat % 64)) = setb s n.toNat := by
  unfold setb
  rw [show (n / 64).toNat = n.toNat / 64 by omega]
theorem or_bit (s : List Wd) (n : Int) (h : 0 ≤ n) : bits .or .u64 ((wd s (n / 64).toNat).toNat : Int) (IntKind.u64.wrap (2 ^ (n % 64).toNat)) = ((wd s (n / 64).toNat ||| bit (n.toNat % 64)).toNat : Int) := by
  rw [← bit_bv2 n h, or_bv]
theorem ofw_snoc (l : List Int) (k : Nat) (h : k < l.length) : ofw (l.take (k + 1)) = if ok l[k] then setb (ofw (l.take k)) l[k].toNat else ofw (l.take k) := by
  rw [List.take_add_one, List.getElem?_eq_getElem h]
  simp only [ofw, Option.toList_some, List.foldl_append, List.foldl_cons, List.foldl_nil]
set_option maxRecDepth 20000 in
set_option maxHeartbeats 1600000 in
theorem rof_c (v : Value) (l : List Int) (w : World) (hv : Sl w v (i64s l)) : Calls Tryd.prog 15 #[v] w (HandsW w (of l)) := by
  obtain ⟨p, cap, rfl, hcap, hmx, _, hc⟩ := zs_open hv
  have HM := hid hmx
  unfold maxLen at hmx
  have HC := hid hc
  clear hc hv
  go_enter Tryd.func15, Tryd.ntmps15
  go_wp2_with (at_make; refine mk1f rfl _ _ _ rfl _ _ _ Tryd.underlying23 info_u64 (by decide) rfl (Nw.refl w) 64 rfl rfl ?_ ?_ ?_ ?_; rotate_left; rfl; rfl; omega; intro w1 hown1 hn1 hg1)
  have hown : Own w1 w.heap.size 39 (.slice (some ⟨w.heap.size, 0, none⟩) 64 64) (ws (ofw (l.take 0))) := by simpa [ws, wv, ofw] using hown1
  clear hown1
  go_loopw [5, 9] (fun _ i wr => ∃ k : Nat, k ≤ l.length ∧ i = .int .i64 k ∧ Own wr w.heap.size 39 (.slice (some ⟨w.heap.size, 0, none⟩) 64 64) (ws (ofw (l.take k))) ∧ Nw w wr) (fun _ i _ => l.length - (intOf i).toNat)
  case atStart => exact ⟨0, Nat.zero_le _, rfl, hown, hn1⟩
  case round =>
    obtain ⟨k, hk, rfl, hownk, hn⟩ := hrel
    clear hown
    by_cases hlt : k < l.length
    · have hdk : decide (k < l.length) = true := decide_eq_true hlt
      obtain ⟨b1, o1, rfl, hcell⟩ := zs_cell (HC.out.nw hn) k hlt
      have HO := hid hownk
      have HS := hid (ofw_snoc l k hlt)
      have HL := hid (ofw_len (l.take k))
      clear hownk
      generalize l[k] = x at *
      by_cases h0 : 0 ≤ x
      · have hd0 : decide (0 ≤ x) = true := decide_eq_true h0
        by_cases h1 : x ≤ 4095
        · have hd1 : decide (x ≤ 4095) = true := decide_eq_true h1
          obtain ⟨q1, q2, q3, q4⟩ := own_cell HO.out HL.out.symm (x / 64).toNat (by rw [HL.out]; omega)
          have HP := hid (or_bit (ofw (l.take k)) x h0)
          have HK := hid (show ok x = true from decide_eq_true ⟨h0, h1⟩)
          go_wp2
          go_roundw
          case rel =>
            have hput := own_put (k := (x / 64).toNat) HO.out HL.out.symm hn (Nat.le_refl _) _ _ HP.out
            rw [setb_at _ _ h0] at hput
            exact ⟨k + 1, by omega, by go_num, by rw [HS.out, if_pos HK.out]; exact hput.1, hput.2⟩
          case measure => simp [intOf]; omega
        · have hd1 : decide (x ≤ 4095) = false := decide_eq_false h1
          have HK := hid (show ok x = false from decide_eq_false (by omega))
          go_wp2
          go_roundw
          case rel => exact ⟨k + 1, by omega, by go_num, by rw [HS.out, if_neg (by rw [HK.out]; decide)]; exact HO.out, hn⟩
          case measure => simp [intOf]; omega
      · have hd0 : decide (0 ≤ x) = false := decide_eq_false h0
        have HK := hid (show ok x = false from decide_eq_false (by omega))
        go_wp2
        go_roundw
        case rel => exact ⟨k + 1, by omega, by go_num, by rw [HS.out, if_neg (by rw [HK.out]; decide)]; exact HO.out, hn⟩
        case measure => simp [intOf]; omega
    · obtain rfl : k = l.length := by omega
      have hdk : decide (l.length < l.length) = false := decide_eq_false (by omega)
      rw [List.take_length] at hownk
      have HL := hid (ofw_len l)
      have HE := hid (show of l = trim (ofw l) from rfl)
      have hset : Set wr (.slice (some ⟨w.heap.size, 0, none⟩) 64 64) (ofw l) := hownk.sl
      have hlo := hownk.lt
      clear hownk
      go_wp2_with (go_at_call 23; refine (rtrim_c _ _ _ hset (by rw [HL.out]; omega)).mono ?_; rintro e w2 ⟨v2, rfl, h2, h3, h4⟩)
      go_ret
      exact ⟨v2, rfl, by rw [HE.out]; exact h2, fun q hq => Nat.le_trans hn.size (h3 q hq), hn.trans h4⟩
/-! ### bits.Of: the row grows as it must -/
def grow (s : List Wd) (n : Nat) : List Wd := s ++ List.replicate (n / 64 + 1 - s.length) 0
theorem grow_len (s : List Wd) (n : Nat) : (grow s n).length = max s.length (n / 64 + 1) := by simp [grow]; omega
theorem wd_grow (s : List Wd) (n i : Nat) : wd (grow s n) i = wd s i := by
  unfold grow wd
  by_cases h : i < s.length
  · rw [List.getD_eq_getElem?_getD, List.getElem?_append_left h, List.getD_eq_getElem?_getD]
  · simp [List.getElem?_append_right (show s.length ≤ i by omega), List.getElem?_replicate]
    rw [List.getElem?_eq_none (by omega)]
    split <;> rfl
def ofg (l : List Int) : List Wd := l.foldl (fun s n => if ok n then setb (grow s n.toNat) n.toNat else s) []
theorem ofg_snoc (l : List Int) (k : Nat) (h : k < l.length) : ofg (l.take (k + 1)) = if ok l[k] then setb (grow (ofg (l.take k)) l[k].toNat) l[k].toNat else ofg (l.take k) := by
  rw [List.take_add_one, List.getElem?_eq_getElem h]
  simp only [ofg, Option.toList_some, List.foldl_append, List.foldl_cons, List.foldl_nil]
theorem bit_ne (x : Wd) (n : Nat) (h : n < 64) : x ||| bit n ≠ 0 := fun e => by
  have := congrArg (·.getLsbD n) e
  simp [bit_get n n h] at this
theorem ofg_fold (l : List Int) : ∀ s t : List Wd, (∀ i, wd s i = wd t i) → t.length = 64 → (s = [] ∨ wd s (s.length - 1) ≠ 0) → s.length ≤ 64 →
    (∀ i, wd (l.foldl (fun s n => if ok n then setb (grow s n.toNat) n.toNat else s) s) i = wd (l.foldl (fun s n => if ok n then setb s n.toNat else s) t) i) ∧
    (l.foldl (fun s n => if ok n then setb (grow s n.toNat) n.toNat else s) s = [] ∨ wd (l.foldl (fun s n => if ok n then setb (grow s n.toNat) n.toNat else s) s) ((l.foldl (fun s n => if ok n then setb (grow s n.toNat) n.toNat else s) s).length - 1) ≠ 0) ∧
    (l.foldl (fun s n => if ok n then setb (grow s n.toNat) n.toNat else s) s).length ≤ 64 := by
  induction l with
  | nil => intro s t h1 h2 h3 h4; exact ⟨h1, h3, h4⟩
  | cons n r ih =>
    intro s t h1 h2 h3 h4
    rw [List.foldl_cons, List.foldl_cons]
    by_cases hk : ok n = true
    · rw [if_pos hk, if_pos hk]
      have hk' : 0 ≤ n ∧ n ≤ 4095 := of_decide_eq_true hk
      have hlg := grow_len s n.toNat
      refine ih _ _ (fun i => ?_) (by rw [setb_len, h2]) ?_ (by rw [setb_len, hlg]; omega)
      · rw [wd_setb _ _ _ (by rw [hlg]; omega), wd_setb _ _ _ (by omega), wd_grow, h1]
      · right
        rw [setb_len, wd_setb _ _ _ (by rw [hlg]; omega), wd_grow]
        by_cases he : (grow s n.toNat).length - 1 = n.toNat / 64
        · rw [if_pos he]; exact bit_ne _ _ (by omega)
        · rw [if_neg he]
          rcases h3 with rfl | h3
          · simp at hlg; omega
          · rwa [show (grow s n.toNat).length - 1 = s.length - 1 by omega]
    · rw [if_neg hk, if_neg hk]; exact ih s t h1 h2 h3 h4
theorem ofg_len (l : List Int) : (ofg l).length ≤ 64 := (ofg_fold l [] (List.replicate 64 0) (fun i => (wd_noughts 64 i).symm) (by simp) (Or.inl rfl) (by simp)).2.2
theorem ofg_eq (l : List Int) : ofg l = of l := by
  have := ofg_fold l [] (List.replicate 64 0) (fun i => (wd_noughts 64 i).symm) (by simp) (Or.inl rfl) (by simp)
  refine ext (trim_id _ this.2.1) (trim_trim _) fun i => ?_
  rw [show of l = trim (ofw l) from rfl, wd_trim]
  exact this.1 i
theorem grow_snoc (s : List Wd) (j : Nat) : ws (s ++ List.replicate j 0) ++ [.int .u64 0] = ws (s ++ List.replicate (j + 1) 0) := by
  rw [List.replicate_succ', ← List.append_assoc]
  simp [ws, wv]
set_option maxRecDepth 20000 in
set_option maxHeartbeats 3200000 in
theorem of_c (v : Value) (l : List Int) (w : World) (hv : Sl w v (i64s l)) : Calls Tryd.prog 13 #[v] w (HandsW w (of l)) := by
  obtain ⟨p, cap, rfl, hcap, hmx, _, hc⟩ := zs_open hv
  unfold maxLen at hmx
  have HC := hid hc
  clear hc hv
  go_enter Tryd.func13, Tryd.ntmps13
  go_wp2
  go_loopw [3, 5, 8] (fun u _ i wr => ∃ k : Nat, k ≤ l.length ∧ i = .int .i64 k ∧ Own wr w.heap.size 39 u (ws (ofg (l.take k))) ∧ Nw w wr) (fun _ _ i _ => l.length - (intOf i).toNat)
  case atStart => exact ⟨0, Nat.zero_le _, rfl, Own.nil _ _ _, Nw.refl _⟩
  case round =>
    obtain ⟨k, hk, rfl, hownk, hn⟩ := hrel
    by_cases hlt : k < l.length
    · have hdk : decide (k < l.length) = true := decide_eq_true hlt
      obtain ⟨b1, o1, rfl, hcell⟩ := zs_cell (HC.out.nw hn) k hlt
      have HO := hid hownk
      have HS := hid (ofg_snoc l k hlt)
      have HL := hid (ofg_len (l.take k))
      clear hownk
      generalize l[k] = y at *
      by_cases h0 : y < 0
      · have hd0 : decide (y < 0) = true := decide_eq_true h0
        have HK := hid (show ok y = false from decide_eq_false (by omega))
        go_wp2
        go_roundw
        case rel => exact ⟨k + 1, by omega, by go_num, by rw [HS.out, if_neg (by rw [HK.out]; decide)]; exact HO.out, hn⟩
        case measure => simp [intOf]; omega
      · have hd0 : decide (y < 0) = false := decide_eq_false h0
        by_cases h1 : 4095 < y
        · have hd1 : decide (4095 < y) = true := decide_eq_true h1
          have HK := hid (show ok y = false from decide_eq_false (by omega))
          go_wp2
          go_roundw
          case rel => exact ⟨k + 1, by omega, by go_num, by rw [HS.out, if_neg (by rw [HK.out]; decide)]; exact HO.out, hn⟩
          case measure => simp [intOf]; omega
        · have hd1 : decide (4095 < y) = false := decide_eq_false h1
          have HK := hid (show ok y = true from decide_eq_true ⟨by omega, by omega⟩)
          generalize ofg (l.take k) = s at *
          go_wp2
          go_loopw [3] (fun u wx => ∃ j : Nat, (j = 0 ∨ s.length + j ≤ y.toNat / 64 + 1) ∧ Own wx w.heap.size 39 u (ws (s ++ List.replicate j 0)) ∧ Nw w wx) (fun u _ => match u with | .slice _ m _ => y.toNat / 64 + 1 - m | _ => 0)
          case atStart => exact ⟨0, Or.inl rfl, by simpa using HO.out, hn⟩
          case round =>
            obtain ⟨j, hj, hownj, hnx⟩ := hrel
            have hlen : (s ++ List.replicate j (0 : Wd)).length = s.length + j := by simp
            obtain ⟨pj, cj, rfl, hcj, hmj, _⟩ := (show Set wr _ _ from hownj.sl).open
            rw [hlen] at hownj hcj ⊢
            have hmj2 : cj ≤ 9223372036854775807 := by unfold maxLen at hmj; omega
            by_cases hle : s.length + j ≤ y.toNat / 64
            · have hdl : decide ((s.length : Int) + j ≤ y / 64) = true := decide_eq_true (by omega)
              go_wp2_with (first
                | (at_builtin; refine app1 rfl _ _ _ rfl _ _ _ Tryd.underlying23 info_u64 rfl (by decide) (hnx.alloc _) (hownj.nw ((Nw.refl _).alloc _)) rfl (Sl.new wr [_] _ _ (by simp [maxLen])) rfl (by simp [Value.oneCell']) ?_ ?_; rotate_left; (simp only [ws_length, hlen, List.length_cons, List.length_nil]; omega); intro v1 w1 hown1 hg1 hn1)
                | fail)
              rw [grow_snoc] at hown1
              go_roundw
              case rel => exact ⟨j + 1, Or.inr (by omega), hown1, hn1⟩
              case measure =>
                obtain ⟨p2, c2, rfl, _⟩ := (show Set _ _ _ from hown1.sl).open
                simp; omega
            · have hdl : decide ((s.length : Int) + j ≤ y / 64) = false := decide_eq_false (by omega)
              have HG := hid (show s ++ List.replicate j 0 = grow s y.toNat by unfold grow; congr 2; omega)
              rw [HG.out] at hownj
              have hgl : (grow s y.toNat).length = s.length + j := by rw [← HG.out]; exact hlen
              obtain ⟨g, cg, e1, hg1, _, _⟩ := hownj.opened (by rw [ws_length, hgl]; omega)
              obtain rfl : pj = some ⟨g, 0, none⟩ := by injection e1
              obtain ⟨q1, q2, q3, q4⟩ := own_cell hownj hgl.symm (y / 64).toNat (by rw [hgl]; omega)
              have HP := hid (or_bit (grow s y.toNat) y (by omega))
              have HOJ := hid hownj
              clear e1 hownj
              go_wp2
              refine wp_region_end rfl (by kernel_rfl) (by kernel_rfl) (by kernel_rfl) (by kernel_rfl) (by kernel_rfl) ?_
              dsimp only [List.dropLast]
              iterate 10
                refine Stairs.is ?_ ?_ ?_
                rotate_left 1
                · intro x wR hR hd K hK
                  simp only [Act.put, List.setIfInBounds_toArray, List.set_cons_zero, List.set_cons_succ, Nat.reduceAdd, List.length_nil, List.length_cons, List.nil_append, List.cons_append, Say.ok] at hK ⊢
                  clear hd
                  change Hid _ at hK
                  obtain ⟨hcR, hfR, hzR⟩ := nwc hR
                  first | (refine wanted_yes ?_ ?_; rfl) | (refine wanted_no ?_ ?_; rfl)
                  go_wp2_with (first | fail)
                  all_goals (refine hK.out _ _ ?_ ?_ <;> first | (solve | (repeat (first | assumption | exact Nw.refl _ | refine Nw.alloc ?_ _ | refine Nw.drew ?_ | refine Nw.drewN2 ?_ _ | (refine Nw.trans ?_ (by assumption))))) | exact rfl)
                try simp only [Act.put, List.setIfInBounds_toArray, List.set_cons_zero, List.set_cons_succ, Nat.reduceAdd, List.length_nil, List.length_cons, List.nil_append, List.cons_append]
              refine Stairs.nil ?_
              intro x wR hR hx
              clear hx
              obtain ⟨hcR, hfR, hzR⟩ := nwc hR
              try dsimp only
              go_wp2
              go_roundw
              case rel =>
                have hput := own_put (k := (y / 64).toNat) (HOJ.out.nw hR) hgl.symm (hnx.trans hR) hg1 _ _ HP.out
                rw [setb_at _ _ (by omega)] at hput
                exact ⟨k + 1, by omega, by go_num, by rw [HS.out, if_pos HK.out]; exact hput.1, hput.2⟩
              case measure => simp [intOf]; omega
    · obtain rfl : k = l.length := by omega
      have hdk : decide (l.length < l.length) = false := decide_eq_false (by omega)
      rw [List.take_length, ofg_eq] at hownk
      have HO := hid hownk
      clear hownk
      go_wp2
      go_ret
      exact ⟨_, rfl, HO.out.sl, HO.out.lt, hn⟩
end Words
end Go.Proofs.YteglnekgnbjkoaaDoor
