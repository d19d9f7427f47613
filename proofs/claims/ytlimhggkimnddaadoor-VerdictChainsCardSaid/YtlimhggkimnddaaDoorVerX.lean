/- VerdictChains walked. No condition but what the library's variables hold. -/
import Derived.Test.YtlimhggkimnddaaDoorVerW
import Derived.Test.YtlimhggkimnddaaDoorVerR
set_option linter.unusedSimpArgs false
set_option linter.unusedVariables false
namespace Go.Proofs.YtlimhggkimnddaaDoor
open Go.ChangeShapes Go.WideShapes Go.ChangeAt Go.RowKit
namespace Vd
def hws (ns : List Nat) : List Value := ns.map fun n : Nat => Value.int .u16 (n : Int)
theorem hws_length (ns : List Nat) : (hws ns).length = ns.length := by simp [hws]
theorem hws_cell {w : World} {p : Option Addr} {l : List Nat} (h : Cells w p (hws l)) (i : Nat) (hi : i < l.length) :
    ∃ b off, p = some ⟨b, off, none⟩ ∧ w.cell? ⟨b, off + i, none⟩ = some (.int .u16 ((l.getD i 0 : Nat) : Int)) := by
  obtain ⟨b, off, e, h⟩ := h i (by rw [hws_length]; exact hi)
  refine ⟨b, off, e, ?_⟩
  rw [h]; simp [hws, List.getD_eq_getElem?_getD, hi]
section
variable {H : Type} {enc : TypeId × Value → H} {P : Program}
theorem open_hws {t e : TypeId} {W : World} {base : Nat} {v : Value} {d : DataW H} {p : List MemPlace} (ht : P.underlying t = some (.slice e)) (he : P.underlying e = some (.int .u16)) (hc : P.cellsOf e = 1)
    (hval : Value.okWide P W .any base t v) (hj : DataW.Trod enc P W 0 (fun _ => true) true t v d p) :
    ∃ ns : List Nat, Sl W v (hws ns) ∧ (∀ n ∈ ns, n ≤ 65535) := by
  obtain ⟨zs, h1, h2, sp, h3⟩ := open_sl ht he hc hval hj
  refine ⟨zs.map Int.toNat, ?_, fun n hn => ?_⟩
  · have e : zs.map (Value.int .u16) = hws (zs.map Int.toNat) := by
      unfold hws
      rw [List.map_map]
      refine List.map_congr_left fun z hz => ?_
      have := bounds_u16 (h2 z hz)
      simp only [Function.comp_apply]
      congr 1; omega
    rwa [e] at h1
  · obtain ⟨z, hz, rfl⟩ := List.mem_map.1 hn
    have := bounds_u16 (h2 z hz)
    omega
end
/-- Cells of items, one by one. -/
theorem IC.cells {w : World} {p : Option Addr} {l : List It} (h : IC w p l) : Cells w p (itl l) := fun j hj => by
  have hj4 := hj
  rw [itl_len] at hj4
  obtain ⟨q, r, rfl, hr⟩ : ∃ q r, j = q * 4 + r ∧ r < 4 := ⟨j / 4, j % 4, by omega, by omega⟩
  have hq : q < l.length := by omega
  have hx : l[q]? = some l[q] := by simp [hq]
  obtain ⟨b, oo, e, h0, h1, h2, h3⟩ := h q _ hx
  obtain ⟨k0, k1, k2, k3⟩ := itl_at l q _ hx
  refine ⟨b, oo, e, ?_⟩
  have hg : ∀ (i : Nat) (u : Value) (hi : i < (itl l).length), (itl l)[i]? = some u → (itl l)[i]'hi = u := fun i u hi e => by rw [List.getElem?_eq_getElem hi] at e; exact Option.some.inj e
  match r, hr with
  | 0, _ => exact h0.trans (congrArg some (hg _ _ hj k0).symm)
  | 1, _ => rw [hg _ _ _ k1, ← Nat.add_assoc]; exact h1
  | 2, _ => rw [hg _ _ _ k2, ← Nat.add_assoc]; exact h2
  | 3, _ => rw [hg _ _ _ k3, ← Nat.add_assoc]; exact h3
theorem itl_one (l : List It) : ∀ u ∈ itl l, u.oneCell' = true := fun u hu => by
  obtain ⟨x, _, hx⟩ := List.mem_flatMap.1 hu
  simp only [itc, List.mem_cons, List.not_mem_nil, or_false] at hx
  rcases hx with rfl | rfl | rfl | rfl <;> rfl
theorem IOwn.opened {w : World} {B : Nat} {v : Value} {l : List It} (h : IOwn w B v l) (h0 : 0 < l.length) : ∃ g cap, v = .slice (some ⟨g, 0, none⟩) l.length cap ∧ B ≤ g ∧ l.length ≤ cap ∧ cap ≤ maxLen := by
  rcases h.2 with ⟨_, hn⟩ | ⟨g, cap, cur, rfl, hb, hg, hn, hm, hs, ht⟩
  · omega
  · exact ⟨g, cap, rfl, hb, hn, hm⟩
theorem IOwn.ic {w : World} {B g n cap : Nat} {l : List It} (h : IOwn w B (.slice (some ⟨g, 0, none⟩) n cap) l) : IC w (some ⟨g, 0, none⟩) l := by
  obtain ⟨p, c, e, _, _, _, hc⟩ := h.its
  cases e
  exact hc
theorem IOwn.new0 (w : World) (B g : Nat) (hg : g = w.heap.size) (hb : B ≤ w.heap.size) : IOwn (w.alloc (.cells #[] 30)) B (.slice (some ⟨g, 0, none⟩) 0 0) [] := by
  subst hg
  have := World.ownsRow_lit (e := 30) (size := 4) w #[] 0 hb (Nat.zero_le _) (by simp)
  simpa [IOwn, itl] using this
theorem Its.drop {w : World} {g n cap t : Nat} {l : List It} (h : IC w (some ⟨g, 0, none⟩) l) (hl : l.length = n) (ht : t < n) (hc : n ≤ cap) (hm : cap ≤ maxLen) : Its w (.slice (some ⟨g, t * 4, none⟩) (n - t) (cap - t)) (l.drop t) := by
  subst hl
  refine ⟨_, _, by rw [List.length_drop], by rw [List.length_drop]; omega, by omega, (fun h => by cases h), fun i x hx => ?_⟩
  rw [List.getElem?_drop] at hx
  obtain ⟨b, oo, e, h0, h1, h2, h3⟩ := h _ _ hx
  cases e
  refine ⟨_, _, rfl, ?_, ?_, ?_, ?_⟩
  · rw [show t * 4 + i * 4 = 0 + (t + i) * 4 by omega]; exact h0
  · rw [show t * 4 + i * 4 + 1 = 0 + (t + i) * 4 + 1 by omega]; exact h1
  · rw [show t * 4 + i * 4 + 2 = 0 + (t + i) * 4 + 2 by omega]; exact h2
  · rw [show t * 4 + i * 4 + 3 = 0 + (t + i) * 4 + 3 by omega]; exact h3
theorem Its.drop1 {w : World} {b o n cap : Nat} {l : List It} (h : IC w (some ⟨b, o, none⟩) l) (hl : l.length = n) (ht : 0 < n) (hc : n ≤ cap) (hm : cap ≤ maxLen) (_ : ¬ cap = 1) : Its w (.slice (some ⟨b, o + 4, none⟩) (n - 1) (cap - 1)) (l.drop 1) := by
  subst hl
  refine ⟨_, _, by rw [List.length_drop], by rw [List.length_drop]; omega, by omega, (fun h => by cases h), fun i x hx => ?_⟩
  rw [List.getElem?_drop] at hx
  obtain ⟨b', oo, e, h0, h1, h2, h3⟩ := h _ _ hx
  cases e
  refine ⟨_, _, rfl, ?_, ?_, ?_, ?_⟩
  · rw [show o + 4 + i * 4 = o + (1 + i) * 4 by omega]; exact h0
  · rw [show o + 4 + i * 4 + 1 = o + (1 + i) * 4 + 1 by omega]; exact h1
  · rw [show o + 4 + i * 4 + 2 = o + (1 + i) * 4 + 2 by omega]; exact h2
  · rw [show o + 4 + i * 4 + 3 = o + (1 + i) * 4 + 3 by omega]; exact h3
theorem Its.take {w : World} {g n cap t : Nat} {l : List It} (h : IC w (some ⟨g, 0, none⟩) l) (hl : l.length = n) (ht : t < n) (hc : n ≤ cap) (hm : cap ≤ maxLen) : Its w (.slice (some ⟨g, 0, none⟩) t cap) (l.take t) := by
  subst hl
  have e : (l.take t).length = t := by rw [List.length_take]; omega
  refine ⟨some ⟨g, 0, none⟩, cap, by rw [e], by omega, hm, (fun h => by cases h), fun i x hx => ?_⟩
  rw [List.getElem?_take] at hx
  split at hx
  · exact h _ _ hx
  · cases hx
/-- 's = append(s, x...)' for items, s of the call's own. -/
theorem appIs {w : World} {ops : Array Oper} {rest : List Oper} {o : Oper} {a : Act} {Q : Exit → Act → World → Prop} (hgd : o.guard = none) (s x : Operand) (t : TypeId) (ho : o.op = .call { callee := .builtin .append, args := #[s, x], argTypes := #[t, t] })
    (ht : Tryd.prog.underlying t = some (.slice 30)) {B : Nat} {v : Value} {l m : List It} (hown : IOwn w B v l) (hB : B ≤ w.heap.size) (hs : a.eval s = v) {u : Value} (hu : Its w u m) (hx : a.eval x = u)
    (h : ∀ v' w', IOwn w' B v' (l ++ m) → Mods (B ≤ ·) w w' → wpList Tryd.prog ops Q rest (a.put o.dst v') w') (h63 : l.length + m.length ≤ 1099511627776) : wpList Tryd.prog ops Q (o :: rest) a w := by
  obtain ⟨i, hi, hz0, hz1, hz2⟩ := info_parts info_item
  obtain ⟨p, cap, rfl, hcap, hmx, hnone, hc⟩ := hu
  cases p with
  | none =>
    obtain rfl := hnone rfl
    obtain rfl : m = [] := by cases m with | nil => rfl | cons y r => simp at hcap
    refine wpList_append_own_none hgd s x t ho B 30 i 4 ht hi v l.length (itl l) hs hown hx ?_
    exact h v w (by simpa using hown) (Mods.refl _ _)
  | some ad =>
    have hcs := hc.cells
    refine wpList_append_own (w := w) hgd s x t ho B 30 i _ 4 32 ht hi hz0 hz1 hz2 rfl (by decide) v l.length (itl l) hs hown ad m.length cap (itl m) hx (itl_len m) (fun j y hj => ?_) (itl_one m) (by unfold maxLen; omega) (by omega) hB (fun v' w' h2 h3 _ => ?_)
    · obtain ⟨hjl, rfl⟩ := List.getElem?_eq_some_iff.1 hj
      obtain ⟨b, off, e1, hcell⟩ := hcs j hjl
      cases e1
      rw [addr_add]; exact hcell
    · refine h v' w' ?_ ⟨h3.os, h3.tape, h3.output, h3.size, fun k hk hs => h3.block k hk (fun e => hs ((World.ownsRow.lt hown k e.symm).1))⟩
      unfold IOwn
      rw [itl_app, List.length_append]
      exact h2
theorem wp_append_run {P : Program} {w w' : World} {o : Oper} {a : Act} {K : Act → World → Prop} {Q : Exit → Act → World → Prop} {s x : Operand} {t : TypeId} (ho : o.op = .call { callee := .builtin .append, args := #[s, x], argTypes := #[t, t] })
    {v u v' : Value} (hs : a.eval s = v) (hx : a.eval x = u) (hr : (Builtin.append_ #[t, t] o.type #[v, u]).run P w = .ok v' w') (hK : K (a.put o.dst v') w') : o.wp P a w K Q := by
  unfold Oper.wp execOp
  simp only [ho, resolve, invoke, builtin, Sem.run_bind, Sem.run_pure, Result.andThen_ok, List.map_toArray, List.map_cons, List.map_nil, hs, hx, hr]
  exact hK
/-- the same as one step of a region that draws. -/
theorem step_appIs {w : World} {ops : Array Oper} {o : Oper} {a : Act} {K : Act → World → Prop} {Q : Exit → Act → World → Prop} {E : Prop} (hgd : o.guard = none) (s x : Operand) (t : TypeId) (ho : o.op = .call { callee := .builtin .append, args := #[s, x], argTypes := #[t, t] })
    (ht : Tryd.prog.underlying t = some (.slice 30)) {B : Nat} {v : Value} {l m : List It} (hown : IOwn w B v l) (hB : B ≤ w.heap.size) (hs : a.eval s = v) {u : Value} (hu : Its w u m) (hx : a.eval x = u) (h63 : l.length + m.length ≤ 1099511627776)
    (h : ∀ v' w', IOwn w' B v' (l ++ m) → Mods (B ≤ ·) w w' → w.grownBy w' v.ownBlock → K (a.put o.dst v') w') : if Region.wanted o (yielded ops a.tmps) = true then Oper.wp Tryd.prog o a w K Q else E := by
  have hw : Region.wanted o (yielded ops a.tmps) = true := by simp [Region.wanted, hgd]
  rw [if_pos hw]
  obtain ⟨i, hi, hz0, hz1, hz2⟩ := info_parts info_item
  obtain ⟨p, cap, rfl, hcap, hmx, hnone, hc⟩ := hu
  cases p with
  | none =>
    obtain rfl := hnone rfl
    obtain rfl : m = [] := by cases m with | nil => rfl | cons y r => simp at hcap
    have hr : (Builtin.append_ #[t, t] o.type #[v, .slice none 0 0]).run Tryd.prog w = .ok v w := by
      obtain ⟨q, c, rfl, hlc, _⟩ := hown.its
      have hlc2 : ¬ c < l.length := by omega
      cases q <;> simp [hlc2, Builtin.append_, run_underlying ht, sizeOf, typeInfo, hi, Builtin.lenOf, Builtin.firstCells, storeCells, loadCells, loadCellsFrom]
    exact wp_append_run ho hs hx hr (h v w (by simpa using hown) (Mods.refl _ _) (World.grownBy.refl _ _))
  | some ad =>
    have hcs := hc.cells
    obtain ⟨v', w', hr, h2, h3, h4⟩ := run_append_own (P := Tryd.prog) w B t o.type 30 i _ 4 32 ht hi hz0 hz1 hz2 rfl (by decide) v l.length (itl l) hown ad m.length cap (itl m) (itl_len m) (fun j y hj => by
      obtain ⟨hjl, rfl⟩ := List.getElem?_eq_some_iff.1 hj
      obtain ⟨b, off, e1, hcell⟩ := hcs j hjl
      cases e1
      rw [addr_add]; exact hcell) (itl_one m) (by unfold maxLen; omega) (by omega) hB
    refine wp_append_run ho hs hx hr (h v' w' ?_ ⟨h3.os, h3.tape, h3.output, h3.size, fun k hk hs => h3.block k hk (fun e => hs ((World.ownsRow.lt hown k e.symm).1))⟩ h3)
    unfold IOwn
    rw [itl_app, List.length_append]
    exact h2
theorem its1 {w : World} {g : Nat} {x : It} {t : TypeId} {fr : Nat × Nat} (h : w.heap[g]? = some (.cells #[.int .i64 x.1, .int .i64 x.2.1, .bool x.2.2.1, .int .i64 x.2.2.2] t fr)) : Its w (.slice (some ⟨g, 0, none⟩) 1 1) [x] := by
  refine ⟨_, 1, rfl, Nat.le_refl _, by decide, (fun h => by cases h), fun i y hx => ⟨g, 0, rfl, ?_⟩⟩
  match i, hx with
  | 0, hx => cases hx; exact ⟨heap_cell h _, heap_cell h _, heap_cell h _, heap_cell h _⟩
  | i + 1, hx => cases hx
theorem alloc_at {w : World} {g : Nat} {o : Obj} (hg : g = w.heap.size) : (w.alloc o).heap[g]? = some o := by
  subst hg
  exact heap_alloc_new w o
theorem res_call {n : Int} {l : List It} {bs : List Bool} {z : Int} (h : res n l = (bs, z)) (hr : ∀ x ∈ l, Rg x) (hl : l.length ≤ 1000) (hn : -9223372036854775808 ≤ n ∧ n ≤ 9223372036854775807) (w : World) (v : Value) (hv : Its w v l) :
    Calls Tryd.prog 15 #[.int .i64 n, v] w (fun e w' => ∃ v', e = .returned (.tuple #[v', .int .i64 z]) ∧ Sl w' v' (bls bs) ∧ Nw w w') := by
  have := resolve_c n v l w hv hr (by omega) hn
  rw [h] at this
  exact this
theorem chn_eq (ns : List Nat) (n i m : Nat) (h : ns.getD i 0 = m) : chn ns n i = if 0 < m % 3 ∧ i + 1 < n then (2, (i : Int), false, ((i + 1 + m / 6 % (n - i - 1) : Nat) : Int)) else (1, (i : Int), decide (m % 2 = 1), 0) := by
  subst h; rfl
theorem chs_take (ns : List Nat) (n k : Nat) (h : k < n) : (chs ns n).take (k + 1) = (chs ns n).take k ++ [chn ns n k] := by
  rw [List.take_add_one, chs_at h]; rfl
set_option maxRecDepth 20000 in
set_option maxHeartbeats 4000000 in
theorem chains_walk (v : Value) (ns : List Nat) (tn : Nat) (w : World) (hm : Mx w) (ht : Tab w) (hv : Sl w v (hws ns)) (hns : ∀ n ∈ ns, n ≤ 65535) (htn : (tn : Int) ≤ 255) :
    Calls Tryd.prog 8 #[v, .int .u8 (tn : Int)] w (Gives (.bool true) w) := by
  have HA := hid (fun w' (h : Nw w w') => awake_c w' (hm.nw h) (ht.nw h))
  obtain ⟨p, cap, rfl, hcap, hmx, hp0, hcs⟩ := hv.open (hws_length ns)
  have HC := hid hcs
  clear hcs hv
  obtain ⟨n, hn⟩ : ∃ n : Nat, n = min ns.length 60 := ⟨_, rfl⟩
  have hn60 : n ≤ 60 := by omega
  have hnl : n ≤ ns.length := by omega
  have hmin : min (ns.length : Int) 60 = (n : Int) := by omega
  clear hn
  go_enter Tryd.func8, Tryd.ntmps8
  go_wp2
  go_loopw [6, 7, 8, 25] (fun lv _ _ i wr => ∃ k : Nat, k ≤ n ∧ i = .int .i64 k ∧ IOwn wr w.heap.size lv ((chs ns n).take k) ∧ Nw w wr) (fun _ _ _ i _ => n - (intOf i).toNat)
  case atStart => exact ⟨0, Nat.zero_le _, rfl, IOwn.nil _ _, Nw.refl _⟩
  case round =>
    obtain ⟨k, hk, rfl, hown, hnr⟩ := hrel
    have hsz := hnr.size
    by_cases hlt : k < n
    · obtain ⟨qk, cqk, rfl, _⟩ := hown.its.open rfl
      have hdk : decide (k < n) = true := decide_eq_true hlt
      have hki : (k : Int) < ns.length := by omega
      obtain ⟨b0, o0, rfl, c0⟩ := hws_cell (HC.out.nw hnr) k (by omega)
      have hz := World.block_lt_of_cell? wr _ c0
      simp only at hz
      have HX := hid (chs_take ns n k hlt)
      have hm65 : ns.getD k 0 ≤ 65535 := by
        rw [List.getD_eq_getElem?_getD, List.getElem?_eq_getElem (show k < ns.length by omega)]
        exact hns _ (List.getElem_mem _)
      have HCN := hid (chn_eq ns n k _ rfl)
      have HO := hid hown
      have hlk : ((chs ns n).take k).length ≤ 60 := by rw [List.length_take, chs_len]; omega
      clear hown
      generalize (chs ns n).take k = kp at *
      generalize ns.getD k 0 = m at *
      obtain ⟨a2, ha2⟩ : ∃ a, m % 2 = a := ⟨_, rfl⟩
      obtain ⟨a3, ha3⟩ : ∃ a, m % 3 = a := ⟨_, rfl⟩
      have e2 : (m : Int).tmod 2 = (a2 : Int) := by rw [Int.tmod_eq_emod_of_nonneg (by omega)]; omega
      have e3 : (m : Int).tmod 3 = (a3 : Int) := by rw [Int.tmod_eq_emod_of_nonneg (by omega)]; omega
      have f2 : (m : Int) % 2 = (a2 : Int) := by omega
      have f3 : (m : Int) % 3 = (a3 : Int) := by omega
      obtain ⟨bb, hbb⟩ : ∃ bb, ((a2 : Int) == 1) = bb := ⟨_, rfl⟩
      have hbd : decide (a2 = 1) = bb := by rw [← hbb, Bool.eq_iff_iff]; simp; omega
      rw [ha2, ha3, hbd] at HCN
      clear ha2 ha3 hbd
      by_cases h3 : 0 < a3
      · have d3 : decide ((0 : Int) < a3) = true := decide_eq_true (by omega)
        have d3' : decide (0 < a3) = true := decide_eq_true h3
        by_cases h4 : k + 1 < n
        · have d4 : decide ((k : Int) + 1 < n) = true := decide_eq_true (by omega)
          have d4' : decide (k + 1 < n) = true := decide_eq_true h4
          obtain ⟨q, hq⟩ : ∃ q, m / 6 % (n - k - 1) = q := ⟨_, rfl⟩
          obtain ⟨d6, hd6⟩ : ∃ d, m / 6 = d := ⟨_, rfl⟩
          have hqn := Nat.mod_lt (m / 6) (show 0 < n - k - 1 by omega)
          have e6 : (m : Int).tdiv 6 = (d6 : Int) := by rw [Int.tdiv_eq_ediv_of_nonneg (by omega)]; omega
          have f6 : (m : Int) / 6 = (d6 : Int) := by omega
          have fq : (d6 : Int) % ((n : Int) - k - 1) = (q : Int) := by rw [← hq, ← hd6, show (n : Int) - k - 1 = ((n - k - 1 : Nat) : Int) by omega]; norm_cast
          have eq : (d6 : Int).tmod ((n : Int) - k - 1) = (q : Int) := by rw [Int.tmod_eq_emod_of_nonneg (by omega)]; exact fq
          have hd0 : (((n : Int) - k - 1) == 0) = false := beq_eq_false_iff_ne.2 (by omega)
          have hdn : (n : Int) - k - 1 ≠ 0 := by omega
          have hd65 : d6 ≤ 65535 := by omega
          have HN := hid (HCN.out.trans (if_pos ⟨h3, h4⟩))
          rw [hq] at HN hqn
          clear HCN h3 h4 hd6 hq
          go_wp2_with (first
            | (at_builtin; refine appI rfl _ _ _ rfl Tryd.underlying22 (2, (k : Int), false, ((k + 1 + q : Nat) : Int)) rfl (IOwn.nw HO.out ((Nw.refl wr).alloc _)) (Nat.le_trans hsz ((Nw.refl wr).alloc _).size) rfl rfl (by simp) ?_ (by omega); intro v4 w4 ho4 hm4)
            | fail)
          have hn4 : Nw w w4 := Nw.ofMods (hnr.alloc _) hm4 (fun k hk => hk)
          obtain ⟨q4, c4, e4, _⟩ := ho4.its.open rfl
          refine ⟨⟨k + 1, by omega, by go_num, by rw [HX.out, HN.out]; exact ho4, hn4⟩, ?_⟩
          simp [intOf]; omega
        · have d4 : decide ((k : Int) + 1 < n) = false := decide_eq_false (by omega)
          have d4' : decide (k + 1 < n) = false := decide_eq_false h4
          have HN := hid (HCN.out.trans (if_neg (fun q => h4 q.2)))
          clear HCN h3 h4
          go_wp2_with (first
            | (at_builtin; refine appI rfl _ _ _ rfl Tryd.underlying22 (1, (k : Int), bb, 0) rfl (IOwn.nw HO.out ((Nw.refl wr).alloc _)) (Nat.le_trans hsz ((Nw.refl wr).alloc _).size) rfl rfl (by simp) ?_ (by omega); intro v4 w4 ho4 hm4)
            | fail)
          have hn4 : Nw w w4 := Nw.ofMods (hnr.alloc _) hm4 (fun k hk => hk)
          obtain ⟨q4, c4, e4, _⟩ := ho4.its.open rfl
          go_roundw
          case rel => exact ⟨k + 1, by omega, by go_num, by rw [HX.out, HN.out]; exact ho4, hn4⟩
          case measure => simp [intOf]; omega
      · have d3 : decide ((0 : Int) < a3) = false := decide_eq_false (by omega)
        have d3' : decide (0 < a3) = false := decide_eq_false h3
        have HN := hid (HCN.out.trans (if_neg (fun q => h3 q.1)))
        clear HCN h3
        go_wp2_with (first
          | (at_builtin; refine appI rfl _ _ _ rfl Tryd.underlying22 (1, (k : Int), bb, 0) rfl (IOwn.nw HO.out ((Nw.refl wr).alloc _)) (Nat.le_trans hsz ((Nw.refl wr).alloc _).size) rfl rfl (by simp) ?_ (by omega); intro v4 w4 ho4 hm4)
          | fail)
        have hn4 : Nw w w4 := Nw.ofMods (hnr.alloc _) hm4 (fun k hk => hk)
        obtain ⟨q4, c4, e4, _⟩ := ho4.its.open rfl
        go_roundw
        case rel => exact ⟨k + 1, by omega, by go_num, by rw [HX.out, HN.out]; exact ho4, hn4⟩
        case measure => simp [intOf]; omega
    · obtain rfl : k = n := by omega
      have hdk : decide (k < k) = false := decide_eq_false (Nat.lt_irrefl _)
      have hlen := chs_len ns k
      rw [List.take_of_length_le (by omega)] at hown
      clear hlt hk HC hmin hnl hp0
      by_cases hk0 : k = 0
      · subst hk0
        obtain ⟨q0, c0, rfl, _, _, hq0, _⟩ := hown.its.open (n := 0) hlen
        have HR0 := hid (fun w' g => res_call (show res (0 : Int) [] = ([], 0) from mix_res ns 0 0) (fun x h => by cases h) (by decide) (by decide) w' (.slice (some ⟨g, 0, none⟩) 0 0) ⟨_, 0, rfl, Nat.le_refl _, Nat.zero_le _, (fun h => by cases h), fun i x h => by cases h⟩)
        cases q0 with
        | none =>
          obtain rfl := hq0 rfl
          go_upto_region 14 with fail
          go_region
          go_wp2_with (first
            | (go_at_call 15; refine (HR0.out _ wr.heap.size).mono ?_; rintro e w3 ⟨v3, rfl, hs3, hn3⟩; obtain ⟨q3, c3, rfl, _⟩ := hs3.open (n := 0) (bls_length []))
            | fail)
          have hw3 : Nw w w3 := (by repeat (first | assumption | exact Nw.refl _ | refine Nw.alloc ?_ _ | refine Nw.drew ?_ | refine Nw.drewN2 ?_ _ | (refine Nw.trans ?_ (by assumption))))
          go_loopw [13, 14, 100] (fun _ _ i w4 => i = .int .i64 0 ∧ Nw w3 w4) (fun _ _ i _ => 0)
          case atStart => exact ⟨rfl, Nw.refl _⟩
          case round =>
            obtain ⟨rfl, hnr4⟩ := hrel
            go_wp2_with (first
              | (go_at_call 11; refine (HA.out _ (hw3.trans hnr4)).mono ?_; rintro e w11 ⟨rfl, hn11⟩)
              | fail)
            go_ret
            exact ⟨rfl, hw3.trans (hnr4.trans hn11)⟩
        | some a0 =>
          go_upto_region 14 with fail
          go_region
          go_wp2_with (first
            | (go_at_call 15; refine (HR0.out _ wr.heap.size).mono ?_; rintro e w3 ⟨v3, rfl, hs3, hn3⟩; obtain ⟨q3, c3, rfl, _⟩ := hs3.open (n := 0) (bls_length []))
            | fail)
          have hw3 : Nw w w3 := (by repeat (first | assumption | exact Nw.refl _ | refine Nw.alloc ?_ _ | refine Nw.drew ?_ | refine Nw.drewN2 ?_ _ | (refine Nw.trans ?_ (by assumption))))
          go_loopw [13, 14, 100] (fun _ _ i w4 => i = .int .i64 0 ∧ Nw w3 w4) (fun _ _ i _ => 0)
          case atStart => exact ⟨rfl, Nw.refl _⟩
          case round =>
            obtain ⟨rfl, hnr4⟩ := hrel
            go_wp2_with (first
              | (go_at_call 11; refine (HA.out _ (hw3.trans hnr4)).mono ?_; rintro e w11 ⟨rfl, hn11⟩)
              | fail)
            go_ret
            exact ⟨rfl, hw3.trans (hnr4.trans hn11)⟩
      · obtain ⟨t, ht0⟩ : ∃ t, tn % k = t := ⟨_, rfl⟩
        have htk : t < k := by rw [← ht0]; exact Nat.mod_lt _ (by omega)
        have f1 : (tn : Int) % (k : Int) = (t : Int) := by rw [← ht0]; norm_cast
        have f2 : (tn : Int).tmod (k : Int) = (t : Int) := by rw [Int.tmod_eq_emod_of_nonneg (by omega)]; exact f1
        have g0 : ((k : Int) == 0) = false := beq_eq_false_iff_ne.2 (by omega)
        have g1 : (k : Int) ≠ 0 := by omega
        have g2 : decide ((0 : Int) < k) = true := decide_eq_true (by omega)
        have g3 : decide (0 < k) = true := decide_eq_true (by omega)
        have HML := hid (mix_len ns k t)
        have HMR := hid (mix_rg ns (k := t) hn60)
        have HMD := hid (show mix ns k t = (chs ns k).drop t ++ (chs ns k).take t from rfl)
        generalize hL : chs ns k = L at *
        obtain ⟨g, cq, rfl, hBg, hkc, hcm⟩ := hown.opened (by omega)
        rw [hlen] at hown hkc ⊢
        have HI := hid hown.ic
        have HO := hid hown
        clear hown
        go_upto_region 14 with fail
        have y1 : t ≤ k := by omega
        have y2 : ¬ cq = t := by omega
        have y3 : t ≤ cq := by omega
        go_region_law? (first
          | (refine step_appIs rfl (.tmp 75) (.tmp 78) _ rfl Tryd.underlying22 (v := .slice (some ⟨wr.heap.size, 0, none⟩) 0 0) (u := .slice (some ⟨g, t * 4, none⟩) (k - t) (cq - t)) (IOwn.new0 wr wr.heap.size wr.heap.size rfl (Nat.le_refl _)) ((Nw.refl wr).alloc _).size (by simp [Act.eval, Act.put]) (Its.drop (HI.out.nw (by repeat (first | assumption | exact Nw.refl _ | refine Nw.alloc ?_ _ | refine Nw.drew ?_ | refine Nw.drewN2 ?_ _ | (refine Nw.trans ?_ (by assumption))))) hlen htk hkc hcm) (by simp [Act.eval, Act.put]) (by simp; omega) ?_; intro v1 w1 ho1 hm1 _; obtain ⟨q1, c1, rfl, _⟩ := ho1.its.open (n := k - t) (by simp; omega); have hn1 : Nw wr w1 := Nw.ofMods (by exact (by repeat (first | assumption | exact Nw.refl _ | refine Nw.alloc ?_ _ | refine Nw.drew ?_ | refine Nw.drewN2 ?_ _ | (refine Nw.trans ?_ (by assumption))))) hm1 (fun k hk => hk))
          | (refine step_appIs rfl (.tmp 79) (.tmp 82) _ rfl Tryd.underlying22 (v := .slice q1 (k - t) c1) (u := .slice (some ⟨g, 0, none⟩) t cq) ho1 hn1.size (by simp [Act.eval, Act.put]) (Its.take (HI.out.nw hn1) hlen htk hkc hcm) (by simp [Act.eval, Act.put]) (by simp; omega) ?_; intro v2 w2 ho2 hm2 _; rw [List.nil_append, ← HMD.out] at ho2; obtain ⟨q2, c2, rfl, hmc, hcm2, _, HIM⟩ := ho2.its.open HML.out; have hn2 : Nw wr w2 := Nw.ofMods hn1 hm2 (fun k hk => hk))
          | fail)
        have hw2 : Nw w w2 := hnr.trans hn2
        have HI2 := hid (HI.out.nw hn2)
        have HM2 := hid (show Its w2 (.slice q2 k c2) (mix ns k t) from ⟨q2, c2, by rw [HML.out], by rw [HML.out]; exact hmc, hcm2, by assumption, HIM⟩)
        clear HO HI ho1 hm1 ho2 hm2 hn1
        have HVL := hid (vals_len (mix ns k t) k)
        have HVB := hid (fun i b q (hi : i < k) hx => mix_bool ns k t (i := i) (b := b) (q := q) hi hx)
        have HVE := hid (fun i b q (hi : i < k) hx => mix_like ns k t (i := i) (b := b) (q := q) hi hx)
        have HR1 := hid (fun w' v h => res_call (mix_res ns k t) HMR.out (by rw [HML.out]; omega) (by omega) w' v h)
        have HR2 := hid (fun w' v h => res_call (mix_few ns k t (by omega)) (fun x hx => HMR.out x (List.mem_of_mem_drop hx)) (by rw [List.length_drop, HML.out]; omega) (by omega) w' v h)
        have HR4 := hid (fun w' v h => res_call (mix_less ns k t (by omega)) HMR.out (by rw [HML.out]; omega) (by omega) w' v h)
        obtain ⟨x0, hx0⟩ : ∃ x0, (mix ns k t)[0]? = some x0 := ⟨(mix ns k t)[0]'(by rw [HML.out]; omega), List.getElem?_eq_getElem _⟩
        have HR3 := hid (fun w' v h => res_call (mix_twice ns k t hx0) (fun x hx => (List.mem_append.1 hx).elim (HMR.out x) (fun h => by rw [List.mem_singleton.1 h]; exact HMR.out x0 (List.mem_of_getElem? hx0))) (by rw [List.length_append, HML.out, List.length_singleton]; omega) (by omega) w' v h)
        have HX0 := hid hx0
        have HLI := hid (fun i (hi : i < k) => show L[i]? = some (chn ns k i) by rw [← hL]; exact chs_at hi)
        clear hx0 HMR HMD
        generalize vals (mix ns k t) k = VS at *
        go_upto_region 18 with (first
          | (go_at_call 15; refine (HR1.out _ _ HM2.out).mono ?_; rintro e w3 ⟨v3, rfl, hs3, hn3⟩; obtain ⟨q3, c3, rfl, hv1, hv2, _, hv4⟩ := hs3.open ((bls_length VS).trans HVL.out))
          | fail)
        obtain ⟨b3, o3, rfl, -⟩ := bls_cell hv4 (i := 0) (x := VS[0]'(by rw [HVL.out]; omega)) (List.getElem?_eq_getElem _)
        obtain ⟨b2, o2, rfl, -⟩ := HIM 0 x0 HX0.out
        have HV4 := hid hv4
        have hw3 : Nw w w3 := hw2.trans hn3
        have HI3 := hid (HI2.out.nw hn3)
        have HM3 := hid (HM2.out.nw hn3)
        have HIM3 := hid (HIM.nw hn3)
        clear HI2 HM2 HIM hv4 hs3 hw2 hn3 hn2 hnr hsz
        go_wp2
        go_loopw [13, 14, 100] (fun _ _ i w4 => ∃ j : Nat, j ≤ k ∧ i = .int .i64 j ∧ Nw w3 w4) (fun _ _ i _ => k - (intOf i).toNat)
        case atStart => exact ⟨0, Nat.zero_le _, rfl, Nw.refl _⟩
        case round =>
          obtain ⟨j, hj, rfl, hnr⟩ := hrel
          by_cases hlt : j < k
          · have hdj : decide (j < k) = true := decide_eq_true hlt
            have hji : (j : Int) < k := by omega
            have hx := HLI.out j hlt
            have HVBj := HVB.out j
            have HVEj := HVE.out j
            obtain ⟨m, hm⟩ : ∃ m, ns.getD j 0 = m := ⟨_, rfl⟩
            have hce := chn_eq ns k j m hm
            by_cases h5 : 0 < m % 3 ∧ j + 1 < k
            · have hqn := Nat.mod_lt (m / 6) (show 0 < k - j - 1 by omega)
              rw [if_pos h5] at hce
              generalize m / 6 % (k - j - 1) = q at *
              have hvj := HVEj _ _ hlt hce
              rw [hce] at hx
              obtain ⟨_, _, e0, c0, c1, c2, c3⟩ := (HI3.out.nw hnr) j _ hx
              cases e0
              simp only [Nat.zero_add] at c0 c1 c2 c3
              have hz := World.block_lt_of_cell? _ _ c0
              simp only at hz
              have hqk : j + 1 + q < k := by omega
              have hqi : ((j : Int) + 1 + (q : Int)) < k := by omega
              obtain ⟨_, _, e3, d0⟩ := bls_cell (HV4.out.nw hnr) (i := j) (x := VS.getD j false) (by rw [List.getD_eq_getElem?_getD, List.getElem?_eq_getElem (show j < VS.length by rw [HVL.out]; omega)]; rfl)
              cases e3
              obtain ⟨_, _, e3, d1⟩ := bls_cell (HV4.out.nw hnr) (i := j + 1 + q) (x := VS.getD (j + 1 + q) false) (by rw [List.getD_eq_getElem?_getD, List.getElem?_eq_getElem (show j + 1 + q < VS.length by rw [HVL.out]; omega)]; rfl)
              cases e3
              have hz3 := World.block_lt_of_cell? _ _ d0
              simp only at hz3
              rw [← hvj] at d1
              generalize VS.getD j false = vb at *
              have hnb : (vb != vb) = false := by cases vb <;> rfl
              clear HVBj HVEj hce hx h5 hm hvj
              go_upto_region 21 with fail
              go_quiet (fail)
              go_wp2
              go_roundw
              case rel => exact ⟨j + 1, by omega, by go_num, (by repeat (first | assumption | exact Nw.refl _ | refine Nw.alloc ?_ _ | refine Nw.drew ?_ | refine Nw.drewN2 ?_ _ | (refine Nw.trans ?_ (by assumption))))⟩
              case measure => simp [intOf]; omega
            · rw [if_neg h5] at hce
              have hvj := HVBj _ _ hlt hce
              rw [hce] at hx
              obtain ⟨_, _, e0, c0, c1, c2, c3⟩ := (HI3.out.nw hnr) j _ hx
              cases e0
              simp only [Nat.zero_add] at c0 c1 c2 c3
              have hz := World.block_lt_of_cell? _ _ c0
              simp only at hz
              obtain ⟨_, _, e3, d0⟩ := bls_cell (HV4.out.nw hnr) (i := j) (x := VS.getD j false) (by rw [List.getD_eq_getElem?_getD, List.getElem?_eq_getElem (show j < VS.length by rw [HVL.out]; omega)]; rfl)
              cases e3
              have hz3 := World.block_lt_of_cell? _ _ d0
              simp only at hz3
              rw [hvj] at d0
              generalize decide (m % 2 = 1) = vb at *
              have hnb : (vb != vb) = false := by cases vb <;> rfl
              clear HVBj HVEj hce hx h5 hm hvj
              go_upto_region 21 with fail
              go_quiet (fail)
              go_wp2
              go_roundw
              case rel => exact ⟨j + 1, by omega, by go_num, (by repeat (first | assumption | exact Nw.refl _ | refine Nw.alloc ?_ _ | refine Nw.drew ?_ | refine Nw.drewN2 ?_ _ | (refine Nw.trans ?_ (by assumption))))⟩
              case measure => simp [intOf]; omega
          · obtain rfl : j = k := by omega
            have hdj : decide (j < j) = false := decide_eq_false (Nat.lt_irrefl _)
            have hw5 : Nw w wr := hw3.trans hnr
            have HM5 := hid (HM3.out.nw hnr)
            have HIM5 := hid (HIM3.out.nw hnr)
            have hjp : 0 < j := by omega
            by_cases hc1 : c2 = 1
            · subst hc1
              obtain rfl : j = 1 := by omega
              have HS5 := hid (show Its wr (.slice (some ⟨b2, o2, none⟩) 0 0) ((mix ns 1 t).drop 1) by
                rw [List.drop_eq_nil_of_le (by rw [HML.out]; exact Nat.le_refl _)]
                exact ⟨_, 0, rfl, Nat.zero_le _, Nat.zero_le _, (fun h => by cases h), fun i x h => by cases h⟩)
              go_upto_region 27 with (first
                | (go_at_call 15; refine (HR2.out _ _ HS5.out).mono ?_; rintro e w6 ⟨v6, rfl, hs6, hn6⟩; obtain ⟨q6, c6, rfl, _⟩ := hs6.open (n := 0) (bls_length []))
                | fail)
              have HM6 := hid (HM5.out.nw hn6)
              have HIM6 := hid (HIM5.out.nw hn6)
              obtain ⟨_, _, e0, d0, d1, d2, d3⟩ := HIM6.out 0 x0 HX0.out
              cases e0
              simp only [Nat.zero_mul, Nat.add_zero] at d0 d1 d2 d3
              have hzb := World.block_lt_of_cell? _ _ d0
              simp only at hzb
              have y6 : 0 < 1 := hjp
              have y7 : (0 : Int) < ((1 : Nat) : Int) := by omega
              obtain ⟨x0, x1, x2, x3⟩ := x0
              have hlt6 : w6.heap.size < (w6.alloc (.cells #[.int .i64 x0, .int .i64 x1, .bool x2, .int .i64 x3] 30)).heap.size := by simp
              go_region_law (first
                | (refine step_appIs rfl (.tmp 147) (.tmp 148) _ rfl Tryd.underlying22 (v := .slice (some ⟨w6.heap.size, 0, none⟩) 0 0) (u := .slice (some ⟨b2, o2, none⟩) 1 1) ((IOwn.new0 w6 w6.heap.size w6.heap.size rfl (Nat.le_refl _)).nw (by (repeat (first | assumption | exact Nw.refl _ | refine Nw.alloc ?_ _ | refine Nw.drew ?_ | refine Nw.drewN2 ?_ _ | (refine Nw.trans ?_ (by assumption)))); done)) (Nw.size (by (repeat (first | assumption | exact Nw.refl _ | refine Nw.alloc ?_ _ | refine Nw.drew ?_ | refine Nw.drewN2 ?_ _ | (refine Nw.trans ?_ (by assumption)))); done)) rfl (HM6.out.nw (by (repeat (first | assumption | exact Nw.refl _ | refine Nw.alloc ?_ _ | refine Nw.drew ?_ | refine Nw.drewN2 ?_ _ | (refine Nw.trans ?_ (by assumption)))); done)) (by simp [Act.eval, Act.put]) (by rw [HML.out]; simp <;> omega) ?_; intro v7 w7 ho7 hm7 hg7; obtain ⟨q7, c7, rfl, _⟩ := ho7.its.open (n := 1) HML.out; have hn7 : Nw w6 w7 := Nw.ofMods (by exact (by (repeat (first | assumption | exact Nw.refl _ | refine Nw.alloc ?_ _ | refine Nw.drew ?_ | refine Nw.drewN2 ?_ _ | (refine Nw.trans ?_ (by assumption)))); done)) hm7 (fun k hk => hk); have d0' := hn7.cell d0; have d1' := hn7.cell d1; have d2' := hn7.cell d2; have d3' := hn7.cell d3; have hzb7 := Nat.lt_of_lt_of_le hzb hn7.size; have hB7 := hn7.size)
                | (refine step_appIs rfl (.tmp 147) (.tmp 148) _ rfl Tryd.underlying22 (v := .slice (some ⟨w6.heap.size + 1, 0, none⟩) 0 0) (u := .slice (some ⟨b2, o2, none⟩) 1 1) ((IOwn.new0 (w6.alloc (.cells #[.int .i64 x0, .int .i64 x1, .bool x2, .int .i64 x3] 30)) (w6.heap.size + 1) (w6.heap.size + 1) (by simp) (by simp)).nw (by (repeat (first | assumption | exact Nw.refl _ | refine Nw.alloc ?_ _ | refine Nw.drew ?_ | refine Nw.drewN2 ?_ _ | (refine Nw.trans ?_ (by assumption)))); done)) (by simp) rfl (HM6.out.nw (by (repeat (first | assumption | exact Nw.refl _ | refine Nw.alloc ?_ _ | refine Nw.drew ?_ | refine Nw.drewN2 ?_ _ | (refine Nw.trans ?_ (by assumption)))); done)) (by simp [Act.eval, Act.put]) (by rw [HML.out]; simp <;> omega) ?_; intro v7 w7 ho7 hm7 hg7; obtain ⟨q7, c7, rfl, _⟩ := ho7.its.open (n := 1) HML.out; have hn7 : Nw w6 w7 := Nw.ofMods (by exact (by (repeat (first | assumption | exact Nw.refl _ | refine Nw.alloc ?_ _ | refine Nw.drew ?_ | refine Nw.drewN2 ?_ _ | (refine Nw.trans ?_ (by assumption)))); done)) hm7 (fun k hk => by omega); have hB7 : w6.heap.size + 1 ≤ w7.heap.size := (by have := hm7.size; simp at this; omega); have hxb0 := hg7.block w6.heap.size (by simp; omega) (by simp [Value.ownBlock]); have hxb := hxb0.trans ((heap_alloc_old (w6.alloc (.cells #[.int .i64 x0, .int .i64 x1, .bool x2, .int .i64 x3] 30)) (.cells #[] 30) hlt6).trans (alloc_at rfl)))
                | (refine step_appIs rfl (.tmp 149) (.tmp 153) _ rfl Tryd.underlying22 (v := .slice q7 1 c7) (u := .slice (some ⟨w7.heap.size, 0, none⟩) 1 1) (IOwn.nw ho7 (by (repeat (first | assumption | exact Nw.refl _ | refine Nw.alloc ?_ _ | refine Nw.drew ?_ | refine Nw.drewN2 ?_ _ | (refine Nw.trans ?_ (by assumption)))); done)) (Nat.le_trans hB7 (Nw.size (by (repeat (first | assumption | exact Nw.refl _ | refine Nw.alloc ?_ _ | refine Nw.drew ?_ | refine Nw.drewN2 ?_ _ | (refine Nw.trans ?_ (by assumption)))); done))) (by simp [Act.eval, Act.put]) (its1 (x := (x0, x1, x2, x3)) (alloc_at rfl)) (by simp [Act.eval, Act.put]) (by rw [List.nil_append, HML.out]; simp <;> omega) ?_; intro v8 w8 ho8 hm8 hg8; rw [List.nil_append] at ho8; obtain ⟨q8, c8, rfl, _⟩ := ho8.its.open (n := 1 + 1) (by rw [List.length_append, HML.out]; rfl); have hn8 : Nw w6 w8 := Nw.ofMods (by exact (by (repeat (first | assumption | exact Nw.refl _ | refine Nw.alloc ?_ _ | refine Nw.drew ?_ | refine Nw.drewN2 ?_ _ | (refine Nw.trans ?_ (by assumption)))); done)) hm8 (fun k hk => by omega))
                | (refine step_appIs rfl (.tmp 149) (.tmp 153) _ rfl Tryd.underlying22 (v := .slice q7 1 c7) (u := .slice (some ⟨w6.heap.size + 1, 0, none⟩) 1 1) (IOwn.nw ho7 (by (repeat (first | assumption | exact Nw.refl _ | refine Nw.alloc ?_ _ | refine Nw.drew ?_ | refine Nw.drewN2 ?_ _ | (refine Nw.trans ?_ (by assumption)))); done)) (Nat.le_trans hB7 (Nw.size (by (repeat (first | assumption | exact Nw.refl _ | refine Nw.alloc ?_ _ | refine Nw.drew ?_ | refine Nw.drewN2 ?_ _ | (refine Nw.trans ?_ (by assumption)))); done))) (by simp [Act.eval, Act.put]) (its1 (x := (x0, x1, x2, x3)) ((hg7.block (w6.heap.size + 1) (by simp) (by simp [Value.ownBlock])).trans (alloc_at (by simp)))) (by simp [Act.eval, Act.put]) (by rw [List.nil_append, HML.out]; simp <;> omega) ?_; intro v8 w8 ho8 hm8 hg8; rw [List.nil_append] at ho8; obtain ⟨q8, c8, rfl, _⟩ := ho8.its.open (n := 1 + 1) (by rw [List.length_append, HML.out]; rfl); have hn8 : Nw w6 w8 := Nw.ofMods (by exact (by (repeat (first | assumption | exact Nw.refl _ | refine Nw.alloc ?_ _ | refine Nw.drew ?_ | refine Nw.drewN2 ?_ _ | (refine Nw.trans ?_ (by assumption)))); done)) hm8 (fun k hk => by omega))
                | (refine step_appIs rfl (.tmp 149) (.tmp 153) _ rfl Tryd.underlying22 (v := .slice q7 1 c7) (u := .slice (some ⟨w6.heap.size, 0, none⟩) 1 1) (IOwn.nw ho7 (by (repeat (first | assumption | exact Nw.refl _ | refine Nw.alloc ?_ _ | refine Nw.drew ?_ | refine Nw.drewN2 ?_ _ | (refine Nw.trans ?_ (by assumption)))); done)) (Nat.le_trans hB7 (Nw.size (by (repeat (first | assumption | exact Nw.refl _ | refine Nw.alloc ?_ _ | refine Nw.drew ?_ | refine Nw.drewN2 ?_ _ | (refine Nw.trans ?_ (by assumption)))); done))) (by simp [Act.eval, Act.put]) (its1 (x := (x0, x1, x2, x3)) hxb) (by simp [Act.eval, Act.put]) (by rw [List.nil_append, HML.out]; simp <;> omega) ?_; intro v8 w8 ho8 hm8 hg8; rw [List.nil_append] at ho8; obtain ⟨q8, c8, rfl, _⟩ := ho8.its.open (n := 1 + 1) (by rw [List.length_append, HML.out]; rfl); have hn8 : Nw w6 w8 := Nw.ofMods (by exact (by (repeat (first | assumption | exact Nw.refl _ | refine Nw.alloc ?_ _ | refine Nw.drew ?_ | refine Nw.drewN2 ?_ _ | (refine Nw.trans ?_ (by assumption)))); done)) hm8 (fun k hk => by omega))
                | (go_simp; go_at_call 15; refine (HR3.out _ _ ho8.its).mono ?_; rintro e w9 ⟨v9, rfl, hs9, hn9⟩; obtain ⟨q9, c9, rfl, _⟩ := hs9.open (n := 0) (bls_length []))
                | fail)
              all_goals
                have hw9 : Nw w w9 := hw5.trans (hn6.trans (hn8.trans hn9))
                have HM9 := hid (HM6.out.nw (hn8.trans hn9))
                go_wp2_with (first
                  | (go_at_call 15; refine (HR4.out _ _ HM9.out).mono ?_; rintro e w10 ⟨v10, rfl, hs10, hn10⟩; obtain ⟨q10, c10, rfl, _⟩ := hs10.open (n := 0) (bls_length []))
                  | (go_at_call 11; refine (HA.out _ (by repeat (first | assumption | exact Nw.refl _ | refine Nw.alloc ?_ _ | refine Nw.drew ?_ | refine Nw.drewN2 ?_ _ | (refine Nw.trans ?_ (by assumption))))).mono ?_; rintro e w11 ⟨rfl, hn11⟩)
                  | fail)
                go_ret
                exact ⟨rfl, (by repeat (first | assumption | exact Nw.refl _ | refine Nw.alloc ?_ _ | refine Nw.drew ?_ | refine Nw.drewN2 ?_ _ | (refine Nw.trans ?_ (by assumption))))⟩
            · have y4 : 1 ≤ j := hjp
              have y5 : 1 ≤ c2 := by omega
              have HS5 := hid (Its.drop1 HIM5.out HML.out hjp hmc hcm2 hc1)
              go_upto_region 27 with (first
                | (go_at_call 15; refine (HR2.out _ _ HS5.out).mono ?_; rintro e w6 ⟨v6, rfl, hs6, hn6⟩; obtain ⟨q6, c6, rfl, _⟩ := hs6.open (n := 0) (bls_length []))
                | fail)
              have HM6 := hid (HM5.out.nw hn6)
              have HIM6 := hid (HIM5.out.nw hn6)
              obtain ⟨_, _, e0, d0, d1, d2, d3⟩ := HIM6.out 0 x0 HX0.out
              cases e0
              simp only [Nat.zero_mul, Nat.add_zero] at d0 d1 d2 d3
              have hzb := World.block_lt_of_cell? _ _ d0
              simp only at hzb
              have y6 : 0 < j := hjp
              have y7 : (0 : Int) < ((j : Nat) : Int) := by omega
              obtain ⟨x0, x1, x2, x3⟩ := x0
              have hlt6 : w6.heap.size < (w6.alloc (.cells #[.int .i64 x0, .int .i64 x1, .bool x2, .int .i64 x3] 30)).heap.size := by simp
              go_region_law (first
                | (refine step_appIs rfl (.tmp 147) (.tmp 148) _ rfl Tryd.underlying22 (v := .slice (some ⟨w6.heap.size, 0, none⟩) 0 0) (u := .slice (some ⟨b2, o2, none⟩) j c2) ((IOwn.new0 w6 w6.heap.size w6.heap.size rfl (Nat.le_refl _)).nw (by (repeat (first | assumption | exact Nw.refl _ | refine Nw.alloc ?_ _ | refine Nw.drew ?_ | refine Nw.drewN2 ?_ _ | (refine Nw.trans ?_ (by assumption)))); done)) (Nw.size (by (repeat (first | assumption | exact Nw.refl _ | refine Nw.alloc ?_ _ | refine Nw.drew ?_ | refine Nw.drewN2 ?_ _ | (refine Nw.trans ?_ (by assumption)))); done)) rfl (HM6.out.nw (by (repeat (first | assumption | exact Nw.refl _ | refine Nw.alloc ?_ _ | refine Nw.drew ?_ | refine Nw.drewN2 ?_ _ | (refine Nw.trans ?_ (by assumption)))); done)) (by simp [Act.eval, Act.put]) (by rw [HML.out]; simp <;> omega) ?_; intro v7 w7 ho7 hm7 hg7; obtain ⟨q7, c7, rfl, _⟩ := ho7.its.open (n := j) HML.out; have hn7 : Nw w6 w7 := Nw.ofMods (by exact (by (repeat (first | assumption | exact Nw.refl _ | refine Nw.alloc ?_ _ | refine Nw.drew ?_ | refine Nw.drewN2 ?_ _ | (refine Nw.trans ?_ (by assumption)))); done)) hm7 (fun k hk => hk); have d0' := hn7.cell d0; have d1' := hn7.cell d1; have d2' := hn7.cell d2; have d3' := hn7.cell d3; have hzb7 := Nat.lt_of_lt_of_le hzb hn7.size; have hB7 := hn7.size)
                | (refine step_appIs rfl (.tmp 147) (.tmp 148) _ rfl Tryd.underlying22 (v := .slice (some ⟨w6.heap.size + 1, 0, none⟩) 0 0) (u := .slice (some ⟨b2, o2, none⟩) j c2) ((IOwn.new0 (w6.alloc (.cells #[.int .i64 x0, .int .i64 x1, .bool x2, .int .i64 x3] 30)) (w6.heap.size + 1) (w6.heap.size + 1) (by simp) (by simp)).nw (by (repeat (first | assumption | exact Nw.refl _ | refine Nw.alloc ?_ _ | refine Nw.drew ?_ | refine Nw.drewN2 ?_ _ | (refine Nw.trans ?_ (by assumption)))); done)) (by simp) rfl (HM6.out.nw (by (repeat (first | assumption | exact Nw.refl _ | refine Nw.alloc ?_ _ | refine Nw.drew ?_ | refine Nw.drewN2 ?_ _ | (refine Nw.trans ?_ (by assumption)))); done)) (by simp [Act.eval, Act.put]) (by rw [HML.out]; simp <;> omega) ?_; intro v7 w7 ho7 hm7 hg7; obtain ⟨q7, c7, rfl, _⟩ := ho7.its.open (n := j) HML.out; have hn7 : Nw w6 w7 := Nw.ofMods (by exact (by (repeat (first | assumption | exact Nw.refl _ | refine Nw.alloc ?_ _ | refine Nw.drew ?_ | refine Nw.drewN2 ?_ _ | (refine Nw.trans ?_ (by assumption)))); done)) hm7 (fun k hk => by omega); have hB7 : w6.heap.size + 1 ≤ w7.heap.size := (by have := hm7.size; simp at this; omega); have hxb0 := hg7.block w6.heap.size (by simp; omega) (by simp [Value.ownBlock]); have hxb := hxb0.trans ((heap_alloc_old (w6.alloc (.cells #[.int .i64 x0, .int .i64 x1, .bool x2, .int .i64 x3] 30)) (.cells #[] 30) hlt6).trans (alloc_at rfl)))
                | (refine step_appIs rfl (.tmp 149) (.tmp 153) _ rfl Tryd.underlying22 (v := .slice q7 j c7) (u := .slice (some ⟨w7.heap.size, 0, none⟩) 1 1) (IOwn.nw ho7 (by (repeat (first | assumption | exact Nw.refl _ | refine Nw.alloc ?_ _ | refine Nw.drew ?_ | refine Nw.drewN2 ?_ _ | (refine Nw.trans ?_ (by assumption)))); done)) (Nat.le_trans hB7 (Nw.size (by (repeat (first | assumption | exact Nw.refl _ | refine Nw.alloc ?_ _ | refine Nw.drew ?_ | refine Nw.drewN2 ?_ _ | (refine Nw.trans ?_ (by assumption)))); done))) (by simp [Act.eval, Act.put]) (its1 (x := (x0, x1, x2, x3)) (alloc_at rfl)) (by simp [Act.eval, Act.put]) (by rw [List.nil_append, HML.out]; simp <;> omega) ?_; intro v8 w8 ho8 hm8 hg8; rw [List.nil_append] at ho8; obtain ⟨q8, c8, rfl, _⟩ := ho8.its.open (n := j + 1) (by rw [List.length_append, HML.out]; rfl); have hn8 : Nw w6 w8 := Nw.ofMods (by exact (by (repeat (first | assumption | exact Nw.refl _ | refine Nw.alloc ?_ _ | refine Nw.drew ?_ | refine Nw.drewN2 ?_ _ | (refine Nw.trans ?_ (by assumption)))); done)) hm8 (fun k hk => by omega))
                | (refine step_appIs rfl (.tmp 149) (.tmp 153) _ rfl Tryd.underlying22 (v := .slice q7 j c7) (u := .slice (some ⟨w6.heap.size + 1, 0, none⟩) 1 1) (IOwn.nw ho7 (by (repeat (first | assumption | exact Nw.refl _ | refine Nw.alloc ?_ _ | refine Nw.drew ?_ | refine Nw.drewN2 ?_ _ | (refine Nw.trans ?_ (by assumption)))); done)) (Nat.le_trans hB7 (Nw.size (by (repeat (first | assumption | exact Nw.refl _ | refine Nw.alloc ?_ _ | refine Nw.drew ?_ | refine Nw.drewN2 ?_ _ | (refine Nw.trans ?_ (by assumption)))); done))) (by simp [Act.eval, Act.put]) (its1 (x := (x0, x1, x2, x3)) ((hg7.block (w6.heap.size + 1) (by simp) (by simp [Value.ownBlock])).trans (alloc_at (by simp)))) (by simp [Act.eval, Act.put]) (by rw [List.nil_append, HML.out]; simp <;> omega) ?_; intro v8 w8 ho8 hm8 hg8; rw [List.nil_append] at ho8; obtain ⟨q8, c8, rfl, _⟩ := ho8.its.open (n := j + 1) (by rw [List.length_append, HML.out]; rfl); have hn8 : Nw w6 w8 := Nw.ofMods (by exact (by (repeat (first | assumption | exact Nw.refl _ | refine Nw.alloc ?_ _ | refine Nw.drew ?_ | refine Nw.drewN2 ?_ _ | (refine Nw.trans ?_ (by assumption)))); done)) hm8 (fun k hk => by omega))
                | (refine step_appIs rfl (.tmp 149) (.tmp 153) _ rfl Tryd.underlying22 (v := .slice q7 j c7) (u := .slice (some ⟨w6.heap.size, 0, none⟩) 1 1) (IOwn.nw ho7 (by (repeat (first | assumption | exact Nw.refl _ | refine Nw.alloc ?_ _ | refine Nw.drew ?_ | refine Nw.drewN2 ?_ _ | (refine Nw.trans ?_ (by assumption)))); done)) (Nat.le_trans hB7 (Nw.size (by (repeat (first | assumption | exact Nw.refl _ | refine Nw.alloc ?_ _ | refine Nw.drew ?_ | refine Nw.drewN2 ?_ _ | (refine Nw.trans ?_ (by assumption)))); done))) (by simp [Act.eval, Act.put]) (its1 (x := (x0, x1, x2, x3)) hxb) (by simp [Act.eval, Act.put]) (by rw [List.nil_append, HML.out]; simp <;> omega) ?_; intro v8 w8 ho8 hm8 hg8; rw [List.nil_append] at ho8; obtain ⟨q8, c8, rfl, _⟩ := ho8.its.open (n := j + 1) (by rw [List.length_append, HML.out]; rfl); have hn8 : Nw w6 w8 := Nw.ofMods (by exact (by (repeat (first | assumption | exact Nw.refl _ | refine Nw.alloc ?_ _ | refine Nw.drew ?_ | refine Nw.drewN2 ?_ _ | (refine Nw.trans ?_ (by assumption)))); done)) hm8 (fun k hk => by omega))
                | (go_simp; go_at_call 15; refine (HR3.out _ _ ho8.its).mono ?_; rintro e w9 ⟨v9, rfl, hs9, hn9⟩; obtain ⟨q9, c9, rfl, _⟩ := hs9.open (n := 0) (bls_length []))
                | fail)
              all_goals
                have hw9 : Nw w w9 := hw5.trans (hn6.trans (hn8.trans hn9))
                have HM9 := hid (HM6.out.nw (hn8.trans hn9))
                go_wp2_with (first
                  | (go_at_call 15; refine (HR4.out _ _ HM9.out).mono ?_; rintro e w10 ⟨v10, rfl, hs10, hn10⟩; obtain ⟨q10, c10, rfl, _⟩ := hs10.open (n := 0) (bls_length []))
                  | (go_at_call 11; refine (HA.out _ (by repeat (first | assumption | exact Nw.refl _ | refine Nw.alloc ?_ _ | refine Nw.drew ?_ | refine Nw.drewN2 ?_ _ | (refine Nw.trans ?_ (by assumption))))).mono ?_; rintro e w11 ⟨rfl, hn11⟩)
                  | fail)
                go_ret
                exact ⟨rfl, (by repeat (first | assumption | exact Nw.refl _ | refine Nw.alloc ?_ _ | refine Nw.drew ?_ | refine Nw.drewN2 ?_ _ | (refine Nw.trans ?_ (by assumption))))⟩
end Vd
end Go.Proofs.YtlimhggkimnddaaDoor
