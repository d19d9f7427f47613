/- The contracts of bits.trim, Or, And, Less and of the reference's Trim, Or, And, Less: for any sets not longer than 2^30 the words of the sets that they are. -/
import Derived.Test.YthellicimicieaaBitsA
import Derived.Test.YthellicimicieaaSeqEnd
set_option linter.unusedSimpArgs false
set_option linter.unusedVariables false
namespace Go.Proofs.Ythellicimicieaa
open Go.ChangeShapes Go.WideShapes Go.ChangeAt Go.RowKit
section
variable {P : Program} {w : World} {ops : Array Oper} {rest : List Oper} {o : Oper} {a : Act} {Q : Exit → Act → World → Prop}
/-- 'make([]T, n)', T of one cell -/
theorem mk1f (hgd : o.guard = none) (l c : Operand) (t : TypeId) (ho : o.op = Op.makeSlice t l c) (e : TypeId) (z : Value) (bytes : Nat) (ht : P.underlying t = some (.slice e))
    (hinfo : (P.info? e).map (fun i => (i.zero, i.size, i.bytes)) = some (some z, 1, bytes)) (hby : bytes ≤ 128) (hz : z.cells = #[z]) {w0 : World} (hn : Nw w0 w) {kl kc : IntKind} {L C : Int} (n : Nat) (hl : a.eval l = .int kl L) (hc : a.eval c = .int kc C)
    (h : ∀ w', Own w' w0.heap.size e (.slice (some ⟨w.heap.size, 0, none⟩) n n) (List.replicate n z) → Nw w0 w' → w.heap.size < w'.heap.size → wpList P ops Q rest (a.put o.dst (.slice (some ⟨w.heap.size, 0, none⟩) n n)) w')
    (hL : L = (n : Int)) (hC : C = (n : Int)) (hsz : n ≤ 1099511627776) : wpList P ops Q (o :: rest) a w := by
  obtain ⟨i, hi, hz0, hz1, hz2⟩ := info_parts hinfo
  refine wpList_make_full w hgd l c t ho w0.heap.size e i z 1 ht hi hz0 hz1 kl kc L C n hl hc hL hC (by have := Nat.mul_le_mul hby hsz; rw [hz2]; omega) (by unfold maxLen; omega) hn.size
    (fun w' h1 h2 => h w' ?_ (hn.grown h2 (fun k hk => by cases hk)) ?_)
  · rw [hz, Nat.mul_one, toList_madeCells_one] at h1
    unfold Own
    rw [List.length_replicate]; exact h1
  · rcases h1.2 with ⟨h3, _⟩ | ⟨g, cap, cur, hv, hg, hh, _⟩
    · cases h3
    · cases hv; exact lt_of_heap hh
end
namespace Words
theorem info_u64 : (Try.prog.info? 24).map (fun i => (i.zero, i.size, i.bytes)) = some (some (.int .u64 0), 1, 8) := by kernel_rfl
/-- A row that is being filled: the first k words are f's. -/
def part (n : Nat) (f : Nat → Wd) (k : Nat) : List Wd := (List.range n).map fun i => if i < k then f i else 0
theorem part_len (n : Nat) (f : Nat → Wd) (k : Nat) : (part n f k).length = n := by simp [part]
theorem part_zero (n : Nat) (f : Nat → Wd) : part n f 0 = List.replicate n 0 := by
  unfold part
  apply List.ext_getElem? 
  intro i
  by_cases h : i < n <;> simp [h]
theorem part_all (n : Nat) (f : Nat → Wd) : trim (part n f n) = mk n f := by
  unfold mk part
  congr 1
  exact List.map_congr_left fun i hi => if_pos (List.mem_range.1 hi)
theorem part_set (n : Nat) (f : Nat → Wd) (k : Nat) : (part n f k).set k (f k) = part n f (k + 1) := by
  apply List.ext_getElem?
  intro i
  rw [List.getElem?_set]
  unfold part
  by_cases h : i < n
  · by_cases e : k = i
    · subst e; simp [h]
    · simp [h, e]
      by_cases e2 : i < k
      · rw [if_pos e2, if_pos (by omega)]
      · rw [if_neg e2, if_neg (by omega)]
  · by_cases e : k = i
    · subst e; simp [h]
    · simp [h, e]
theorem part_own {w : World} {B g n : Nat} {e : TypeId} {f : Nat → Wd} {k : Nat} (h : Own w B e (.slice (some ⟨g, 0, none⟩) n n) (ws (part n f k))) (x : Wd) (hx : x = f k) : Own (w.setCell ⟨g, k, none⟩ (.int .u64 (x.toNat : Int))) B e (.slice (some ⟨g, 0, none⟩) n n) (ws (part n f (k + 1))) := by
  have := Own.set h (by rw [ws_length, part_len]) k (wv x)
  rw [← ws_set, hx, part_set] at this
  subst hx
  exact this
theorem part_cell {w : World} {B g n : Nat} {e : TypeId} {f : Nat → Wd} {k : Nat} (h : Own w B e (.slice (some ⟨g, 0, none⟩) n n) (ws (part n f k))) (hk : k < n) :
    w.cell? ⟨g, k, none⟩ = some (.int .u64 ((wd (part n f k) k).toNat : Int)) ∧ w.frozen? ⟨g, k, none⟩ = false ∧ g < w.heap.size ∧ B ≤ g := by
  have hl : (ws (part n f k)).length = n := by rw [ws_length, part_len]
  refine ⟨?_, Own.frozen h hl.symm k, (World.ownsRow.lt h g rfl).2, Own.lt h g rfl⟩
  rw [Own.cell h hl.symm k (by rw [hl]; exact hk), ws_get _ _ (by rw [part_len]; exact hk)]
  rfl
/-- A call hands back the set trimmed: nothing, or a part of the slice. -/
def HandsT (w : World) (v : Value) (s : List Wd) (e : Ending) (w' : World) : Prop := ∃ v', e = .returned v' ∧ Set w' v' s ∧ (∀ k, v'.ownBlock = some k → v.ownBlock = some k) ∧ Nw w w'
theorem trim_c (v : Value) (s : List Wd) (w : World) (hv : Set w v s) : Calls Try.prog 58 #[v] w (HandsT w v (trim s)) := by
  obtain ⟨p, cap, rfl, hcap, hmx, hnil, hc⟩ := hv.open
  have HM := hid hmx
  unfold maxLen at hmx
  go_enter Try.func58, Try.ntmps58
  go_wp2
  go_loop [0] (fun u => ∃ n : Nat, n ≤ s.length ∧ u = .slice p n cap ∧ trim (s.take n) = trim s) (fun u => match u with | .slice _ n _ => n | _ => 0)
  case atStart => exact ⟨s.length, Nat.le_refl _, rfl, by rw [List.take_length]⟩
  case round =>
    obtain ⟨n, hn, rfl, ht⟩ := hrel
    by_cases h0 : 0 < n
    · obtain ⟨b, off, rfl, hcell⟩ := ws_cell hc (n - 1) (by omega)
      have hd : decide ((0 : Int) < n) = true := decide_eq_true (by omega)
      have hw : wd (s.take n) (n - 1) = wd s (n - 1) := by simp [wd, show n - 1 < n by omega]
      have hl : (s.take n).length = n := by simp; omega
      have e1 : ((n : Int) - 1).toNat = n - 1 := by omega
      by_cases hz : wd s (n - 1) = 0
      · have hb : (((wd s (n - 1)).toNat : Int) == 0) = true := by simp [hz]
        have HT := hid (trim_drop (s.take n) (n - 1) (by omega) (by rw [hw, hz]))
        rw [List.take_take, Nat.min_eq_left (by omega), ht] at HT
        clear hc ht hz hw
        go_wp2
        go_round
        case rel => exact ⟨n - 1, by omega, by simp only [Value.slice.injEq, true_and, and_true]; try omega, HT.out⟩
        case measure => simp; omega
      · have hb : (((wd s (n - 1)).toNat : Int) == 0) = false := by
          rw [beq_eq_false_iff_ne]; exact fun h => hz (wd_zero_iff.1 h)
        have HT := hid (trim_id (s.take n) (Or.inr (by rw [hl, hw]; exact hz)))
        rw [ht] at HT
        have hb0 : ((n : Int) == 0) = false := by rw [beq_eq_false_iff_ne]; omega
        have HC := hid hc
        clear hc ht hz hw
        go_wp2
        go_ret
        refine ⟨_, rfl, ?_, fun k hk => hk, (by repeat (first | assumption | exact Nw.refl _ | refine Nw.alloc ?_ _ | refine Nw.drew ?_ | refine Nw.drewN2 ?_ _ | (refine Nw.trans ?_ (by assumption))))⟩
        rw [HT.out]
        refine Set.mk (by rw [ws_take]; exact (HC.out.take n).nw (by repeat (first | assumption | exact Nw.refl _ | refine Nw.alloc ?_ _ | refine Nw.drew ?_ | refine Nw.drewN2 ?_ _ | (refine Nw.trans ?_ (by assumption))))) hl.symm (by omega) HM.out (by intro h; cases h)
    · obtain rfl : n = 0 := by omega
      have HT := hid (show trim s = [] by rw [← ht]; rfl)
      clear hc ht
      go_wp2
      go_ret
      exact ⟨_, rfl, by rw [HT.out]; exact Set.nil _, fun k hk => (by cases hk), (by repeat (first | assumption | exact Nw.refl _ | refine Nw.alloc ?_ _ | refine Nw.drew ?_ | refine Nw.drewN2 ?_ _ | (refine Nw.trans ?_ (by assumption))))⟩
set_option maxHeartbeats 400000 in
theorem rtrim_c (v : Value) (s : List Wd) (w : World) (hv : Set w v s) (hlen : s.length ≤ 1073741824) : Calls Try.prog 27 #[v] w (HandsW w (trim s)) := by
  obtain ⟨p, cap, rfl, hcap, hmx, hnil, hc⟩ := hv.open
  have HM := hid hmx
  unfold maxLen at hmx
  go_enter Try.func27, Try.ntmps27
  go_wp2
  go_loop [3] (fun u => ∃ n : Nat, n ≤ s.length ∧ u = .int .i64 n ∧ trim (s.take n) = trim s) (fun u => (intOf u).toNat)
  case atStart => exact ⟨s.length, Nat.le_refl _, rfl, by rw [List.take_length]⟩
  case round =>
    obtain ⟨n, hn, rfl, ht⟩ := hrel
    by_cases h0 : 0 < n
    · obtain ⟨b, off, rfl, hcell⟩ := ws_cell hc (n - 1) (by omega)
      have hd : decide ((0 : Int) < n) = true := decide_eq_true (by omega)
      have hw : wd (s.take n) (n - 1) = wd s (n - 1) := by simp [wd, show n - 1 < n by omega]
      have hl : (s.take n).length = n := by simp; omega
      have e1 : ((n : Int) - 1).toNat = n - 1 := by omega
      by_cases hz : wd s (n - 1) = 0
      · have hb : (((wd s (n - 1)).toNat : Int) == 0) = true := by simp [hz]
        have HT := hid (trim_drop (s.take n) (n - 1) (by omega) (by rw [hw, hz]))
        rw [List.take_take, Nat.min_eq_left (by omega), ht] at HT
        clear hc ht hz hw
        go_wp2
        go_round
        case rel => exact ⟨n - 1, by omega, by simp only [Value.int.injEq, true_and]; try omega, HT.out⟩
        case measure => simp [intOf]; omega
      · have hb : (((wd s (n - 1)).toNat : Int) == 0) = false := by
          rw [beq_eq_false_iff_ne]; exact fun h => hz (wd_zero_iff.1 h)
        have HT := hid (trim_id (s.take n) (Or.inr (by rw [hl, hw]; exact hz)))
        rw [ht] at HT
        have hs : Set w (.slice (some ⟨b, off, none⟩) n cap) (s.take n) := Set.mk (by rw [ws_take]; exact hc.take n) hl.symm (by omega) HM.out (by intro h; cases h)
        clear hc ht hz hw
        go_wp2_with (first | (at_builtin; refine app1 rfl _ _ _ rfl _ _ _ Try.underlying42 info_u64 rfl (by decide) ((Nw.refl w).alloc _) (Own.new w _ _ [] (Nat.le_refl _) (Nat.zero_le _)) rfl (hs.nw ((Nw.refl w).alloc _)) rfl (ws_one _) ?_ ?_; rotate_left; (simp only [ws_length, List.length_nil, List.length_take]; omega); intro v1 w1 hown1 hg1 hn1))
        go_ret
        exact ⟨_, rfl, by rw [HT.out]; simpa [Set] using hown1.sl, Own.lt hown1, (by repeat (first | assumption | exact Nw.refl _ | refine Nw.alloc ?_ _ | refine Nw.drew ?_ | refine Nw.drewN2 ?_ _ | (refine Nw.trans ?_ (by assumption))))⟩
    · obtain rfl : n = 0 := by omega
      have HT := hid (show trim s = [] by rw [← ht]; rfl)
      have hs : Set w (.slice p 0 cap) [] := ⟨p, cap, rfl, Nat.zero_le _, HM.out, hnil, Cells.nil _ _⟩
      clear hc ht
      go_wp2_with (first | (at_builtin; refine app1 rfl _ _ _ rfl _ _ _ Try.underlying42 info_u64 rfl (by decide) ((Nw.refl w).alloc _) (Own.new w _ _ [] (Nat.le_refl _) (Nat.zero_le _)) rfl (hs.nw ((Nw.refl w).alloc _)) rfl (ws_one _) ?_ ?_; rotate_left; (simp [ws]); intro v1 w1 hown1 hg1 hn1))
      go_ret
      exact ⟨_, rfl, by rw [HT.out]; simpa [Set] using hown1.sl, Own.lt hown1, (by repeat (first | assumption | exact Nw.refl _ | refine Nw.alloc ?_ _ | refine Nw.drew ?_ | refine Nw.drewN2 ?_ _ | (refine Nw.trans ?_ (by assumption))))⟩
end Words
end Go.Proofs.Ythellicimicieaa
