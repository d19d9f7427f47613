/- The contracts of record.Get and watchglassref8.Get: the event, how many bytes, the error. No condition but lengths. -/
import Derived.Test.YtdihoedehmfgfaaRecC
set_option linter.unusedSimpArgs false
set_option linter.unusedVariables false
namespace Go.Proofs.Ytdihoedehmfgfaa
open Go.ChangeShapes Go.WideShapes Go.ChangeAt Go.RowKit
namespace Rec
open Go.Proofs.Ytdihoedehmfgfaa.Sum (Hands8 byte byte_val right val val_snoc)
theorem or_size (x y : Nat) (hx : x < 256) (hy : y < 256) : bits .or .i64 ((x : Int) * 256) (y : Int) = 256 * (x : Int) + y := by
  show IntKind.i64.wrap ((BitVec.ofInt 64 ((x : Int) * 256) ||| BitVec.ofInt 64 (y : Int)).toNat : Int) = _
  rw [show (x : Int) * 256 = ((x * 256 : Nat) : Int) by omega, BitVec.toNat_or, ofInt_u64 _ (by omega), ofInt_u64 _ (by omega), nat_join 8 _ _ (by omega) (by omega), IntKind.wrap_i64]
  omega
theorem or_time (t c : Int) (h0 : 0 ≤ t) (h1 : t < 72057594037927936) (h2 : 0 ≤ c) (h3 : c < 256) : bits .or .u64 (t * 256) c = t * 256 + c := by
  rw [u64_or _ _ (by omega) (by omega) (by omega) (by omega), nat_join 8 _ _ (by omega) (by omega)]; omega
theorem val_lt (l : List UInt8) (k : Nat) (h : l.length ≤ 7) : 0 ≤ val l ∧ val l < 72057594037927936 := by
  match l, h with
  | [], _ => simp [val]
  | [a], _ => have := a.toNat_lt; simp [val]; omega
  | [a, b], _ => have := a.toNat_lt; have := b.toNat_lt; simp [val]; omega
  | [a, b, c], _ => have := a.toNat_lt; have := b.toNat_lt; have := c.toNat_lt; simp [val]; omega
  | [a, b, c, d], _ => have := a.toNat_lt; have := b.toNat_lt; have := c.toNat_lt; have := d.toNat_lt; simp [val]; omega
  | [a, b, c, d, e], _ => have := a.toNat_lt; have := b.toNat_lt; have := c.toNat_lt; have := d.toNat_lt; have := e.toNat_lt; simp [val]; omega
  | [a, b, c, d, e, f], _ => have := a.toNat_lt; have := b.toNat_lt; have := c.toNat_lt; have := d.toNat_lt; have := e.toNat_lt; have := f.toNat_lt; simp [val]; omega
  | [a, b, c, d, e, f, g], _ => have := a.toNat_lt; have := b.toNat_lt; have := c.toNat_lt; have := d.toNat_lt; have := e.toNat_lt; have := f.toNat_lt; have := g.toNat_lt; simp [val]; omega
/-- A call hands back what is got. -/
def HandsG (w : World) (x : Got) (e : Ending) (w' : World) : Prop := ∃ v, e = .returned (.tuple #[.agg #[.int .u64 x.1.1, v], .int .i64 x.2.1, .int .i64 x.2.2]) ∧ Sl w' v (i64s x.1.2) ∧ Nw w w'
/-- So; and the row of its ids is new. -/
def HandsGO (w : World) (x : Got) (e : Ending) (w' : World) : Prop := ∃ v, e = .returned (.tuple #[.agg #[.int .u64 x.1.1, v], .int .i64 x.2.1, .int .i64 x.2.2]) ∧ Own w' w.heap.size 3 v (i64s x.1.2) ∧ Nw w w'
theorem HandsG.yes {w w' : World} {x : Got} {t k m : Int} {l : List Int} {v : Value} (hx : x = ((t, l), m, 0)) (hk : k = m) (hv : Own w' w.heap.size 3 v (i64s l)) (hn : Nw w w') : HandsGO w x (.returned (.tuple #[.agg #[.int .u64 t, v], .int .i64 k, .int .i64 0])) w' := by
  subst hx hk
  exact ⟨_, rfl, hv, hn⟩
theorem HandsG.no {w w' : World} {x : Got} {k : Int} (hx : x = none_ k) (hn : Nw w w') : HandsGO w x (.returned (.tuple #[.agg #[.int .u64 0, .slice none 0 0], .int .i64 0, .int .i64 k])) w' := by
  subst hx
  exact ⟨_, rfl, Own.nil _ _ _, hn⟩
theorem EvSt.doneO {w : World} {z g : Nat} {t : Int} {v : Value} {l : List Int} {wr : World} (h : EvSt w z g t v l wr) {wa : World} (ha : Nw wa w) (hz : wa.heap.size ≤ z) {w' : World} (hw : w' = (wr.setCell ⟨z, 0, none⟩ (.int .u64 t)).setCell ⟨z, 1, none⟩ v) :
    w'.heap[z]? = some (.cells #[.int .u64 t, v] 38 (0, 0)) ∧ Own w' wa.heap.size 3 v (i64s l) ∧ Nw wa w' := by
  subst hw
  obtain ⟨h1, h2, h3, h4, h5, h6⟩ := h
  have k1 := heap_set (heap_set h2 0 (.int .u64 t)) 1 v
  have ms : Mods (· = z) wr ((wr.setCell ⟨z, 0, none⟩ (.int .u64 t)).setCell ⟨z, 1, none⟩ v) := Mods.setCell (S := (· = z)) (Mods.setCell (S := (· = z)) (Mods.refl _ wr) (p := ⟨z, 0, none⟩) rfl _) (p := ⟨z, 1, none⟩) rfl v
  exact ⟨k1, (h3.mods ms (fun q hq e => by omega)).mono (by omega), (ha.trans h4).ofMods ms (fun q hq => by omega)⟩
/-- The event that is handed back is written once more as none. -/
theorem zero_heap {w w1 : World} {z : Nat} {a0 a1 : Value} (h : w1.heap[z]? = some (.cells #[a0, a1] 38 (0, 0))) (hn : Nw w w1) (hz : w.heap.size ≤ z) (x y : Value) :
    ((w1.setCell ⟨z, 0, none⟩ x).setCell ⟨z, 1, none⟩ y).heap[z]? = some (.cells #[x, y] 38 (0, 0)) ∧ Nw w ((w1.setCell ⟨z, 0, none⟩ x).setCell ⟨z, 1, none⟩ y) := by
  refine ⟨heap_set (heap_set h 0 x) 1 y, ?_⟩
  exact (hn.setCell (p := ⟨z, 0, none⟩) hz x).setCell (p := ⟨z, 1, none⟩) hz y
theorem get_len0 {b : List UInt8} (p : Int) (h : b.length = 0) : get b p = none_ 13 := by unfold get; rw [if_pos h]
theorem get_len1 {b : List UInt8} (p : Int) (h : b.length = 1) : get b p = none_ 7 := by unfold get; rw [if_neg (by omega), if_pos h]
theorem get_form {b : List UInt8} (p : Int) (h : 2 ≤ b.length) (hs : size b < 8 ∨ 8 + pr p < size b) : get b p = none_ 2 := by unfold get; rw [if_neg (by omega), if_neg (by omega), if_pos hs]
theorem get_short {b : List UInt8} (p : Int) (h : 2 ≤ b.length) (hs : ¬ (size b < 8 ∨ 8 + pr p < size b)) (hl : b.length < size b + 6) : get b p = none_ 7 := by unfold get; rw [if_neg (by omega), if_neg (by omega), if_neg hs, if_pos hl]
theorem get_long {b : List UInt8} (p : Int) (h : 2 ≤ b.length) (hs : ¬ (size b < 8 ∨ 8 + pr p < size b)) (hl : ¬ b.length < size b + 6) : get b p = match right (b.take (size b + 6)) with
    | none => none_ 6
    | some r => if rises (idsOf r) (pr p) = true then ((time r, idsOf r), (size b + 6 : Nat), 0) else none_ 9 := by unfold get; rw [if_neg (by omega), if_neg (by omega), if_neg hs, if_neg hl]; rfl
theorem size_bd (b : List UInt8) : size b < 65536 := by
  unfold size
  have := (b.getD 0 0).toNat_lt
  have := (b.getD 1 0).toNat_lt
  omega
theorem EvSt.nw {w : World} {z g : Nat} {t : Int} {v : Value} {l : List Int} {wr w1 : World} (h : EvSt w z g t v l wr) (hn : Nw wr w1) : EvSt w z g t v l w1 :=
  ⟨hn.heap h.1, hn.heap h.2.1, h.2.2.1.nw hn, h.2.2.2.1.trans hn, h.2.2.2.2⟩
theorem sub8 {w : World} {rb ro : Nat} {r : List UInt8} (h : Cells w (some ⟨rb, ro, none⟩) (u8s r)) : Cells w (some ⟨rb, ro + 2, none⟩) (u8s ((r.drop 2).take 8)) := by
  rw [u8s_take, u8s_drop]; exact (h.drop 2).take 8
theorem sub10 {w : World} {rb ro : Nat} {r : List UInt8} (h : Cells w (some ⟨rb, ro, none⟩) (u8s r)) : Cells w (some ⟨rb, ro + 10, none⟩) (u8s (r.drop 10)) := by
  rw [u8s_drop]; exact h.drop 10
theorem right_len {l r : List UInt8} (h : right l = some r) : r.length + 4 = l.length := by
  have := congrArg List.length (right_some h)
  rwa [put_len] at this
def nats (D : List UInt8) : List Int := D.map fun c => (c.toNat : Int)
theorem nats_step (D : List UInt8) (k : Nat) (x : UInt8) (h : D[k]? = some x) : (nats D).take (k + 1) = (nats D).take k ++ [(x.toNat : Int)] := by
  unfold nats
  rw [List.take_add_one]
  simp [h]
theorem nats_all (D : List UInt8) : (nats D).take D.length = nats D := List.take_of_length_le (by simp [nats])
theorem nats_len (D : List UInt8) (k : Nat) (h : k ≤ D.length) : ((nats D).take k).length = k := by simp [nats, h]
theorem ids_nats (r : List UInt8) : idsOf r = nats (r.drop 10) := rfl
set_option maxRecDepth 20000 in
set_option maxHeartbeats 3200000 in
theorem get_low (vb : Value) (b : List UInt8) (p : Int) (w : World) (hb : Bytes w vb b) (hlen : b.length ≤ 1000000000) (hp1 : -9223372036854775808 ≤ p) (hp2 : p < 0) :
    Calls Try.prog 60 #[vb, .int .i64 p] w (HandsGO w (get b p)) := by
  obtain ⟨q, cap, rfl, hcap, hmx, _, hc⟩ := hb.open
  have hp : pr p = 0 := by unfold pr; omega
  by_cases h0 : b.length = 0
  · have HG := hid (get_len0 p h0)
    have hd0 : ((b.length : Int) == 0) = true := by rw [h0]; rfl
    go_enter Try.func60, Try.ntmps60
    go_wp2
    ((try simp only [Exit.inBlock, Exit.then]); refine bodyPost_ret (results_cell3 rfl _ _ _ _ _ _ _ rfl (heap_new _ _) Try.underlying38 rfl (by kernel_rfl)) rfl ?_)
    exact HandsG.no HG.out ((Nw.refl w).alloc _)
  · have hd0 : ((b.length : Int) == 0) = false := beq_eq_false_iff_ne.2 (by omega)
    by_cases h1 : b.length = 1
    · have HG := hid (get_len1 p h1)
      have hd1 : ((b.length : Int) == 1) = true := by rw [h1]; rfl
      go_enter Try.func60, Try.ntmps60
      go_wp2
      ((try simp only [Exit.inBlock, Exit.then]); refine bodyPost_ret (results_cell3 rfl _ _ _ _ _ _ _ rfl (heap_new _ _) Try.underlying38 rfl (by kernel_rfl)) rfl ?_)
      exact HandsG.no HG.out ((Nw.refl w).alloc _)
    · have hd1 : ((b.length : Int) == 1) = false := beq_eq_false_iff_ne.2 (by omega)
      obtain ⟨bb, bo, x0, rfl, hcell0, hx0, hl0⟩ := u8s_cell hc 0 (by omega)
      obtain ⟨_, _, x1, e, hcell1, hx1, hl1⟩ := u8s_cell hc 1 (by omega)
      cases e
      have hb0 : 0 < b.length := by omega
      have hb1 : 1 < b.length := by omega
      simp only [Nat.add_zero] at hcell0
      have hbb : bb < w.heap.size := World.block_lt_of_cell? w _ hcell0
      have hsz : (size b : Int) = 256 * (x0.toNat : Int) + x1.toNat := by unfold size; simp only [List.getD_eq_getElem?_getD, hx0.out, hx1.out, Option.getD_some]; omega
      have hor := or_size x0.toNat x1.toNat x0.toNat_lt x1.toNat_lt
      have hor2 : 256 * (x0.toNat : Int) + x1.toNat = size b := hsz.symm
      rw [← hsz] at hor
      have hsb := size_bd b
      have HF := hid (get_form (b := b) p (by omega))
      have HSH := hid (get_short (b := b) p (by omega))
      have HLO := hid (get_long (b := b) p (by omega))
      have HC := hid hc
      clear hsz hc
      generalize size b = n at *
      by_cases h8 : n < 8
      · have HG := hid (HF.out (Or.inl h8))
        have hd8 : decide ((n : Int) < 8) = true := decide_eq_true (by omega)
        go_enter Try.func60, Try.ntmps60
        go_upto_region 7 with fail
        go_quiet (fail)
        have hnq : Nw w ((w.alloc (.cells #[.int .u64 0, .slice none 0 0] 38)).drewN nq) := ((Nw.refl w).alloc _).drewN2 nq
        have zhq : ((w.alloc (.cells #[.int .u64 0, .slice none 0 0] 38)).drewN nq).heap[w.heap.size]? = some (.cells #[.int .u64 0, .slice none 0 0] 38 (0, 0)) := heap_new w _
        generalize (w.alloc (.cells #[.int .u64 0, .slice none 0 0] 38)).drewN nq = wq at *
        have zq0 := heap_cell zhq 0
        have zq1 := heap_cell zhq 1
        have zq2 := heap_frozen zhq 0
        have zq3 := heap_frozen zhq 1
        simp at zq0 zq1
        go_wp2
        ((try simp only [Exit.inBlock, Exit.then]); refine bodyPost_ret (results_cell3 rfl _ _ _ _ _ _ _ rfl (zero_heap zhq hnq (Nat.le_refl _) _ _).1 Try.underlying38 rfl (by kernel_rfl)) rfl ?_)
        exact HandsG.no HG.out (zero_heap zhq hnq (Nat.le_refl _) _ _).2
      · have hd8 : decide ((n : Int) < 8) = false := decide_eq_false (by omega)
        by_cases h9 : 8 + 0 < (n : Int)
        · have HG := hid (HF.out (Or.inr (by rw [hp]; exact h9)))
          have hd9 : decide (8 + 0 < (n : Int)) = true := decide_eq_true h9
          go_enter Try.func60, Try.ntmps60
          go_upto_region 7 with fail
          go_quiet (fail)
          have hnq : Nw w ((w.alloc (.cells #[.int .u64 0, .slice none 0 0] 38)).drewN nq) := ((Nw.refl w).alloc _).drewN2 nq
          have zhq : ((w.alloc (.cells #[.int .u64 0, .slice none 0 0] 38)).drewN nq).heap[w.heap.size]? = some (.cells #[.int .u64 0, .slice none 0 0] 38 (0, 0)) := heap_new w _
          generalize (w.alloc (.cells #[.int .u64 0, .slice none 0 0] 38)).drewN nq = wq at *
          have zq0 := heap_cell zhq 0
          have zq1 := heap_cell zhq 1
          have zq2 := heap_frozen zhq 0
          have zq3 := heap_frozen zhq 1
          simp at zq0 zq1
          go_wp2
          ((try simp only [Exit.inBlock, Exit.then]); refine bodyPost_ret (results_cell3 rfl _ _ _ _ _ _ _ rfl (zero_heap zhq hnq (Nat.le_refl _) _ _).1 Try.underlying38 rfl (by kernel_rfl)) rfl ?_)
          exact HandsG.no HG.out (zero_heap zhq hnq (Nat.le_refl _) _ _).2
        · have hd9 : decide (8 + 0 < (n : Int)) = false := decide_eq_false h9
          by_cases hl : b.length < n + 6
          · have HG := hid (HSH.out (by rw [hp]; omega) hl)
            have hdl : decide ((b.length : Int) < (n : Int) + 6) = true := decide_eq_true (by omega)
            go_enter Try.func60, Try.ntmps60
            go_upto_region 7 with fail
            go_quiet (fail)
            have hnq : Nw w ((w.alloc (.cells #[.int .u64 0, .slice none 0 0] 38)).drewN nq) := ((Nw.refl w).alloc _).drewN2 nq
            have zhq : ((w.alloc (.cells #[.int .u64 0, .slice none 0 0] 38)).drewN nq).heap[w.heap.size]? = some (.cells #[.int .u64 0, .slice none 0 0] 38 (0, 0)) := heap_new w _
            generalize (w.alloc (.cells #[.int .u64 0, .slice none 0 0] 38)).drewN nq = wq at *
            have zq0 := heap_cell zhq 0
            have zq1 := heap_cell zhq 1
            have zq2 := heap_frozen zhq 0
            have zq3 := heap_frozen zhq 1
            simp at zq0 zq1
            go_wp2
            ((try simp only [Exit.inBlock, Exit.then]); refine bodyPost_ret (results_cell3 rfl _ _ _ _ _ _ _ rfl (zero_heap zhq hnq (Nat.le_refl _) _ _).1 Try.underlying38 rfl (by kernel_rfl)) rfl ?_)
            exact HandsG.no HG.out (zero_heap zhq hnq (Nat.le_refl _) _ _).2
          · have hdl : decide ((b.length : Int) < (n : Int) + 6) = false := decide_eq_false (by omega)
            have hl3 := HLO.out (by rw [hp]; omega) hl
            have hbt : Bytes w (.slice (some ⟨bb, bo, none⟩) (n + 6) cap) (b.take (n + 6)) := Bytes.mk (by rw [u8s_take]; exact HC.out.take _) (by simp; omega) (by simp; omega) hmx (fun h => by cases h)
            have hbl : (b.take (n + 6)).length ≤ 1073741824 := by simp; omega
            have hcn : n + 6 ≤ cap := by omega
            cases hr : right (b.take (n + 6)) with
            | none =>
              rw [hr] at hl3
              have HG := hid hl3
              clear hl3
              go_enter Try.func60, Try.ntmps60
              go_upto_region 7 with fail
              go_quiet (fail)
              have hnq : Nw w ((w.alloc (.cells #[.int .u64 0, .slice none 0 0] 38)).drewN nq) := ((Nw.refl w).alloc _).drewN2 nq
              have zhq : ((w.alloc (.cells #[.int .u64 0, .slice none 0 0] 38)).drewN nq).heap[w.heap.size]? = some (.cells #[.int .u64 0, .slice none 0 0] 38 (0, 0)) := heap_new w _
              generalize (w.alloc (.cells #[.int .u64 0, .slice none 0 0] 38)).drewN nq = wq at *
              have zq0 := heap_cell zhq 0
              have zq1 := heap_cell zhq 1
              have zq2 := heap_frozen zhq 0
              have zq3 := heap_frozen zhq 1
              simp at zq0 zq1
              go_wp2_with (first
                | (go_at_call 57; refine (Sum.right_c _ (b.take (n + 6)) _ (hbt.nw (by repeat (first | assumption | exact Nw.refl _ | refine Nw.alloc ?_ _ | refine Nw.drew ?_ | refine Nw.drewN2 ?_ _ | (refine Nw.trans ?_ (by assumption))))) hbl).mono ?_; rintro e w2 ⟨v2, rfl, hb2, hn2⟩; rw [hr] at hb2 ⊢; obtain ⟨p2, c2, rfl, _⟩ := hb2.open; have zh := hn2.heap zhq; have z0 := heap_cell zh 0; have z1 := heap_cell zh 1; have z2 := heap_frozen zh 0; have z3 := heap_frozen zh 1; simp at z0 z1))
              ((try simp only [Exit.inBlock, Exit.then]); refine bodyPost_ret (results_cell3 rfl _ _ _ _ _ _ _ rfl (zero_heap zh (hnq.trans hn2) (Nat.le_refl _) _ _).1 Try.underlying38 rfl (by kernel_rfl)) rfl ?_)
              exact HandsG.no HG.out (zero_heap zh (hnq.trans hn2) (Nat.le_refl _) _ _).2
            | some r =>
              rw [hr] at hl3
              dsimp only at hl3
              rw [ids_nats] at hl3
              unfold time at hl3
              have hrl := right_len hr
              have hrn : r.length = n + 2 := by rw [List.length_take] at hrl; omega
              have hTl : ((r.drop 2).take 8).length = 8 := by rw [List.length_take, List.length_drop]; omega
              have hDl : (r.drop 10).length = n - 8 := by rw [List.length_drop]; omega
              obtain ⟨T, hT⟩ : ∃ T, T = (r.drop 2).take 8 := ⟨_, rfl⟩
              obtain ⟨D, hD⟩ : ∃ D, D = r.drop 10 := ⟨_, rfl⟩
              rw [← hT] at hTl hl3
              rw [← hD] at hDl hl3
              have HT := hid hT
              have HD := hid hD
              have HL := hid hl3
              clear hl3 hT hD
              go_enter Try.func60, Try.ntmps60
              go_upto_region 7 with fail
              go_quiet (fail)
              have hnq : Nw w ((w.alloc (.cells #[.int .u64 0, .slice none 0 0] 38)).drewN nq) := ((Nw.refl w).alloc _).drewN2 nq
              have zhq : ((w.alloc (.cells #[.int .u64 0, .slice none 0 0] 38)).drewN nq).heap[w.heap.size]? = some (.cells #[.int .u64 0, .slice none 0 0] 38 (0, 0)) := heap_new w _
              generalize (w.alloc (.cells #[.int .u64 0, .slice none 0 0] 38)).drewN nq = wq at *
              have zq0 := heap_cell zhq 0
              have zq1 := heap_cell zhq 1
              have zq2 := heap_frozen zhq 0
              have zq3 := heap_frozen zhq 1
              simp at zq0 zq1
              go_wp2_with (first
                | (go_at_call 57; refine (Sum.right_c _ (b.take (n + 6)) _ (hbt.nw (by repeat (first | assumption | exact Nw.refl _ | refine Nw.alloc ?_ _ | refine Nw.drew ?_ | refine Nw.drewN2 ?_ _ | (refine Nw.trans ?_ (by assumption))))) hbl).mono ?_; rintro e w2 ⟨v2, rfl, hb2, hn2⟩; rw [hr] at hb2 ⊢; obtain ⟨p2, c2, rfl, hc2, hm2, _, hcs2⟩ := Bytes.open (bs := r) hb2; obtain ⟨rb, ro, rfl⟩ := hcs2.place (by rw [u8s_length]; omega); have zh := hn2.heap zhq; have z0 := heap_cell zh 0; have z1 := heap_cell zh 1; have z2 := heap_frozen zh 0; have z3 := heap_frozen zh 1; simp at z0 z1; have hr10 : 10 ≤ c2 := (by omega))
                | fail)
              have HC8 := hid (show Cells w2 (some ⟨rb, ro + 2, none⟩) (u8s T) by rw [HT.out]; exact sub8 hcs2)
              have HC10 := hid (show Cells w2 (some ⟨rb, ro + 10, none⟩) (u8s D) by rw [HD.out]; exact sub10 hcs2)
              clear hcs2 hbt hb hb2
              obtain rfl : n = D.length + 8 := by omega
              have hDb : D.length < 65536 := by omega
              clear hDl
              push_cast
              go_loopw [12, 65] (fun _ i wr => ∃ k : Nat, k ≤ 8 ∧ i = .int .i64 k ∧ EvSt w2 w.heap.size w2.heap.size (val (T.take k)) (.slice none 0 0) [] wr) (fun _ i _ => 8 - (intOf i).toNat)
              case atStart => exact ⟨0, by omega, rfl, EvSt.new zh rfl⟩
              case round =>
                obtain ⟨k, hk, rfl, hst⟩ := hrel
                obtain ⟨r0, r1, r2, r3, r4, r5, r6, r7, r8⟩ := hst.read
                have hn8 := hst.2.2.2.1
                have HST := hid hst
                clear hst
                by_cases hlt : k < 8
                · have hdk : decide ((k : Int) < 8) = true := decide_eq_true (by omega)
                  obtain ⟨bx, ox, xb, e, hcell, hx, hlx⟩ := u8s_cell (HC8.out.nw hn8) k (by omega)
                  cases e
                  have HS := hid (val_snoc T k xb hx.out)
                  obtain ⟨v0, v1⟩ := val_lt (T.take k) k (by simp; omega)
                  have hor3 := or_time (val (T.take k)) xb.toNat v0 v1 (by omega) hlx
                  generalize val (T.take k) = A at *
                  go_wp2
                  go_roundw
                  case rel => exact ⟨k + 1, by omega, by go_num, by rw [HS.out]; exact HST.out.time _⟩
                  case measure => simp [intOf]; omega
                · obtain rfl : k = 8 := by omega
                  rw [show ((8 : Nat) : Int) = 8 from rfl]
                  have hdk : decide ((8 : Int) < 8) = false := rfl
                  have hst2 := HST.out
                  rw [List.take_of_length_le (by omega)] at hst2 r0
                  clear HST
                  by_cases hc10 : c2 = 10
                  · go_wp2
                    have hDz : c2 = 10 → D.length = 0 := by omega
                    go_loopw [14, 80] (fun _ i wr => ∃ k : Nat, k ≤ D.length ∧ i = .int .i64 k ∧ ∃ v L, Hid (L = (nats D).take k) ∧ EvSt w2 w.heap.size w2.heap.size (val T) v L wr) (fun _ i _ => D.length - (intOf i).toNat)
                    case atStart => exact ⟨0, Nat.zero_le _, rfl, _, [], (rfl : _ = _), hst2⟩
                    case round =>
                      obtain ⟨k, hk, rfl, v, L, HLe, hst⟩ := hrel
                      obtain ⟨r0, r1, r2, r3, r4, r5, r6, r7, r8⟩ := hst.read
                      obtain ⟨pv, cv, rfl, hcv, hmv, _⟩ := i64s_open hst.2.2.1.sl
                      have hnl : L.length ≤ k := by rw [HLe.out]; exact Nat.le_of_eq (nats_len D k hk)
                      have HST := hid hst
                      clear hst
                      by_cases hlt : k < D.length
                      · exfalso; first | omega | (have := hDz hc10; omega)
                      · obtain rfl : k = D.length := by omega
                        have hdk : decide (D.length < D.length) = false := decide_eq_false (by omega)
                        clear hnl
                        have hLD : nats D = L := by rw [HLe.out, nats_all]
                        have hslD := HST.out.2.2.1.sl
                        rw [hLD] at HL
                        clear HLe
                        generalize hvT : val T = tv at *
                        clear hLD hvT
                        cases hri : rises L 0 with
                        | false =>
                          have HG := hid (HL.out.trans (if_neg (by rw [hp, hri]; decide)))
                          go_wp2_with (first
                            | (go_at_call 82; refine (rising_c _ L _ _ hslD).mono ?_; rintro e w3 ⟨rfl, hn3⟩; have hs3 := HST.out.nw hn3; obtain ⟨s0, s1, s2, s3, s4, s5, s6, s7, s8⟩ := hs3.read))
                          ((try simp only [Exit.inBlock, Exit.then]); refine bodyPost_ret (results_cell3 rfl _ _ _ _ _ _ _ rfl (zero_heap hs3.2.1 (hnq.trans (hn2.trans hs3.2.2.2.1)) (Nat.le_refl _) _ _).1 Try.underlying38 rfl (by kernel_rfl)) rfl ?_)
                          exact HandsG.no HG.out (zero_heap hs3.2.1 (hnq.trans (hn2.trans hs3.2.2.2.1)) (Nat.le_refl _) _ _).2
                        | true =>
                          have HG := hid (HL.out.trans (if_pos (by rw [hp, hri])))
                          go_wp2_with (first
                            | (go_at_call 82; refine (rising_c _ L _ _ hslD).mono ?_; rintro e w3 ⟨rfl, hn3⟩; have hs3 := HST.out.nw hn3; obtain ⟨s0, s1, s2, s3, s4, s5, s6, s7, s8⟩ := hs3.read))
                          obtain ⟨d0, d2, d3⟩ := hs3.doneO (hnq.trans hn2) (Nat.le_refl _) rfl
                          ((try simp only [Exit.inBlock, Exit.then]); refine bodyPost_ret (results_cell3 rfl _ _ _ _ _ _ _ rfl d0 Try.underlying38 rfl (by kernel_rfl)) rfl ?_)
                          exact HandsG.yes HG.out (by have := hDz; omega) d2 d3
                  · go_wp2
                    have hDz : c2 = 10 → D.length = 0 := by omega
                    go_loopw [14, 80] (fun _ i wr => ∃ k : Nat, k ≤ D.length ∧ i = .int .i64 k ∧ ∃ v L, Hid (L = (nats D).take k) ∧ EvSt w2 w.heap.size w2.heap.size (val T) v L wr) (fun _ i _ => D.length - (intOf i).toNat)
                    case atStart => exact ⟨0, Nat.zero_le _, rfl, _, [], (rfl : _ = _), hst2⟩
                    case round =>
                      obtain ⟨k, hk, rfl, v, L, HLe, hst⟩ := hrel
                      obtain ⟨r0, r1, r2, r3, r4, r5, r6, r7, r8⟩ := hst.read
                      obtain ⟨pv, cv, rfl, hcv, hmv, _⟩ := i64s_open hst.2.2.1.sl
                      have hnl : L.length ≤ k := by rw [HLe.out]; exact Nat.le_of_eq (nats_len D k hk)
                      have HST := hid hst
                      clear hst
                      by_cases hlt : k < D.length
                      · exfalso; first | omega | (have := hDz hc10; omega)
                      · obtain rfl : k = D.length := by omega
                        have hdk : decide (D.length < D.length) = false := decide_eq_false (by omega)
                        clear hnl
                        have hLD : nats D = L := by rw [HLe.out, nats_all]
                        have hslD := HST.out.2.2.1.sl
                        rw [hLD] at HL
                        clear HLe
                        generalize hvT : val T = tv at *
                        clear hLD hvT
                        cases hri : rises L 0 with
                        | false =>
                          have HG := hid (HL.out.trans (if_neg (by rw [hp, hri]; decide)))
                          go_wp2_with (first
                            | (go_at_call 82; refine (rising_c _ L _ _ hslD).mono ?_; rintro e w3 ⟨rfl, hn3⟩; have hs3 := HST.out.nw hn3; obtain ⟨s0, s1, s2, s3, s4, s5, s6, s7, s8⟩ := hs3.read))
                          ((try simp only [Exit.inBlock, Exit.then]); refine bodyPost_ret (results_cell3 rfl _ _ _ _ _ _ _ rfl (zero_heap hs3.2.1 (hnq.trans (hn2.trans hs3.2.2.2.1)) (Nat.le_refl _) _ _).1 Try.underlying38 rfl (by kernel_rfl)) rfl ?_)
                          exact HandsG.no HG.out (zero_heap hs3.2.1 (hnq.trans (hn2.trans hs3.2.2.2.1)) (Nat.le_refl _) _ _).2
                        | true =>
                          have HG := hid (HL.out.trans (if_pos (by rw [hp, hri])))
                          go_wp2_with (first
                            | (go_at_call 82; refine (rising_c _ L _ _ hslD).mono ?_; rintro e w3 ⟨rfl, hn3⟩; have hs3 := HST.out.nw hn3; obtain ⟨s0, s1, s2, s3, s4, s5, s6, s7, s8⟩ := hs3.read))
                          obtain ⟨d0, d2, d3⟩ := hs3.doneO (hnq.trans hn2) (Nat.le_refl _) rfl
                          ((try simp only [Exit.inBlock, Exit.then]); refine bodyPost_ret (results_cell3 rfl _ _ _ _ _ _ _ rfl d0 Try.underlying38 rfl (by kernel_rfl)) rfl ?_)
                          exact HandsG.yes HG.out (by have := hDz; omega) d2 d3
set_option maxRecDepth 20000 in
set_option maxHeartbeats 3200000 in
theorem get_mid (vb : Value) (b : List UInt8) (p : Int) (w : World) (hb : Bytes w vb b) (hlen : b.length ≤ 1000000000) (hp1 : 0 ≤ p) (hp2 : p ≤ 64) :
    Calls Try.prog 60 #[vb, .int .i64 p] w (HandsGO w (get b p)) := by
  obtain ⟨q, cap, rfl, hcap, hmx, _, hc⟩ := hb.open
  have hp : pr p = p := by unfold pr; omega
  by_cases h0 : b.length = 0
  · have HG := hid (get_len0 p h0)
    have hd0 : ((b.length : Int) == 0) = true := by rw [h0]; rfl
    go_enter Try.func60, Try.ntmps60
    go_wp2
    ((try simp only [Exit.inBlock, Exit.then]); refine bodyPost_ret (results_cell3 rfl _ _ _ _ _ _ _ rfl (heap_new _ _) Try.underlying38 rfl (by kernel_rfl)) rfl ?_)
    exact HandsG.no HG.out ((Nw.refl w).alloc _)
  · have hd0 : ((b.length : Int) == 0) = false := beq_eq_false_iff_ne.2 (by omega)
    by_cases h1 : b.length = 1
    · have HG := hid (get_len1 p h1)
      have hd1 : ((b.length : Int) == 1) = true := by rw [h1]; rfl
      go_enter Try.func60, Try.ntmps60
      go_wp2
      ((try simp only [Exit.inBlock, Exit.then]); refine bodyPost_ret (results_cell3 rfl _ _ _ _ _ _ _ rfl (heap_new _ _) Try.underlying38 rfl (by kernel_rfl)) rfl ?_)
      exact HandsG.no HG.out ((Nw.refl w).alloc _)
    · have hd1 : ((b.length : Int) == 1) = false := beq_eq_false_iff_ne.2 (by omega)
      obtain ⟨bb, bo, x0, rfl, hcell0, hx0, hl0⟩ := u8s_cell hc 0 (by omega)
      obtain ⟨_, _, x1, e, hcell1, hx1, hl1⟩ := u8s_cell hc 1 (by omega)
      cases e
      have hb0 : 0 < b.length := by omega
      have hb1 : 1 < b.length := by omega
      simp only [Nat.add_zero] at hcell0
      have hbb : bb < w.heap.size := World.block_lt_of_cell? w _ hcell0
      have hsz : (size b : Int) = 256 * (x0.toNat : Int) + x1.toNat := by unfold size; simp only [List.getD_eq_getElem?_getD, hx0.out, hx1.out, Option.getD_some]; omega
      have hor := or_size x0.toNat x1.toNat x0.toNat_lt x1.toNat_lt
      have hor2 : 256 * (x0.toNat : Int) + x1.toNat = size b := hsz.symm
      rw [← hsz] at hor
      have hsb := size_bd b
      have HF := hid (get_form (b := b) p (by omega))
      have HSH := hid (get_short (b := b) p (by omega))
      have HLO := hid (get_long (b := b) p (by omega))
      have HC := hid hc
      clear hsz hc
      generalize size b = n at *
      by_cases h8 : n < 8
      · have HG := hid (HF.out (Or.inl h8))
        have hd8 : decide ((n : Int) < 8) = true := decide_eq_true (by omega)
        go_enter Try.func60, Try.ntmps60
        go_upto_region 7 with fail
        go_quiet (fail)
        have hnq : Nw w ((w.alloc (.cells #[.int .u64 0, .slice none 0 0] 38)).drewN nq) := ((Nw.refl w).alloc _).drewN2 nq
        have zhq : ((w.alloc (.cells #[.int .u64 0, .slice none 0 0] 38)).drewN nq).heap[w.heap.size]? = some (.cells #[.int .u64 0, .slice none 0 0] 38 (0, 0)) := heap_new w _
        generalize (w.alloc (.cells #[.int .u64 0, .slice none 0 0] 38)).drewN nq = wq at *
        have zq0 := heap_cell zhq 0
        have zq1 := heap_cell zhq 1
        have zq2 := heap_frozen zhq 0
        have zq3 := heap_frozen zhq 1
        simp at zq0 zq1
        go_wp2
        ((try simp only [Exit.inBlock, Exit.then]); refine bodyPost_ret (results_cell3 rfl _ _ _ _ _ _ _ rfl (zero_heap zhq hnq (Nat.le_refl _) _ _).1 Try.underlying38 rfl (by kernel_rfl)) rfl ?_)
        exact HandsG.no HG.out (zero_heap zhq hnq (Nat.le_refl _) _ _).2
      · have hd8 : decide ((n : Int) < 8) = false := decide_eq_false (by omega)
        by_cases h9 : 8 + p < (n : Int)
        · have HG := hid (HF.out (Or.inr (by rw [hp]; exact h9)))
          have hd9 : decide (8 + p < (n : Int)) = true := decide_eq_true h9
          go_enter Try.func60, Try.ntmps60
          go_upto_region 7 with fail
          go_quiet (fail)
          have hnq : Nw w ((w.alloc (.cells #[.int .u64 0, .slice none 0 0] 38)).drewN nq) := ((Nw.refl w).alloc _).drewN2 nq
          have zhq : ((w.alloc (.cells #[.int .u64 0, .slice none 0 0] 38)).drewN nq).heap[w.heap.size]? = some (.cells #[.int .u64 0, .slice none 0 0] 38 (0, 0)) := heap_new w _
          generalize (w.alloc (.cells #[.int .u64 0, .slice none 0 0] 38)).drewN nq = wq at *
          have zq0 := heap_cell zhq 0
          have zq1 := heap_cell zhq 1
          have zq2 := heap_frozen zhq 0
          have zq3 := heap_frozen zhq 1
          simp at zq0 zq1
          go_wp2
          ((try simp only [Exit.inBlock, Exit.then]); refine bodyPost_ret (results_cell3 rfl _ _ _ _ _ _ _ rfl (zero_heap zhq hnq (Nat.le_refl _) _ _).1 Try.underlying38 rfl (by kernel_rfl)) rfl ?_)
          exact HandsG.no HG.out (zero_heap zhq hnq (Nat.le_refl _) _ _).2
        · have hd9 : decide (8 + p < (n : Int)) = false := decide_eq_false h9
          by_cases hl : b.length < n + 6
          · have HG := hid (HSH.out (by rw [hp]; omega) hl)
            have hdl : decide ((b.length : Int) < (n : Int) + 6) = true := decide_eq_true (by omega)
            go_enter Try.func60, Try.ntmps60
            go_upto_region 7 with fail
            go_quiet (fail)
            have hnq : Nw w ((w.alloc (.cells #[.int .u64 0, .slice none 0 0] 38)).drewN nq) := ((Nw.refl w).alloc _).drewN2 nq
            have zhq : ((w.alloc (.cells #[.int .u64 0, .slice none 0 0] 38)).drewN nq).heap[w.heap.size]? = some (.cells #[.int .u64 0, .slice none 0 0] 38 (0, 0)) := heap_new w _
            generalize (w.alloc (.cells #[.int .u64 0, .slice none 0 0] 38)).drewN nq = wq at *
            have zq0 := heap_cell zhq 0
            have zq1 := heap_cell zhq 1
            have zq2 := heap_frozen zhq 0
            have zq3 := heap_frozen zhq 1
            simp at zq0 zq1
            go_wp2
            ((try simp only [Exit.inBlock, Exit.then]); refine bodyPost_ret (results_cell3 rfl _ _ _ _ _ _ _ rfl (zero_heap zhq hnq (Nat.le_refl _) _ _).1 Try.underlying38 rfl (by kernel_rfl)) rfl ?_)
            exact HandsG.no HG.out (zero_heap zhq hnq (Nat.le_refl _) _ _).2
          · have hdl : decide ((b.length : Int) < (n : Int) + 6) = false := decide_eq_false (by omega)
            have hl3 := HLO.out (by rw [hp]; omega) hl
            have hbt : Bytes w (.slice (some ⟨bb, bo, none⟩) (n + 6) cap) (b.take (n + 6)) := Bytes.mk (by rw [u8s_take]; exact HC.out.take _) (by simp; omega) (by simp; omega) hmx (fun h => by cases h)
            have hbl : (b.take (n + 6)).length ≤ 1073741824 := by simp; omega
            have hcn : n + 6 ≤ cap := by omega
            cases hr : right (b.take (n + 6)) with
            | none =>
              rw [hr] at hl3
              have HG := hid hl3
              clear hl3
              go_enter Try.func60, Try.ntmps60
              go_upto_region 7 with fail
              go_quiet (fail)
              have hnq : Nw w ((w.alloc (.cells #[.int .u64 0, .slice none 0 0] 38)).drewN nq) := ((Nw.refl w).alloc _).drewN2 nq
              have zhq : ((w.alloc (.cells #[.int .u64 0, .slice none 0 0] 38)).drewN nq).heap[w.heap.size]? = some (.cells #[.int .u64 0, .slice none 0 0] 38 (0, 0)) := heap_new w _
              generalize (w.alloc (.cells #[.int .u64 0, .slice none 0 0] 38)).drewN nq = wq at *
              have zq0 := heap_cell zhq 0
              have zq1 := heap_cell zhq 1
              have zq2 := heap_frozen zhq 0
              have zq3 := heap_frozen zhq 1
              simp at zq0 zq1
              go_wp2_with (first
                | (go_at_call 57; refine (Sum.right_c _ (b.take (n + 6)) _ (hbt.nw (by repeat (first | assumption | exact Nw.refl _ | refine Nw.alloc ?_ _ | refine Nw.drew ?_ | refine Nw.drewN2 ?_ _ | (refine Nw.trans ?_ (by assumption))))) hbl).mono ?_; rintro e w2 ⟨v2, rfl, hb2, hn2⟩; rw [hr] at hb2 ⊢; obtain ⟨p2, c2, rfl, _⟩ := hb2.open; have zh := hn2.heap zhq; have z0 := heap_cell zh 0; have z1 := heap_cell zh 1; have z2 := heap_frozen zh 0; have z3 := heap_frozen zh 1; simp at z0 z1))
              ((try simp only [Exit.inBlock, Exit.then]); refine bodyPost_ret (results_cell3 rfl _ _ _ _ _ _ _ rfl (zero_heap zh (hnq.trans hn2) (Nat.le_refl _) _ _).1 Try.underlying38 rfl (by kernel_rfl)) rfl ?_)
              exact HandsG.no HG.out (zero_heap zh (hnq.trans hn2) (Nat.le_refl _) _ _).2
            | some r =>
              rw [hr] at hl3
              dsimp only at hl3
              rw [ids_nats] at hl3
              unfold time at hl3
              have hrl := right_len hr
              have hrn : r.length = n + 2 := by rw [List.length_take] at hrl; omega
              have hTl : ((r.drop 2).take 8).length = 8 := by rw [List.length_take, List.length_drop]; omega
              have hDl : (r.drop 10).length = n - 8 := by rw [List.length_drop]; omega
              obtain ⟨T, hT⟩ : ∃ T, T = (r.drop 2).take 8 := ⟨_, rfl⟩
              obtain ⟨D, hD⟩ : ∃ D, D = r.drop 10 := ⟨_, rfl⟩
              rw [← hT] at hTl hl3
              rw [← hD] at hDl hl3
              have HT := hid hT
              have HD := hid hD
              have HL := hid hl3
              clear hl3 hT hD
              go_enter Try.func60, Try.ntmps60
              go_upto_region 7 with fail
              go_quiet (fail)
              have hnq : Nw w ((w.alloc (.cells #[.int .u64 0, .slice none 0 0] 38)).drewN nq) := ((Nw.refl w).alloc _).drewN2 nq
              have zhq : ((w.alloc (.cells #[.int .u64 0, .slice none 0 0] 38)).drewN nq).heap[w.heap.size]? = some (.cells #[.int .u64 0, .slice none 0 0] 38 (0, 0)) := heap_new w _
              generalize (w.alloc (.cells #[.int .u64 0, .slice none 0 0] 38)).drewN nq = wq at *
              have zq0 := heap_cell zhq 0
              have zq1 := heap_cell zhq 1
              have zq2 := heap_frozen zhq 0
              have zq3 := heap_frozen zhq 1
              simp at zq0 zq1
              go_wp2_with (first
                | (go_at_call 57; refine (Sum.right_c _ (b.take (n + 6)) _ (hbt.nw (by repeat (first | assumption | exact Nw.refl _ | refine Nw.alloc ?_ _ | refine Nw.drew ?_ | refine Nw.drewN2 ?_ _ | (refine Nw.trans ?_ (by assumption))))) hbl).mono ?_; rintro e w2 ⟨v2, rfl, hb2, hn2⟩; rw [hr] at hb2 ⊢; obtain ⟨p2, c2, rfl, hc2, hm2, _, hcs2⟩ := Bytes.open (bs := r) hb2; obtain ⟨rb, ro, rfl⟩ := hcs2.place (by rw [u8s_length]; omega); have zh := hn2.heap zhq; have z0 := heap_cell zh 0; have z1 := heap_cell zh 1; have z2 := heap_frozen zh 0; have z3 := heap_frozen zh 1; simp at z0 z1; have hr10 : 10 ≤ c2 := (by omega))
                | fail)
              have HC8 := hid (show Cells w2 (some ⟨rb, ro + 2, none⟩) (u8s T) by rw [HT.out]; exact sub8 hcs2)
              have HC10 := hid (show Cells w2 (some ⟨rb, ro + 10, none⟩) (u8s D) by rw [HD.out]; exact sub10 hcs2)
              clear hcs2 hbt hb hb2
              obtain rfl : n = D.length + 8 := by omega
              have hDb : D.length < 65536 := by omega
              clear hDl
              push_cast
              go_loopw [12, 65] (fun _ i wr => ∃ k : Nat, k ≤ 8 ∧ i = .int .i64 k ∧ EvSt w2 w.heap.size w2.heap.size (val (T.take k)) (.slice none 0 0) [] wr) (fun _ i _ => 8 - (intOf i).toNat)
              case atStart => exact ⟨0, by omega, rfl, EvSt.new zh rfl⟩
              case round =>
                obtain ⟨k, hk, rfl, hst⟩ := hrel
                obtain ⟨r0, r1, r2, r3, r4, r5, r6, r7, r8⟩ := hst.read
                have hn8 := hst.2.2.2.1
                have HST := hid hst
                clear hst
                by_cases hlt : k < 8
                · have hdk : decide ((k : Int) < 8) = true := decide_eq_true (by omega)
                  obtain ⟨bx, ox, xb, e, hcell, hx, hlx⟩ := u8s_cell (HC8.out.nw hn8) k (by omega)
                  cases e
                  have HS := hid (val_snoc T k xb hx.out)
                  obtain ⟨v0, v1⟩ := val_lt (T.take k) k (by simp; omega)
                  have hor3 := or_time (val (T.take k)) xb.toNat v0 v1 (by omega) hlx
                  generalize val (T.take k) = A at *
                  go_wp2
                  go_roundw
                  case rel => exact ⟨k + 1, by omega, by go_num, by rw [HS.out]; exact HST.out.time _⟩
                  case measure => simp [intOf]; omega
                · obtain rfl : k = 8 := by omega
                  rw [show ((8 : Nat) : Int) = 8 from rfl]
                  have hdk : decide ((8 : Int) < 8) = false := rfl
                  have hst2 := HST.out
                  rw [List.take_of_length_le (by omega)] at hst2 r0
                  clear HST
                  by_cases hc10 : c2 = 10
                  · go_wp2
                    have hDz : c2 = 10 → D.length = 0 := by omega
                    go_loopw [14, 80] (fun _ i wr => ∃ k : Nat, k ≤ D.length ∧ i = .int .i64 k ∧ ∃ v L, Hid (L = (nats D).take k) ∧ EvSt w2 w.heap.size w2.heap.size (val T) v L wr) (fun _ i _ => D.length - (intOf i).toNat)
                    case atStart => exact ⟨0, Nat.zero_le _, rfl, _, [], (rfl : _ = _), hst2⟩
                    case round =>
                      obtain ⟨k, hk, rfl, v, L, HLe, hst⟩ := hrel
                      obtain ⟨r0, r1, r2, r3, r4, r5, r6, r7, r8⟩ := hst.read
                      obtain ⟨pv, cv, rfl, hcv, hmv, _⟩ := i64s_open hst.2.2.1.sl
                      have hnl : L.length ≤ k := by rw [HLe.out]; exact Nat.le_of_eq (nats_len D k hk)
                      have HST := hid hst
                      clear hst
                      by_cases hlt : k < D.length
                      · exfalso; first | omega | (have := hDz hc10; omega)
                      · obtain rfl : k = D.length := by omega
                        have hdk : decide (D.length < D.length) = false := decide_eq_false (by omega)
                        clear hnl
                        have hLD : nats D = L := by rw [HLe.out, nats_all]
                        have hslD := HST.out.2.2.1.sl
                        rw [hLD] at HL
                        clear HLe
                        generalize hvT : val T = tv at *
                        clear hLD hvT
                        cases hri : rises L p with
                        | false =>
                          have HG := hid (HL.out.trans (if_neg (by rw [hp, hri]; decide)))
                          go_wp2_with (first
                            | (go_at_call 82; refine (rising_c _ L _ _ hslD).mono ?_; rintro e w3 ⟨rfl, hn3⟩; have hs3 := HST.out.nw hn3; obtain ⟨s0, s1, s2, s3, s4, s5, s6, s7, s8⟩ := hs3.read))
                          ((try simp only [Exit.inBlock, Exit.then]); refine bodyPost_ret (results_cell3 rfl _ _ _ _ _ _ _ rfl (zero_heap hs3.2.1 (hnq.trans (hn2.trans hs3.2.2.2.1)) (Nat.le_refl _) _ _).1 Try.underlying38 rfl (by kernel_rfl)) rfl ?_)
                          exact HandsG.no HG.out (zero_heap hs3.2.1 (hnq.trans (hn2.trans hs3.2.2.2.1)) (Nat.le_refl _) _ _).2
                        | true =>
                          have HG := hid (HL.out.trans (if_pos (by rw [hp, hri])))
                          go_wp2_with (first
                            | (go_at_call 82; refine (rising_c _ L _ _ hslD).mono ?_; rintro e w3 ⟨rfl, hn3⟩; have hs3 := HST.out.nw hn3; obtain ⟨s0, s1, s2, s3, s4, s5, s6, s7, s8⟩ := hs3.read))
                          obtain ⟨d0, d2, d3⟩ := hs3.doneO (hnq.trans hn2) (Nat.le_refl _) rfl
                          ((try simp only [Exit.inBlock, Exit.then]); refine bodyPost_ret (results_cell3 rfl _ _ _ _ _ _ _ rfl d0 Try.underlying38 rfl (by kernel_rfl)) rfl ?_)
                          exact HandsG.yes HG.out (by have := hDz; omega) d2 d3
                  · go_wp2
                    have hDz : c2 = 10 → D.length = 0 := by omega
                    go_loopw [14, 80] (fun _ i wr => ∃ k : Nat, k ≤ D.length ∧ i = .int .i64 k ∧ ∃ v L, Hid (L = (nats D).take k) ∧ EvSt w2 w.heap.size w2.heap.size (val T) v L wr) (fun _ i _ => D.length - (intOf i).toNat)
                    case atStart => exact ⟨0, Nat.zero_le _, rfl, _, [], (rfl : _ = _), hst2⟩
                    case round =>
                      obtain ⟨k, hk, rfl, v, L, HLe, hst⟩ := hrel
                      obtain ⟨r0, r1, r2, r3, r4, r5, r6, r7, r8⟩ := hst.read
                      obtain ⟨pv, cv, rfl, hcv, hmv, _⟩ := i64s_open hst.2.2.1.sl
                      have hnl : L.length ≤ k := by rw [HLe.out]; exact Nat.le_of_eq (nats_len D k hk)
                      have HST := hid hst
                      clear hst
                      by_cases hlt : k < D.length
                      · have hdk : decide (k < D.length) = true := decide_eq_true hlt
                        obtain ⟨bx, ox, x, e, hcell, hx, hlx⟩ := u8s_cell (HC10.out.nw HST.out.2.2.2.1) k hlt
                        cases e
                        have HS := hid (nats_step D k x hx.out)
                        go_wp2_with (first
                          | ((at_builtin; refine app1b rfl _ _ _ rfl _ _ _ Try.underlying23 info_i64 rfl (by decide) ((by simp; omega)) (HST.out.2.2.1.nw ((Nw.refl _).alloc _)) rfl (Sl.new wr [_] _ _ (by simp [maxLen])) rfl (by simp [Value.oneCell']) ?_ ?_; rotate_left; (simp only [i64s_length, List.length_cons, List.length_nil]; omega); intro v1 w1 hown1 hm1); obtain ⟨p1, c1, rfl, hc1, hmx1, _⟩ := hown1.sl.open (n := L.length + 1) (by simp [i64s]); have q1 := (HST.out.mid (l1 := L ++ [(x.toNat : Int)]) hm1 hown1 (by simp [i64s])); have q2 := heap_cell q1.1 1; have q3 := heap_frozen q1.1 1; simp at q2)
                          | fail)
                        go_roundw
                        case rel => exact ⟨k + 1, by omega, by go_num, _, _, (by rw [HLe.out, HS.out] : _ = _), q1.2⟩
                        case measure => simp [intOf]; omega
                      · obtain rfl : k = D.length := by omega
                        have hdk : decide (D.length < D.length) = false := decide_eq_false (by omega)
                        clear hnl
                        have hLD : nats D = L := by rw [HLe.out, nats_all]
                        have hslD := HST.out.2.2.1.sl
                        rw [hLD] at HL
                        clear HLe
                        generalize hvT : val T = tv at *
                        clear hLD hvT
                        cases hri : rises L p with
                        | false =>
                          have HG := hid (HL.out.trans (if_neg (by rw [hp, hri]; decide)))
                          go_wp2_with (first
                            | (go_at_call 82; refine (rising_c _ L _ _ hslD).mono ?_; rintro e w3 ⟨rfl, hn3⟩; have hs3 := HST.out.nw hn3; obtain ⟨s0, s1, s2, s3, s4, s5, s6, s7, s8⟩ := hs3.read))
                          ((try simp only [Exit.inBlock, Exit.then]); refine bodyPost_ret (results_cell3 rfl _ _ _ _ _ _ _ rfl (zero_heap hs3.2.1 (hnq.trans (hn2.trans hs3.2.2.2.1)) (Nat.le_refl _) _ _).1 Try.underlying38 rfl (by kernel_rfl)) rfl ?_)
                          exact HandsG.no HG.out (zero_heap hs3.2.1 (hnq.trans (hn2.trans hs3.2.2.2.1)) (Nat.le_refl _) _ _).2
                        | true =>
                          have HG := hid (HL.out.trans (if_pos (by rw [hp, hri])))
                          go_wp2_with (first
                            | (go_at_call 82; refine (rising_c _ L _ _ hslD).mono ?_; rintro e w3 ⟨rfl, hn3⟩; have hs3 := HST.out.nw hn3; obtain ⟨s0, s1, s2, s3, s4, s5, s6, s7, s8⟩ := hs3.read))
                          obtain ⟨d0, d2, d3⟩ := hs3.doneO (hnq.trans hn2) (Nat.le_refl _) rfl
                          ((try simp only [Exit.inBlock, Exit.then]); refine bodyPost_ret (results_cell3 rfl _ _ _ _ _ _ _ rfl d0 Try.underlying38 rfl (by kernel_rfl)) rfl ?_)
                          exact HandsG.yes HG.out (by have := hDz; omega) d2 d3
set_option maxRecDepth 20000 in
set_option maxHeartbeats 3200000 in
theorem get_high (vb : Value) (b : List UInt8) (p : Int) (w : World) (hb : Bytes w vb b) (hlen : b.length ≤ 1000000000) (hp1 : 64 < p) (hp2 : p ≤ 9223372036854775807) :
    Calls Try.prog 60 #[vb, .int .i64 p] w (HandsGO w (get b p)) := by
  obtain ⟨q, cap, rfl, hcap, hmx, _, hc⟩ := hb.open
  have hp : pr p = 64 := by unfold pr; omega
  by_cases h0 : b.length = 0
  · have HG := hid (get_len0 p h0)
    have hd0 : ((b.length : Int) == 0) = true := by rw [h0]; rfl
    go_enter Try.func60, Try.ntmps60
    go_wp2
    ((try simp only [Exit.inBlock, Exit.then]); refine bodyPost_ret (results_cell3 rfl _ _ _ _ _ _ _ rfl (heap_new _ _) Try.underlying38 rfl (by kernel_rfl)) rfl ?_)
    exact HandsG.no HG.out ((Nw.refl w).alloc _)
  · have hd0 : ((b.length : Int) == 0) = false := beq_eq_false_iff_ne.2 (by omega)
    by_cases h1 : b.length = 1
    · have HG := hid (get_len1 p h1)
      have hd1 : ((b.length : Int) == 1) = true := by rw [h1]; rfl
      go_enter Try.func60, Try.ntmps60
      go_wp2
      ((try simp only [Exit.inBlock, Exit.then]); refine bodyPost_ret (results_cell3 rfl _ _ _ _ _ _ _ rfl (heap_new _ _) Try.underlying38 rfl (by kernel_rfl)) rfl ?_)
      exact HandsG.no HG.out ((Nw.refl w).alloc _)
    · have hd1 : ((b.length : Int) == 1) = false := beq_eq_false_iff_ne.2 (by omega)
      obtain ⟨bb, bo, x0, rfl, hcell0, hx0, hl0⟩ := u8s_cell hc 0 (by omega)
      obtain ⟨_, _, x1, e, hcell1, hx1, hl1⟩ := u8s_cell hc 1 (by omega)
      cases e
      have hb0 : 0 < b.length := by omega
      have hb1 : 1 < b.length := by omega
      simp only [Nat.add_zero] at hcell0
      have hbb : bb < w.heap.size := World.block_lt_of_cell? w _ hcell0
      have hsz : (size b : Int) = 256 * (x0.toNat : Int) + x1.toNat := by unfold size; simp only [List.getD_eq_getElem?_getD, hx0.out, hx1.out, Option.getD_some]; omega
      have hor := or_size x0.toNat x1.toNat x0.toNat_lt x1.toNat_lt
      have hor2 : 256 * (x0.toNat : Int) + x1.toNat = size b := hsz.symm
      rw [← hsz] at hor
      have hsb := size_bd b
      have HF := hid (get_form (b := b) p (by omega))
      have HSH := hid (get_short (b := b) p (by omega))
      have HLO := hid (get_long (b := b) p (by omega))
      have HC := hid hc
      clear hsz hc
      generalize size b = n at *
      by_cases h8 : n < 8
      · have HG := hid (HF.out (Or.inl h8))
        have hd8 : decide ((n : Int) < 8) = true := decide_eq_true (by omega)
        go_enter Try.func60, Try.ntmps60
        go_upto_region 7 with fail
        go_quiet (fail)
        have hnq : Nw w ((w.alloc (.cells #[.int .u64 0, .slice none 0 0] 38)).drewN nq) := ((Nw.refl w).alloc _).drewN2 nq
        have zhq : ((w.alloc (.cells #[.int .u64 0, .slice none 0 0] 38)).drewN nq).heap[w.heap.size]? = some (.cells #[.int .u64 0, .slice none 0 0] 38 (0, 0)) := heap_new w _
        generalize (w.alloc (.cells #[.int .u64 0, .slice none 0 0] 38)).drewN nq = wq at *
        have zq0 := heap_cell zhq 0
        have zq1 := heap_cell zhq 1
        have zq2 := heap_frozen zhq 0
        have zq3 := heap_frozen zhq 1
        simp at zq0 zq1
        go_wp2
        ((try simp only [Exit.inBlock, Exit.then]); refine bodyPost_ret (results_cell3 rfl _ _ _ _ _ _ _ rfl (zero_heap zhq hnq (Nat.le_refl _) _ _).1 Try.underlying38 rfl (by kernel_rfl)) rfl ?_)
        exact HandsG.no HG.out (zero_heap zhq hnq (Nat.le_refl _) _ _).2
      · have hd8 : decide ((n : Int) < 8) = false := decide_eq_false (by omega)
        by_cases h9 : 8 + 64 < (n : Int)
        · have HG := hid (HF.out (Or.inr (by rw [hp]; exact h9)))
          have hd9 : decide (8 + 64 < (n : Int)) = true := decide_eq_true h9
          go_enter Try.func60, Try.ntmps60
          go_upto_region 7 with fail
          go_quiet (fail)
          have hnq : Nw w ((w.alloc (.cells #[.int .u64 0, .slice none 0 0] 38)).drewN nq) := ((Nw.refl w).alloc _).drewN2 nq
          have zhq : ((w.alloc (.cells #[.int .u64 0, .slice none 0 0] 38)).drewN nq).heap[w.heap.size]? = some (.cells #[.int .u64 0, .slice none 0 0] 38 (0, 0)) := heap_new w _
          generalize (w.alloc (.cells #[.int .u64 0, .slice none 0 0] 38)).drewN nq = wq at *
          have zq0 := heap_cell zhq 0
          have zq1 := heap_cell zhq 1
          have zq2 := heap_frozen zhq 0
          have zq3 := heap_frozen zhq 1
          simp at zq0 zq1
          go_wp2
          ((try simp only [Exit.inBlock, Exit.then]); refine bodyPost_ret (results_cell3 rfl _ _ _ _ _ _ _ rfl (zero_heap zhq hnq (Nat.le_refl _) _ _).1 Try.underlying38 rfl (by kernel_rfl)) rfl ?_)
          exact HandsG.no HG.out (zero_heap zhq hnq (Nat.le_refl _) _ _).2
        · have hd9 : decide (8 + 64 < (n : Int)) = false := decide_eq_false h9
          by_cases hl : b.length < n + 6
          · have HG := hid (HSH.out (by rw [hp]; omega) hl)
            have hdl : decide ((b.length : Int) < (n : Int) + 6) = true := decide_eq_true (by omega)
            go_enter Try.func60, Try.ntmps60
            go_upto_region 7 with fail
            go_quiet (fail)
            have hnq : Nw w ((w.alloc (.cells #[.int .u64 0, .slice none 0 0] 38)).drewN nq) := ((Nw.refl w).alloc _).drewN2 nq
            have zhq : ((w.alloc (.cells #[.int .u64 0, .slice none 0 0] 38)).drewN nq).heap[w.heap.size]? = some (.cells #[.int .u64 0, .slice none 0 0] 38 (0, 0)) := heap_new w _
            generalize (w.alloc (.cells #[.int .u64 0, .slice none 0 0] 38)).drewN nq = wq at *
            have zq0 := heap_cell zhq 0
            have zq1 := heap_cell zhq 1
            have zq2 := heap_frozen zhq 0
            have zq3 := heap_frozen zhq 1
            simp at zq0 zq1
            go_wp2
            ((try simp only [Exit.inBlock, Exit.then]); refine bodyPost_ret (results_cell3 rfl _ _ _ _ _ _ _ rfl (zero_heap zhq hnq (Nat.le_refl _) _ _).1 Try.underlying38 rfl (by kernel_rfl)) rfl ?_)
            exact HandsG.no HG.out (zero_heap zhq hnq (Nat.le_refl _) _ _).2
          · have hdl : decide ((b.length : Int) < (n : Int) + 6) = false := decide_eq_false (by omega)
            have hl3 := HLO.out (by rw [hp]; omega) hl
            have hbt : Bytes w (.slice (some ⟨bb, bo, none⟩) (n + 6) cap) (b.take (n + 6)) := Bytes.mk (by rw [u8s_take]; exact HC.out.take _) (by simp; omega) (by simp; omega) hmx (fun h => by cases h)
            have hbl : (b.take (n + 6)).length ≤ 1073741824 := by simp; omega
            have hcn : n + 6 ≤ cap := by omega
            cases hr : right (b.take (n + 6)) with
            | none =>
              rw [hr] at hl3
              have HG := hid hl3
              clear hl3
              go_enter Try.func60, Try.ntmps60
              go_upto_region 7 with fail
              go_quiet (fail)
              have hnq : Nw w ((w.alloc (.cells #[.int .u64 0, .slice none 0 0] 38)).drewN nq) := ((Nw.refl w).alloc _).drewN2 nq
              have zhq : ((w.alloc (.cells #[.int .u64 0, .slice none 0 0] 38)).drewN nq).heap[w.heap.size]? = some (.cells #[.int .u64 0, .slice none 0 0] 38 (0, 0)) := heap_new w _
              generalize (w.alloc (.cells #[.int .u64 0, .slice none 0 0] 38)).drewN nq = wq at *
              have zq0 := heap_cell zhq 0
              have zq1 := heap_cell zhq 1
              have zq2 := heap_frozen zhq 0
              have zq3 := heap_frozen zhq 1
              simp at zq0 zq1
              go_wp2_with (first
                | (go_at_call 57; refine (Sum.right_c _ (b.take (n + 6)) _ (hbt.nw (by repeat (first | assumption | exact Nw.refl _ | refine Nw.alloc ?_ _ | refine Nw.drew ?_ | refine Nw.drewN2 ?_ _ | (refine Nw.trans ?_ (by assumption))))) hbl).mono ?_; rintro e w2 ⟨v2, rfl, hb2, hn2⟩; rw [hr] at hb2 ⊢; obtain ⟨p2, c2, rfl, _⟩ := hb2.open; have zh := hn2.heap zhq; have z0 := heap_cell zh 0; have z1 := heap_cell zh 1; have z2 := heap_frozen zh 0; have z3 := heap_frozen zh 1; simp at z0 z1))
              ((try simp only [Exit.inBlock, Exit.then]); refine bodyPost_ret (results_cell3 rfl _ _ _ _ _ _ _ rfl (zero_heap zh (hnq.trans hn2) (Nat.le_refl _) _ _).1 Try.underlying38 rfl (by kernel_rfl)) rfl ?_)
              exact HandsG.no HG.out (zero_heap zh (hnq.trans hn2) (Nat.le_refl _) _ _).2
            | some r =>
              rw [hr] at hl3
              dsimp only at hl3
              rw [ids_nats] at hl3
              unfold time at hl3
              have hrl := right_len hr
              have hrn : r.length = n + 2 := by rw [List.length_take] at hrl; omega
              have hTl : ((r.drop 2).take 8).length = 8 := by rw [List.length_take, List.length_drop]; omega
              have hDl : (r.drop 10).length = n - 8 := by rw [List.length_drop]; omega
              obtain ⟨T, hT⟩ : ∃ T, T = (r.drop 2).take 8 := ⟨_, rfl⟩
              obtain ⟨D, hD⟩ : ∃ D, D = r.drop 10 := ⟨_, rfl⟩
              rw [← hT] at hTl hl3
              rw [← hD] at hDl hl3
              have HT := hid hT
              have HD := hid hD
              have HL := hid hl3
              clear hl3 hT hD
              go_enter Try.func60, Try.ntmps60
              go_upto_region 7 with fail
              go_quiet (fail)
              have hnq : Nw w ((w.alloc (.cells #[.int .u64 0, .slice none 0 0] 38)).drewN nq) := ((Nw.refl w).alloc _).drewN2 nq
              have zhq : ((w.alloc (.cells #[.int .u64 0, .slice none 0 0] 38)).drewN nq).heap[w.heap.size]? = some (.cells #[.int .u64 0, .slice none 0 0] 38 (0, 0)) := heap_new w _
              generalize (w.alloc (.cells #[.int .u64 0, .slice none 0 0] 38)).drewN nq = wq at *
              have zq0 := heap_cell zhq 0
              have zq1 := heap_cell zhq 1
              have zq2 := heap_frozen zhq 0
              have zq3 := heap_frozen zhq 1
              simp at zq0 zq1
              go_wp2_with (first
                | (go_at_call 57; refine (Sum.right_c _ (b.take (n + 6)) _ (hbt.nw (by repeat (first | assumption | exact Nw.refl _ | refine Nw.alloc ?_ _ | refine Nw.drew ?_ | refine Nw.drewN2 ?_ _ | (refine Nw.trans ?_ (by assumption))))) hbl).mono ?_; rintro e w2 ⟨v2, rfl, hb2, hn2⟩; rw [hr] at hb2 ⊢; obtain ⟨p2, c2, rfl, hc2, hm2, _, hcs2⟩ := Bytes.open (bs := r) hb2; obtain ⟨rb, ro, rfl⟩ := hcs2.place (by rw [u8s_length]; omega); have zh := hn2.heap zhq; have z0 := heap_cell zh 0; have z1 := heap_cell zh 1; have z2 := heap_frozen zh 0; have z3 := heap_frozen zh 1; simp at z0 z1; have hr10 : 10 ≤ c2 := (by omega))
                | fail)
              have HC8 := hid (show Cells w2 (some ⟨rb, ro + 2, none⟩) (u8s T) by rw [HT.out]; exact sub8 hcs2)
              have HC10 := hid (show Cells w2 (some ⟨rb, ro + 10, none⟩) (u8s D) by rw [HD.out]; exact sub10 hcs2)
              clear hcs2 hbt hb hb2
              obtain rfl : n = D.length + 8 := by omega
              have hDb : D.length < 65536 := by omega
              clear hDl
              push_cast
              go_loopw [12, 65] (fun _ i wr => ∃ k : Nat, k ≤ 8 ∧ i = .int .i64 k ∧ EvSt w2 w.heap.size w2.heap.size (val (T.take k)) (.slice none 0 0) [] wr) (fun _ i _ => 8 - (intOf i).toNat)
              case atStart => exact ⟨0, by omega, rfl, EvSt.new zh rfl⟩
              case round =>
                obtain ⟨k, hk, rfl, hst⟩ := hrel
                obtain ⟨r0, r1, r2, r3, r4, r5, r6, r7, r8⟩ := hst.read
                have hn8 := hst.2.2.2.1
                have HST := hid hst
                clear hst
                by_cases hlt : k < 8
                · have hdk : decide ((k : Int) < 8) = true := decide_eq_true (by omega)
                  obtain ⟨bx, ox, xb, e, hcell, hx, hlx⟩ := u8s_cell (HC8.out.nw hn8) k (by omega)
                  cases e
                  have HS := hid (val_snoc T k xb hx.out)
                  obtain ⟨v0, v1⟩ := val_lt (T.take k) k (by simp; omega)
                  have hor3 := or_time (val (T.take k)) xb.toNat v0 v1 (by omega) hlx
                  generalize val (T.take k) = A at *
                  go_wp2
                  go_roundw
                  case rel => exact ⟨k + 1, by omega, by go_num, by rw [HS.out]; exact HST.out.time _⟩
                  case measure => simp [intOf]; omega
                · obtain rfl : k = 8 := by omega
                  rw [show ((8 : Nat) : Int) = 8 from rfl]
                  have hdk : decide ((8 : Int) < 8) = false := rfl
                  have hst2 := HST.out
                  rw [List.take_of_length_le (by omega)] at hst2 r0
                  clear HST
                  by_cases hc10 : c2 = 10
                  · go_wp2
                    have hDz : c2 = 10 → D.length = 0 := by omega
                    go_loopw [14, 80] (fun _ i wr => ∃ k : Nat, k ≤ D.length ∧ i = .int .i64 k ∧ ∃ v L, Hid (L = (nats D).take k) ∧ EvSt w2 w.heap.size w2.heap.size (val T) v L wr) (fun _ i _ => D.length - (intOf i).toNat)
                    case atStart => exact ⟨0, Nat.zero_le _, rfl, _, [], (rfl : _ = _), hst2⟩
                    case round =>
                      obtain ⟨k, hk, rfl, v, L, HLe, hst⟩ := hrel
                      obtain ⟨r0, r1, r2, r3, r4, r5, r6, r7, r8⟩ := hst.read
                      obtain ⟨pv, cv, rfl, hcv, hmv, _⟩ := i64s_open hst.2.2.1.sl
                      have hnl : L.length ≤ k := by rw [HLe.out]; exact Nat.le_of_eq (nats_len D k hk)
                      have HST := hid hst
                      clear hst
                      by_cases hlt : k < D.length
                      · exfalso; first | omega | (have := hDz hc10; omega)
                      · obtain rfl : k = D.length := by omega
                        have hdk : decide (D.length < D.length) = false := decide_eq_false (by omega)
                        clear hnl
                        have hLD : nats D = L := by rw [HLe.out, nats_all]
                        have hslD := HST.out.2.2.1.sl
                        rw [hLD] at HL
                        clear HLe
                        generalize hvT : val T = tv at *
                        clear hLD hvT
                        cases hri : rises L 64 with
                        | false =>
                          have HG := hid (HL.out.trans (if_neg (by rw [hp, hri]; decide)))
                          go_wp2_with (first
                            | (go_at_call 82; refine (rising_c _ L _ _ hslD).mono ?_; rintro e w3 ⟨rfl, hn3⟩; have hs3 := HST.out.nw hn3; obtain ⟨s0, s1, s2, s3, s4, s5, s6, s7, s8⟩ := hs3.read))
                          ((try simp only [Exit.inBlock, Exit.then]); refine bodyPost_ret (results_cell3 rfl _ _ _ _ _ _ _ rfl (zero_heap hs3.2.1 (hnq.trans (hn2.trans hs3.2.2.2.1)) (Nat.le_refl _) _ _).1 Try.underlying38 rfl (by kernel_rfl)) rfl ?_)
                          exact HandsG.no HG.out (zero_heap hs3.2.1 (hnq.trans (hn2.trans hs3.2.2.2.1)) (Nat.le_refl _) _ _).2
                        | true =>
                          have HG := hid (HL.out.trans (if_pos (by rw [hp, hri])))
                          go_wp2_with (first
                            | (go_at_call 82; refine (rising_c _ L _ _ hslD).mono ?_; rintro e w3 ⟨rfl, hn3⟩; have hs3 := HST.out.nw hn3; obtain ⟨s0, s1, s2, s3, s4, s5, s6, s7, s8⟩ := hs3.read))
                          obtain ⟨d0, d2, d3⟩ := hs3.doneO (hnq.trans hn2) (Nat.le_refl _) rfl
                          ((try simp only [Exit.inBlock, Exit.then]); refine bodyPost_ret (results_cell3 rfl _ _ _ _ _ _ _ rfl d0 Try.underlying38 rfl (by kernel_rfl)) rfl ?_)
                          exact HandsG.yes HG.out (by have := hDz; omega) d2 d3
                  · go_wp2
                    have hDz : c2 = 10 → D.length = 0 := by omega
                    go_loopw [14, 80] (fun _ i wr => ∃ k : Nat, k ≤ D.length ∧ i = .int .i64 k ∧ ∃ v L, Hid (L = (nats D).take k) ∧ EvSt w2 w.heap.size w2.heap.size (val T) v L wr) (fun _ i _ => D.length - (intOf i).toNat)
                    case atStart => exact ⟨0, Nat.zero_le _, rfl, _, [], (rfl : _ = _), hst2⟩
                    case round =>
                      obtain ⟨k, hk, rfl, v, L, HLe, hst⟩ := hrel
                      obtain ⟨r0, r1, r2, r3, r4, r5, r6, r7, r8⟩ := hst.read
                      obtain ⟨pv, cv, rfl, hcv, hmv, _⟩ := i64s_open hst.2.2.1.sl
                      have hnl : L.length ≤ k := by rw [HLe.out]; exact Nat.le_of_eq (nats_len D k hk)
                      have HST := hid hst
                      clear hst
                      by_cases hlt : k < D.length
                      · have hdk : decide (k < D.length) = true := decide_eq_true hlt
                        obtain ⟨bx, ox, x, e, hcell, hx, hlx⟩ := u8s_cell (HC10.out.nw HST.out.2.2.2.1) k hlt
                        cases e
                        have HS := hid (nats_step D k x hx.out)
                        go_wp2_with (first
                          | ((at_builtin; refine app1b rfl _ _ _ rfl _ _ _ Try.underlying23 info_i64 rfl (by decide) ((by simp; omega)) (HST.out.2.2.1.nw ((Nw.refl _).alloc _)) rfl (Sl.new wr [_] _ _ (by simp [maxLen])) rfl (by simp [Value.oneCell']) ?_ ?_; rotate_left; (simp only [i64s_length, List.length_cons, List.length_nil]; omega); intro v1 w1 hown1 hm1); obtain ⟨p1, c1, rfl, hc1, hmx1, _⟩ := hown1.sl.open (n := L.length + 1) (by simp [i64s]); have q1 := (HST.out.mid (l1 := L ++ [(x.toNat : Int)]) hm1 hown1 (by simp [i64s])); have q2 := heap_cell q1.1 1; have q3 := heap_frozen q1.1 1; simp at q2)
                          | fail)
                        go_roundw
                        case rel => exact ⟨k + 1, by omega, by go_num, _, _, (by rw [HLe.out, HS.out] : _ = _), q1.2⟩
                        case measure => simp [intOf]; omega
                      · obtain rfl : k = D.length := by omega
                        have hdk : decide (D.length < D.length) = false := decide_eq_false (by omega)
                        clear hnl
                        have hLD : nats D = L := by rw [HLe.out, nats_all]
                        have hslD := HST.out.2.2.1.sl
                        rw [hLD] at HL
                        clear HLe
                        generalize hvT : val T = tv at *
                        clear hLD hvT
                        cases hri : rises L 64 with
                        | false =>
                          have HG := hid (HL.out.trans (if_neg (by rw [hp, hri]; decide)))
                          go_wp2_with (first
                            | (go_at_call 82; refine (rising_c _ L _ _ hslD).mono ?_; rintro e w3 ⟨rfl, hn3⟩; have hs3 := HST.out.nw hn3; obtain ⟨s0, s1, s2, s3, s4, s5, s6, s7, s8⟩ := hs3.read))
                          ((try simp only [Exit.inBlock, Exit.then]); refine bodyPost_ret (results_cell3 rfl _ _ _ _ _ _ _ rfl (zero_heap hs3.2.1 (hnq.trans (hn2.trans hs3.2.2.2.1)) (Nat.le_refl _) _ _).1 Try.underlying38 rfl (by kernel_rfl)) rfl ?_)
                          exact HandsG.no HG.out (zero_heap hs3.2.1 (hnq.trans (hn2.trans hs3.2.2.2.1)) (Nat.le_refl _) _ _).2
                        | true =>
                          have HG := hid (HL.out.trans (if_pos (by rw [hp, hri])))
                          go_wp2_with (first
                            | (go_at_call 82; refine (rising_c _ L _ _ hslD).mono ?_; rintro e w3 ⟨rfl, hn3⟩; have hs3 := HST.out.nw hn3; obtain ⟨s0, s1, s2, s3, s4, s5, s6, s7, s8⟩ := hs3.read))
                          obtain ⟨d0, d2, d3⟩ := hs3.doneO (hnq.trans hn2) (Nat.le_refl _) rfl
                          ((try simp only [Exit.inBlock, Exit.then]); refine bodyPost_ret (results_cell3 rfl _ _ _ _ _ _ _ rfl d0 Try.underlying38 rfl (by kernel_rfl)) rfl ?_)
                          exact HandsG.yes HG.out (by have := hDz; omega) d2 d3
theorem get_o (vb : Value) (b : List UInt8) (p : Int) (w : World) (hb : Bytes w vb b) (hlen : b.length ≤ 1000000000) (hp1 : -9223372036854775808 ≤ p) (hp2 : p ≤ 9223372036854775807) :
    Calls Try.prog 60 #[vb, .int .i64 p] w (HandsGO w (get b p)) := by
  by_cases h0 : p < 0
  · exact get_low vb b p w hb hlen hp1 h0
  · by_cases h1 : p ≤ 64
    · exact get_mid vb b p w hb hlen (by omega) h1
    · exact get_high vb b p w hb hlen (by omega) hp2
theorem get_c (vb : Value) (b : List UInt8) (p : Int) (w : World) (hb : Bytes w vb b) (hlen : b.length ≤ 1000000000) (hp1 : -9223372036854775808 ≤ p) (hp2 : p ≤ 9223372036854775807) :
    Calls Try.prog 60 #[vb, .int .i64 p] w (HandsG w (get b p)) :=
  (get_o vb b p w hb hlen hp1 hp2).mono fun e w' ⟨v, h1, h2, h3⟩ => ⟨v, h1, h2.sl, h3⟩

end Rec
end Go.Proofs.Ytdihoedehmfgfaa
