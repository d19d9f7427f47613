/- Joined texts.
The reference's pools in memory: Has, Count. No condition but lengths.
The reference's pools in memory: Cells. No condition but lengths.
The reference's pools in memory: New, Clone, Close. No condition but lengths.
The reference's pools in memory: Clone, Close, Seek, Next. No condition but lengths.
-/
import Derived.Test.YtdihoedehmfgfaaJHk
import Derived.Test.YtdihoedehmfgfaaEvI
import Derived.Test.YtdihoedehmfgfaaJHe
set_option linter.unusedSimpArgs false
set_option linter.unusedVariables false
namespace Go.Proofs.Ytdihoedehmfgfaa
open Go.ChangeShapes Go.WideShapes Go.ChangeAt Go.RowKit
namespace Hp
open Go.Proofs.Ytdihoedehmfgfaa.Rec (none_ get i64s_open)
open Go.Proofs.Ytdihoedehmfgfaa.Tr (T Es tm ids)
open Go.Proofs.Ytdihoedehmfgfaa.Lg (EvIn)
def bls (l : List Bool) : List Value := l.map .bool
theorem bls_length (l : List Bool) : (bls l).length = l.length := by simp [bls]
theorem bls_one (l : List Bool) : ∀ u ∈ bls l, u.oneCell' = true := oneCell_map _ (fun _ => rfl) l
/-- What stays of a reference's pool: the world behind the reading of its log, where that began, its block, its names, its events, the error behind them, its size. -/
structure RCf where
  w1 : World
  B : Nat
  b : Nat
  vn : Value
  ve : Value
  es : Es
  E : Int
  size : Int
/-- Which heads are open. -/
def opens (ks : List (Option Nat)) : List Value := bls (ks.map Option.isSome)
theorem opens_length (ks : List (Option Nat)) : (opens ks).length = ks.length := by unfold opens; rw [bls_length, List.length_map]
/-- A pool in memory: which heads are open, where each stands. -/
structure RJ (q : RCf) (w : World) (os : List Bool) (ats : List Int) (vo va : Value) (peak : Int) : Prop where
  evs : EvIn q.w1 q.B q.ve q.es
  fz : Mods (fun k => ¬ (q.B ≤ k ∧ k < q.w1.heap.size)) q.w1 w
  blk : w.heap[q.b]? = some (.cells #[q.vn, q.ve, .int .i64 q.E, .int .i64 q.size, vo, va, .int .i64 peak] 121 (0, 0))
  bb : q.w1.heap.size ≤ q.b
  op : Own w q.w1.heap.size 4 vo (bls os)
  at_ : Own w q.w1.heap.size 3 va (i64s ats)
structure RI (q : RCf) (w : World) (ks : List (Option Nat)) (vo va : Value) (ats : List Int) (peak : Int) : Prop where
  j : RJ q w (ks.map Option.isSome) ats vo va peak
  len : ats.length = ks.length
  fit : ∀ (i k : Nat), ks[i]? = some (some k) → ats[i]? = some (k : Int) ∧ k ≤ q.es.length
/-- The blocks that the pool's calls turn. -/
def RS (q : RCf) (vo va : Value) (k : Nat) : Prop := k = q.b ∨ vo.ownBlock = some k ∨ va.ownBlock = some k
section
variable {q : RCf} {w w' : World} {ks : List (Option Nat)} {os : List Bool} {vo va : Value} {ats : List Int} {peak : Int}
theorem RJ.lt (h : RJ q w os ats vo va peak) : ∀ k, RS q vo va k → q.w1.heap.size ≤ k ∧ k < w.heap.size := fun k hk => by
  rcases hk with rfl | hk | hk
  · exact ⟨h.bb, lt_of_heap h.blk⟩
  · obtain ⟨_, q1⟩ := row_block h.op hk
    exact ⟨Own.lt h.op k hk, lt_of_heap q1⟩
  · obtain ⟨_, q1⟩ := row_block h.at_ hk
    exact ⟨Own.lt h.at_ k hk, lt_of_heap q1⟩
theorem RJ.mods {S : Nat → Prop} (h : RJ q w os ats vo va peak) (hm : Mods S w w') (h1 : ∀ k, q.B ≤ k → k < q.w1.heap.size → ¬ S k) (h2 : ∀ k, RS q vo va k → ¬ S k) : RJ q w' os ats vo va peak :=
  ⟨h.evs, h.fz.absorb hm (fun k hk => Or.inl (fun z => h1 k z.1 z.2 hk)), hm.heap h.blk (h2 _ (Or.inl rfl)), h.bb, h.op.modsR hm (fun k hk => h2 k (Or.inr (Or.inl hk))), h.at_.modsR hm (fun k hk => h2 k (Or.inr (Or.inr hk)))⟩
theorem RI.mods {S : Nat → Prop} (h : RI q w ks vo va ats peak) (hm : Mods S w w') (h1 : ∀ k, q.B ≤ k → k < q.w1.heap.size → ¬ S k) (h2 : ∀ k, RS q vo va k → ¬ S k) : RI q w' ks vo va ats peak := ⟨h.j.mods hm h1 h2, h.len, h.fit⟩
theorem RI.nw (h : RI q w ks vo va ats peak) (hn : Nw w w') : RI q w' ks vo va ats peak :=
  h.mods (hn.mods (fun _ => False)) (fun _ _ _ z => z) (fun _ _ z => z)
theorem RJ.events (h : RJ q w os ats vo va peak) : EvIn w q.B q.ve q.es := h.evs.mods h.fz (fun k h1 h2 z => z ⟨h1, h2⟩)
theorem RJ.ne (h : RJ q w os ats vo va peak) : vo.ownBlock ≠ some q.b ∧ va.ownBlock ≠ some q.b ∧ ∀ k, vo.ownBlock = some k → va.ownBlock ≠ some k := by
  refine ⟨fun z => ?_, fun z => ?_, fun k z y => ?_⟩
  · obtain ⟨_, q1⟩ := row_block h.op z
    exact type_ne q1 h.blk (by decide) rfl
  · obtain ⟨_, q1⟩ := row_block h.at_ z
    exact type_ne q1 h.blk (by decide) rfl
  · obtain ⟨_, q1⟩ := row_block h.op z
    obtain ⟨_, q2⟩ := row_block h.at_ y
    exact type_ne q1 q2 (by decide) rfl
/-- One of the pool's blocks has turned: what is of others stays. -/
theorem RJ.turn {os' : List Bool} {ats' : List Int} {vo' va' : Value} {peak' : Int} (h : RJ q w os ats vo va peak) (hm : Mods (RS q vo va) w w')
    (hb : w'.heap[q.b]? = some (.cells #[q.vn, q.ve, .int .i64 q.E, .int .i64 q.size, vo', va', .int .i64 peak'] 121 (0, 0)))
    (ho : Own w' q.w1.heap.size 4 vo' (bls os')) (ha : Own w' q.w1.heap.size 3 va' (i64s ats')) : RJ q w' os' ats' vo' va' peak' :=
  ⟨h.evs, h.fz.absorb hm (fun k hk => Or.inl (fun z => by have := (h.lt k hk).1; omega)), hb, h.bb, ho, ha⟩
theorem RJ.peakTo (h : RJ q w os ats vo va peak) (p : Int) : RJ q (w.setCell ⟨q.b, 6, none⟩ (.int .i64 p)) os ats vo va p ∧ Mods (· = q.b) w (w.setCell ⟨q.b, 6, none⟩ (.int .i64 p)) := by
  have hm : Mods (· = q.b) w (w.setCell ⟨q.b, 6, none⟩ (.int .i64 p)) := Mods.setCell (S := (· = q.b)) (Mods.refl _ w) rfl _
  obtain ⟨n1, n2, _⟩ := h.ne
  exact ⟨h.turn (hm.mono (fun k z => Or.inl z)) (heap_set h.blk 6 _) (h.op.modsR hm (fun k hk z => n1 (by rw [← z]; exact hk))) (h.at_.modsR hm (fun k hk z => n2 (by rw [← z]; exact hk))), hm⟩
theorem RJ.setO {g n cap : Nat} (h : RJ q w os ats vo va peak) (hv : vo = .slice (some ⟨g, 0, none⟩) n cap) (hn : n = os.length) (i : Nat) (x : Bool) : RJ q (w.setCell ⟨g, i, none⟩ (.bool x)) (os.set i x) ats vo va peak ∧ Mods (· = g) w (w.setCell ⟨g, i, none⟩ (.bool x)) := by
  subst hv
  have hm : Mods (· = g) w (w.setCell ⟨g, i, none⟩ (.bool x)) := Mods.setCell (S := (· = g)) (Mods.refl _ w) rfl _
  obtain ⟨n1, _, n3⟩ := h.ne
  have hset := Own.set h.op (by rw [bls_length]; exact hn) i (.bool x)
  rw [show (bls os).set i (.bool x) = bls (os.set i x) by unfold bls; rw [List.map_set]] at hset
  exact ⟨h.turn (hm.mono (fun k z => Or.inr (Or.inl (by rw [z]; rfl)))) (hm.heap h.blk (fun z => n1 (by rw [z]; rfl))) hset (h.at_.modsR hm (fun k hk z => n3 k (by rw [z]; rfl) hk)), hm⟩
theorem RJ.setA {g n cap : Nat} (h : RJ q w os ats vo va peak) (hv : va = .slice (some ⟨g, 0, none⟩) n cap) (hn : n = ats.length) (i : Nat) (x : Int) : RJ q (w.setCell ⟨g, i, none⟩ (.int .i64 x)) os (ats.set i x) vo va peak ∧ Mods (· = g) w (w.setCell ⟨g, i, none⟩ (.int .i64 x)) := by
  subst hv
  have hm : Mods (· = g) w (w.setCell ⟨g, i, none⟩ (.int .i64 x)) := Mods.setCell (S := (· = g)) (Mods.refl _ w) rfl _
  obtain ⟨_, n2, n3⟩ := h.ne
  have hset := Own.set h.at_ (by rw [i64s_length]; exact hn) i (.int .i64 x)
  rw [show (i64s ats).set i (.int .i64 x) = i64s (ats.set i x) by unfold i64s; rw [List.map_set]] at hset
  exact ⟨h.turn (hm.mono (fun k z => Or.inr (Or.inr (by rw [z]; rfl)))) (hm.heap h.blk (fun z => n2 (by rw [z]; rfl))) (h.op.modsR hm (fun k hk z => n3 k hk (by rw [z]; rfl))) hset, hm⟩
theorem RJ.growO {wA w1 : World} {v1 : Value} {x : Bool} (h : RJ q w os ats vo va peak) (hA : Nw w wA) (hg : wA.grownBy w1 vo.ownBlock) (ho : Own w1 q.w1.heap.size 4 v1 (bls (os ++ [x]))) (hat : v1.ownBlock = vo.ownBlock ∨ v1.ownBlock = some wA.heap.size) :
    RJ q (w1.setCell ⟨q.b, 4, none⟩ v1) (os ++ [x]) ats v1 va peak ∧ Mods (RS q vo va) w (w1.setCell ⟨q.b, 4, none⟩ v1) ∧ ∀ k, v1.ownBlock = some k → RS q vo va k ∨ w.heap.size ≤ k := by
  have hm1 : Mods (fun k => vo.ownBlock = some k) w w1 := Mods.grownIn (hA.mods _) hg (fun k z => Or.inl z)
  have hm2 : Mods (RS q vo va) w (w1.setCell ⟨q.b, 4, none⟩ v1) := Mods.setCell (S := RS q vo va) (hm1.mono (fun k z => Or.inr (Or.inl z))) (p := ⟨q.b, 4, none⟩) (Or.inl rfl) _
  obtain ⟨n1, n2, n3⟩ := h.ne
  have hm3 : Mods (· = q.b) w1 (w1.setCell ⟨q.b, 4, none⟩ v1) := Mods.setCell (S := (· = q.b)) (Mods.refl _ w1) rfl _
  have hb1 := hm1.heap h.blk n1
  refine ⟨h.turn hm2 (heap_set hb1 4 _) (ho.modsR hm3 (fun k hk z => ?_)) ((h.at_.modsR hm1 (fun k hk z => n3 k z hk)).modsR hm3 (fun k hk z => n2 (by rw [← z]; exact hk))), hm2, fun k hk => ?_⟩
  · obtain ⟨_, q1⟩ := row_block ho hk
    exact type_ne q1 hb1 (by decide) z
  · rcases hat with e | e
    · exact Or.inl (Or.inr (Or.inl (by rw [← e]; exact hk)))
    · rw [e] at hk; cases hk; exact Or.inr hA.size
theorem RJ.growA {wA w1 : World} {v1 : Value} {x : Int} (h : RJ q w os ats vo va peak) (hA : Nw w wA) (hg : wA.grownBy w1 va.ownBlock) (ho : Own w1 q.w1.heap.size 3 v1 (i64s (ats ++ [x]))) (hat : v1.ownBlock = va.ownBlock ∨ v1.ownBlock = some wA.heap.size) :
    RJ q (w1.setCell ⟨q.b, 5, none⟩ v1) os (ats ++ [x]) vo v1 peak ∧ Mods (RS q vo va) w (w1.setCell ⟨q.b, 5, none⟩ v1) ∧ ∀ k, v1.ownBlock = some k → RS q vo va k ∨ w.heap.size ≤ k := by
  have hm1 : Mods (fun k => va.ownBlock = some k) w w1 := Mods.grownIn (hA.mods _) hg (fun k z => Or.inl z)
  have hm2 : Mods (RS q vo va) w (w1.setCell ⟨q.b, 5, none⟩ v1) := Mods.setCell (S := RS q vo va) (hm1.mono (fun k z => Or.inr (Or.inr z))) (p := ⟨q.b, 5, none⟩) (Or.inl rfl) _
  obtain ⟨n1, n2, n3⟩ := h.ne
  have hm3 : Mods (· = q.b) w1 (w1.setCell ⟨q.b, 5, none⟩ v1) := Mods.setCell (S := (· = q.b)) (Mods.refl _ w1) rfl _
  have hb1 := hm1.heap h.blk n2
  refine ⟨h.turn hm2 (heap_set hb1 5 _) ((h.op.modsR hm1 (fun k hk z => n3 k hk z)).modsR hm3 (fun k hk z => n1 (by rw [← z]; exact hk))) (ho.modsR hm3 (fun k hk z => ?_)), hm2, fun k hk => ?_⟩
  · obtain ⟨_, q1⟩ := row_block ho hk
    exact type_ne q1 hb1 (by decide) z
  · rcases hat with e | e
    · exact Or.inl (Or.inr (Or.inr (by rw [← e]; exact hk)))
    · rw [e] at hk; cases hk; exact Or.inr hA.size
theorem opens_cell {p : Option Addr} (h : Cells w p (opens ks)) (i : Nat) (hi : i < ks.length) : ∃ b off, p = some ⟨b, off, none⟩ ∧ w.cell? ⟨b, off + i, none⟩ = some (.bool (ks[i]).isSome) := by
  obtain ⟨b, off, e, hc⟩ := h i (by rw [opens_length]; exact hi)
  exact ⟨b, off, e, by rw [hc]; simp [opens, bls]⟩
def RHas (ks : List (Option Nat)) (id : Int) : Bool := (fnd ks id).isSome
set_option maxRecDepth 20000 in
theorem has_c (h : RI q w ks vo va ats peak) (id : Int) : Calls Try.prog 71 #[.pointer (some ⟨q.b, 0, none⟩), .int .i64 id] w fun e w' => e = .returned (.bool (RHas ks id)) ∧ w = w' := by
  have y := h.j.blk
  have g0 := lt_of_heap y
  have k0 := heap_cell y 0
  have k1 := heap_cell y 1
  have k2 := heap_cell y 2
  have k3 := heap_cell y 3
  have k4 := heap_cell y 4
  have k5 := heap_cell y 5
  have k6 := heap_cell y 6
  simp only [List.getElem?_toArray, List.getElem?_cons_succ, List.getElem?_cons_zero] at k0 k1 k2 k3 k4 k5 k6
  obtain ⟨p, cap, rfl, hcap, hmx, hp0, hcs⟩ := h.j.op.sl.open (opens_length ks)
  unfold maxLen at hmx
  clear y
  unfold RHas
  by_cases hlo : id < 0
  · have hd0 : decide (0 ≤ id) = false := decide_eq_false (by omega)
    rw [fnd_low hlo]
    clear hcs h
    go_enter Try.func71, Try.ntmps71
    go_wp2
    go_ret
    exact ⟨rfl, rfl⟩
  · have hd0 : decide (0 ≤ id) = true := decide_eq_true (by omega)
    by_cases hhi : (ks.length : Int) ≤ id
    · have hd1 : decide (id < (ks.length : Int)) = false := decide_eq_false (by omega)
      rw [fnd_high hhi]
      clear hcs h
      go_enter Try.func71, Try.ntmps71
      go_wp2
      go_ret
      exact ⟨rfl, rfl⟩
    · have hd1 : decide (id < (ks.length : Int)) = true := decide_eq_true (by omega)
      obtain ⟨i, rfl⟩ : ∃ i : Nat, id = i := ⟨id.toNat, by omega⟩
      have hi : i < ks.length := by omega
      obtain ⟨b, off, rfl, hc⟩ := opens_cell hcs i hi
      have gb := World.block_lt_of_cell? w _ hc
      simp only at gb
      rw [fnd_at, List.getElem?_eq_getElem hi]
      clear hcs h hlo hhi
      generalize ks[i] = x at *
      rw [Option.join_some]
      generalize x.isSome = bx at *
      go_enter Try.func71, Try.ntmps71
      go_wp2
      go_ret
      exact ⟨rfl, rfl⟩
def rcnt (ks : List (Option Nat)) : Nat := ks.countP Option.isSome
theorem rcnt_take (hs : List (Option Nat)) (i : Nat) (hi : i < hs.length) : rcnt (hs.take (i + 1)) = rcnt (hs.take i) + if hs[i].isSome then 1 else 0 := by
  unfold rcnt
  rw [List.take_succ_eq_append_getElem hi, List.countP_append]
  simp [List.countP_cons]
theorem rcnt_le (hs : List (Option Nat)) : rcnt hs ≤ hs.length := List.countP_le_length
set_option maxRecDepth 20000 in
theorem rcount_c (h : RI q w ks vo va ats peak) : Calls Try.prog 69 #[.pointer (some ⟨q.b, 0, none⟩)] w fun e w' => e = .returned (.int .i64 (rcnt ks : Int)) ∧ w = w' := by
  have y := h.j.blk
  have g0 := lt_of_heap y
  have k0 := heap_cell y 0
  have k1 := heap_cell y 1
  have k2 := heap_cell y 2
  have k3 := heap_cell y 3
  have k4 := heap_cell y 4
  have k5 := heap_cell y 5
  have k6 := heap_cell y 6
  simp only [List.getElem?_toArray, List.getElem?_cons_succ, List.getElem?_cons_zero] at k0 k1 k2 k3 k4 k5 k6
  obtain ⟨p, cap, rfl, hcap, hmx, hp0, hcs⟩ := h.j.op.sl.open (opens_length ks)
  unfold maxLen at hmx
  clear y
  have HC := hid hcs
  clear hcs h
  go_enter Try.func69, Try.ntmps69
  go_wp2
  go_loopw [3, 5, 11] (fun m _ i wr => ∃ k : Nat, k ≤ ks.length ∧ i = .int .i64 k ∧ m = .int .i64 (rcnt (ks.take k) : Int) ∧ w = wr) (fun _ _ i _ => ks.length - (intOf i).toNat)
  case atStart => exact ⟨0, Nat.zero_le _, rfl, rfl, rfl⟩
  case round =>
    obtain ⟨k, hk, rfl, rfl, rfl⟩ := hrel
    by_cases hlt : k < ks.length
    · have hdk : decide (k < ks.length) = true := decide_eq_true hlt
      obtain ⟨b1, o1, rfl, hc⟩ := opens_cell HC.out k hlt
      have gb := World.block_lt_of_cell? w _ hc
      simp only at gb
      have HT := hid (rcnt_take ks k hlt)
      have hb := rcnt_le (ks.take k)
      rw [List.length_take] at hb
      have hbd : rcnt (ks.take k) ≤ k := by omega
      clear hb
      generalize rcnt (ks.take k) = m at *
      generalize ks[k] = x at *
      cases x with
      | none =>
        simp only [Option.isSome_none] at hc
        go_wp2
        go_roundw
        case rel => exact ⟨k + 1, by omega, by go_num, by rw [HT.out]; rfl, by trivial⟩
        case measure => simp [intOf]; omega
      | some x =>
        simp only [Option.isSome_some] at hc
        go_wp2
        go_roundw
        case rel => exact ⟨k + 1, by omega, by go_num, by rw [HT.out]; go_num, by trivial⟩
        case measure => simp [intOf]; omega
    · obtain rfl : k = ks.length := by omega
      have hdk : decide (ks.length < ks.length) = false := decide_eq_false (by omega)
      have HT := hid (show ks.take ks.length = ks from List.take_length)
      go_wp2
      go_ret
      rw [HT.out]
      exact ⟨rfl, rfl⟩
end
end Hp
end Go.Proofs.Ytdihoedehmfgfaa
namespace Go.Proofs.Ytdihoedehmfgfaa
open Go.ChangeShapes Go.WideShapes Go.ChangeAt Go.RowKit
namespace Hp
open Go.Proofs.Ytdihoedehmfgfaa.Rec (none_ get i64s_open)
open Go.Proofs.Ytdihoedehmfgfaa.Tr (T Es tm ids)
open Go.Proofs.Ytdihoedehmfgfaa.Lg (EvIn)
def rcellOf (es : Es) : Option Nat → Nat
  | some k => 3 + if k = 0 then 0 else (ids es (k - 1)).length
  | none => 0
def rcells (es : Es) (ks : List (Option Nat)) : Nat := (ks.map (rcellOf es)).sum
theorem rcells_take (es : Es) (hs : List (Option Nat)) (i : Nat) (hi : i < hs.length) : rcells es (hs.take (i + 1)) = rcells es (hs.take i) + rcellOf es hs[i] := by
  unfold rcells
  rw [List.take_succ_eq_append_getElem hi, List.map_append, List.sum_append]
  simp
def Few (es : Es) : Prop := ∀ i, i < es.length → (ids es i).length ≤ 64
theorem rcells_le {es : Es} (hf : Few es) : ∀ ks : List (Option Nat), (∀ (i k : Nat), ks[i]? = some (some k) → k ≤ es.length) → rcells es ks ≤ ks.length * 67
  | [], _ => Nat.le_refl _
  | x :: r, h => by
    have h1 := rcells_le hf r (fun i k e => h (i + 1) k e)
    have e : rcells es (x :: r) = rcellOf es x + rcells es r := by simp [rcells]
    rw [e, List.length_cons]
    have : rcellOf es x ≤ 67 := by
      cases x with
      | none => exact Nat.zero_le _
      | some k =>
        have hk := h 0 k rfl
        show 3 + (if k = 0 then 0 else (ids es (k - 1)).length) ≤ 67
        split
        · omega
        · rename_i hk0
          have := hf (k - 1) (by omega)
          omega
    rw [Nat.succ_mul]
    omega
section
variable {q : RCf} {w w' : World} {ks : List (Option Nat)} {vo va : Value} {ats : List Int} {peak : Int}
set_option maxRecDepth 20000 in
theorem rcells_c (h : RI q w ks vo va ats peak) (hf : Few q.es) (hl : ks.length ≤ 100000) : Calls Try.prog 70 #[.pointer (some ⟨q.b, 0, none⟩)] w
    fun e w' => e = .returned (.int .i64 (rcells q.es ks : Int)) ∧ RI q w' ks vo va ats (max peak (rcells q.es ks : Int)) ∧ Mods (· = q.b) w w' := by
  have HEV := hid h.j.events
  have HH := hid h
  have HH0 := hid h
  have HB := hid (fun k => rcells_le hf (ks.take k) (fun i x hx => by
    rw [List.getElem?_take] at hx
    split at hx
    · exact (h.fit i x hx).2
    · cases hx))
  have HFT := hid h.fit
  have y := h.j.blk
  have g0 := lt_of_heap y
  have k0 := heap_cell y 0
  have k1 := heap_cell y 1
  have k3 := heap_cell y 3
  have k4 := heap_cell y 4
  have k5 := heap_cell y 5
  have k6 := heap_cell y 6
  have f6 := heap_frozen y 6
  simp only [List.getElem?_toArray, List.getElem?_cons_succ, List.getElem?_cons_zero] at k0 k1 k3 k4 k5 k6
  obtain ⟨p, cap, hvo, hcap, hmx, hp0, hcs⟩ := h.j.op.sl.open (opens_length ks)
  obtain ⟨pa, ca, hva, hcap2, hmx2, hp2, hcs2⟩ := h.j.at_.sl.open (n := ks.length) (by rw [i64s_length]; exact h.len)
  obtain ⟨pe, ce, hve, hce1, hce2, hce3, hec⟩ := HEV.out.evs
  have HLN := hid h.len
  rw [hvo] at k4
  rw [hva] at k5
  rw [hve] at k1
  unfold maxLen at hmx hmx2 hce2
  have HC := hid hcs
  have HC2 := hid hcs2
  have HEC := hid hec
  clear hcs hcs2 hec y h
  go_enter Try.func70, Try.ntmps70
  go_wp2
  go_loopw [3, 4, 5, 11] (fun m _ _ i wr => ∃ k : Nat, k ≤ ks.length ∧ i = .int .i64 k ∧ m = .int .i64 (rcells q.es (ks.take k) : Int) ∧ Nw w wr) (fun _ _ _ i _ => ks.length - (intOf i).toNat)
  case atStart => exact ⟨0, Nat.zero_le _, rfl, rfl, Nw.refl _⟩
  case round =>
    obtain ⟨k, hk, rfl, rfl, hnr⟩ := hrel
    have HBK := HB.out k
    rw [List.length_take] at HBK
    have hbk : rcells q.es (ks.take k) ≤ 6700000 := by omega
    clear HBK
    by_cases hlt : k < ks.length
    · have hdk : decide (k < ks.length) = true := decide_eq_true hlt
      have HT := hid (rcells_take q.es ks k hlt)
      obtain ⟨b1, o1, hp1, hc⟩ := opens_cell (HC.out.nw hnr) k hlt
      subst hp1
      have gb := World.block_lt_of_cell? _ _ hc
      simp only at gb
      have hx : ks[k]? = some ks[k] := List.getElem?_eq_getElem hlt
      generalize rcells q.es (ks.take k) = m at *
      generalize ks[k] = x at *
      cases x with
      | none =>
        simp only [Option.isSome_none] at hc
        clear hx
        go_wp2
        go_roundw
        case rel => exact ⟨k + 1, by omega, by go_num, by rw [HT.out]; rfl, by assumption⟩
        case measure => simp [intOf]; omega
      | some x =>
        simp only [Option.isSome_some] at hc
        obtain ⟨ha, hxl⟩ := HFT.out k x hx
        obtain ⟨b2, o2, hp2b, hc2⟩ := (HC2.out.nw hnr) k (by rw [i64s_length, HLN.out]; exact hlt)
        subst hp2b
        have hc2' : wr.cell? ⟨b2, o2 + k, none⟩ = some (.int .i64 (x : Int)) := by
          rw [hc2]
          obtain ⟨hal, hae⟩ := List.getElem?_eq_some_iff.1 ha
          simp [i64s, hae]
        have gb2 := World.block_lt_of_cell? _ _ hc2'
        simp only at gb2
        have k0r := hnr.cell k0
        have k1r := hnr.cell k1
        have k4r := hnr.cell k4
        have k5r := hnr.cell k5
        have g0r := Nat.lt_of_lt_of_le g0 hnr.size
        have hki : (k : Int) < ks.length := by omega
        clear hc2 ha hx
        cases x with
        | zero =>
          have hd : decide ((0 : Int) < ((0 : Nat) : Int)) = false := rfl
          go_wp2
          go_roundw
          case rel => exact ⟨k + 1, by omega, by go_num, by rw [HT.out]; unfold rcellOf; go_num, by assumption⟩
          case measure => simp [intOf]; omega
        | succ x =>
          have hd : decide ((0 : Int) < ((x + 1 : Nat) : Int)) = true := decide_eq_true (by omega)
          obtain ⟨b3, o3, vi, hp3, e0, e1, hsl⟩ := (HEC.out.nw hnr) x (by omega)
          subst hp3
          obtain ⟨p4, c4, rfl, hc41, hc42, _, _⟩ := i64s_open hsl
          have gb3 := World.block_lt_of_cell? _ _ e0
          simp only at gb3
          have hidl := hf x (by omega)
          have HRC := hid (show rcellOf q.es (some (x + 1)) = 3 + (ids q.es x).length from by show 3 + (if x + 1 = 0 then 0 else (ids q.es (x + 1 - 1)).length) = _; rw [if_neg (by omega), Nat.add_sub_cancel])
          have hix : ((x + 1 : Nat) : Int) - 1 = (x : Int) := by omega
          have hxi : (x : Int) < q.es.length := by omega
          have hxi2 : x < q.es.length := by omega
          generalize (ids q.es x).length = n1 at *
          generalize q.es.length = L at *
          go_upto_region 8 with fail
          go_region
          all_goals
            go_wp2
            go_roundw
            case rel => exact ⟨k + 1, by omega, by go_num, by rw [HT.out, HRC.out]; go_num, (by repeat (first | assumption | exact Nw.refl _ | refine Nw.alloc ?_ _ | refine Nw.drew ?_ | refine Nw.drewN2 ?_ _ | (refine Nw.trans ?_ (by assumption))))⟩
            case measure => simp [intOf]; omega
    · obtain rfl : k = ks.length := by omega
      have hdk : decide (ks.length < ks.length) = false := decide_eq_false (by omega)
      have HT := hid (show ks.take ks.length = ks from List.take_length)
      rw [HT.out] at hbk ⊢
      have HR := hid ((HH.out.nw hnr).j.peakTo (max peak (rcells q.es ks : Int)))
      have k6r := hnr.cell k6
      have g0r := Nat.lt_of_lt_of_le g0 hnr.size
      have f6r : wr.frozen? ⟨q.b, 6, none⟩ = false := (Below.frozen hnr (by exact g0)).trans f6
      generalize hm : (rcells q.es ks) = m at *
      clear k4 k5
      clear HH HEV HB HFT HC HC2 HEC HT
      by_cases hpm : peak < (m : Int)
      · have dm : decide (peak < (m : Int)) = true := decide_eq_true hpm
        have em : max peak (m : Int) = m := by omega
        rw [em] at HR
        go_wp2
        go_ret
        rw [hm, em]
        exact ⟨rfl, ⟨HR.out.1, HH0.out.len, HH0.out.fit⟩, (hnr.mods _).trans HR.out.2⟩
      · have dm : decide (peak < (m : Int)) = false := decide_eq_false hpm
        have em : max peak (m : Int) = peak := by omega
        rw [em] at HR
        clear hpm
        go_wp2
        go_ret
        rw [hm, em]
        exact ⟨rfl, ⟨HR.out.1, HH0.out.len, HH0.out.fit⟩, (hnr.mods _).trans HR.out.2⟩
end
end Hp
end Go.Proofs.Ytdihoedehmfgfaa
namespace Go.Proofs.Ytdihoedehmfgfaa
open Go.ChangeShapes Go.WideShapes Go.ChangeAt Go.RowKit
namespace Hp
open Go.Proofs.Ytdihoedehmfgfaa.Rec (none_ get i64s_open)
open Go.Proofs.Ytdihoedehmfgfaa.Tr (T Es tm ids)
open Go.Proofs.Ytdihoedehmfgfaa.Lg (EvIn)
theorem info_bool : (Try.prog.info? 4).map (fun i => (i.zero, i.size, i.bytes)) = some (some (.bool false), 1, 1) := by kernel_rfl
theorem info_int : (Try.prog.info? 3).map (fun i => (i.zero, i.size, i.bytes)) = some (some (.int .i64 0), 1, 8) := by kernel_rfl
set_option maxRecDepth 20000 in
theorem indexb_c (vo : Value) (B : Nat) (ks : List (Option Nat)) (w : World) (h : Own w B 4 vo (opens ks)) : Calls Try.prog 104 #[vo, .bool false] w fun e w' => e = .returned (.int .i64 (freeI ks)) ∧ w = w' := by
  obtain ⟨p, cap, rfl, hcap, hmx, hp0, hcs⟩ := h.sl.open (opens_length ks)
  unfold maxLen at hmx
  have HC := hid hcs
  clear hcs h
  go_enter Try.func104, Try.ntmps104
  go_wp2
  go_loopw [5, 8] (fun _ i wr => ∃ k : Nat, k ≤ ks.length ∧ i = .int .i64 k ∧ Hid (∀ j, j < k → (ks[j]?).join.isSome = true) ∧ w = wr) (fun _ i _ => ks.length - (intOf i).toNat)
  case atStart => exact ⟨0, Nat.zero_le _, rfl, hid (fun j hj => by omega), rfl⟩
  case round =>
    obtain ⟨k, hk, rfl, HA, rfl⟩ := hrel
    by_cases hlt : k < ks.length
    · have hdk : decide (k < ks.length) = true := decide_eq_true hlt
      obtain ⟨b1, o1, rfl, hc⟩ := opens_cell HC.out k hlt
      have gb := World.block_lt_of_cell? w _ hc
      simp only at gb
      have HX := hid (List.getElem?_eq_getElem hlt)
      generalize ks[k] = x at *
      cases x with
      | none =>
        have HF := hid (free_at ks k hlt HA.out HX.out)
        simp only [Option.isSome_none] at hc
        go_wp2
        go_ret
        exact ⟨congrArg (fun z => Ending.returned (.int .i64 z)) (show (k : Int) = freeI ks by unfold freeI; rw [HF.out, if_pos hlt]), rfl⟩
      | some x =>
        have HF := hid (show ∀ j, j < k + 1 → (ks[j]?).join.isSome = true from fun j hj => by
          rcases Nat.lt_succ_iff_lt_or_eq.1 hj with q | rfl
          · exact HA.out j q
          · rw [HX.out]; rfl)
        simp only [Option.isSome_some] at hc
        go_wp2
        go_roundw
        case rel => exact ⟨k + 1, by omega, by go_num, HF, by trivial⟩
        case measure => simp [intOf]; omega
    · obtain rfl : k = ks.length := by omega
      have hdk : decide (ks.length < ks.length) = false := decide_eq_false (by omega)
      have HF := hid (free_none ks HA.out)
      go_wp2
      go_ret
      exact ⟨congrArg (fun z => Ending.returned (.int .i64 z)) (show (-1 : Int) = freeI ks by unfold freeI; rw [HF.out, if_neg (by omega)]), rfl⟩
theorem bls_snoc (l : List Bool) (x : Bool) : bls l ++ [.bool x] = bls (l ++ [x]) := by simp [bls]
theorem i64s_snoc' (l : List Int) (x : Int) : i64s l ++ [.int .i64 x] = i64s (l ++ [x]) := by simp [i64s]
theorem RJ.nw {q : RCf} {w w' : World} {os : List Bool} {vo va : Value} {ats : List Int} {peak : Int} (h : RJ q w os ats vo va peak) (hn : Nw w w') : RJ q w' os ats vo va peak :=
  h.mods (hn.mods (fun _ => False)) (fun _ _ _ z => z) (fun _ _ z => z)
theorem RJ.blk_grown {q : RCf} {w w' : World} {os : List Bool} {vo va : Value} {ats : List Int} {peak : Int} {r : Option Nat} (h : RJ q w os ats vo va peak) (hr : r ≠ some q.b) (hg : w.grownBy w' r) :
    w'.heap[q.b]? = some (.cells #[q.vn, q.ve, .int .i64 q.E, .int .i64 q.size, vo, va, .int .i64 peak] 121 (0, 0)) :=
  (hg.block q.b (lt_of_heap h.blk) (fun e => hr e.symm)).trans h.blk
/-- What a call leaves of a reference's pool. -/
def RO (q : RCf) (vo va : Value) (w : World) (ks : List (Option Nat)) (peak : Int) (w' : World) : Prop :=
  ∃ vo' va' ats', RI q w' ks vo' va' ats' peak ∧ Mods (RS q vo va) w w' ∧ ∀ k, RS q vo' va' k → RS q vo va k ∨ w.heap.size ≤ k
theorem RO.refl {q : RCf} {w w' : World} {ks : List (Option Nat)} {vo va : Value} {ats : List Int} {peak : Int} (h : RI q w ks vo va ats peak) (hn : Nw w w') : RO q vo va w ks peak w' :=
  ⟨vo, va, ats, h.nw hn, hn.mods _, fun k hk => Or.inl hk⟩
def rnewP (size : Int) (es : Es) (ks : List (Option Nat)) (peak : Int) (k : Nat) : (List (Option Nat) × Int) × (Int × Int) :=
  if (rcnt ks : Int) = size then ((ks, peak), (0, 12)) else ((put ks k, max peak (rcells es (put ks k) : Int)), ((free ks : Int), 0))
def rcloneP (size : Int) (es : Es) (ks : List (Option Nat)) (peak : Int) (id : Int) : (List (Option Nat) × Int) × (Int × Int) :=
  match fnd ks id with
  | none => ((ks, peak), (0, 11))
  | some k => rnewP size es ks peak k
theorem rput_set {l : List (Option Nat)} {x : Nat} (h : free l < l.length) : put l x = l.set (free l) (some x) := if_pos h
theorem rput_app {l : List (Option Nat)} {x : Nat} (h : ¬ free l < l.length) : put l x = (l ++ [none]).set l.length (some x) := by
  unfold put
  rw [if_neg h, List.set_append_right _ _ (Nat.le_refl _), Nat.sub_self]; rfl
section
variable {q : RCf} {w w' : World} {ks : List (Option Nat)} {vo va : Value} {ats : List Int} {peak : Int}
/-- A head put at a place. -/
theorem RI.place {ks1 : List (Option Nat)} {ats1 : List Int} (f k : Nat) (hj : RJ q w ((ks1.map Option.isSome).set f true) (ats1.set f (k : Int)) vo va peak) (hl : ats1.length = ks1.length) (hf : f < ks1.length) (hk : k ≤ q.es.length)
    (hfit : ∀ (i k : Nat), ks1[i]? = some (some k) → ats1[i]? = some (k : Int) ∧ k ≤ q.es.length) : RI q w (ks1.set f (some k)) vo va (ats1.set f (k : Int)) peak := by
  refine ⟨by rw [List.map_set]; exact hj, by rw [List.length_set, List.length_set]; exact hl, fun i x hx => ?_⟩
  rw [List.getElem?_set] at hx ⊢
  by_cases hif : f = i
  · subst hif
    rw [if_pos rfl] at hx ⊢
    rw [if_pos hf] at hx
    rw [if_pos (by omega)]
    cases hx
    exact ⟨rfl, hk⟩
  · rw [if_neg hif] at hx ⊢
    exact hfit i x hx
theorem fit_app {ks1 : List (Option Nat)} {ats1 : List Int} {N : Nat} (hl : ats1.length = ks1.length) (hfit : ∀ (i k : Nat), ks1[i]? = some (some k) → ats1[i]? = some (k : Int) ∧ k ≤ N) : ∀ (i k : Nat), (ks1 ++ [none])[i]? = some (some k) → (ats1 ++ [0])[i]? = some (k : Int) ∧ k ≤ N := fun i k hx => by
  by_cases hi : i < ks1.length
  · rw [List.getElem?_append_left hi] at hx
    rw [List.getElem?_append_left (by omega)]
    exact hfit i k hx
  · rw [List.getElem?_append_right (by omega)] at hx
    have : i - ks1.length = 0 ∨ 0 < i - ks1.length := by omega
    rcases this with e | e
    · rw [e] at hx; cases hx
    · rw [List.getElem?_eq_none (by simp; omega)] at hx; cases hx
/-- A call hands back two numbers and leaves the pool so. -/
def RNewO (q : RCf) (vo va : Value) (w : World) (X : (List (Option Nat) × Int) × (Int × Int)) (e : Ending) (w' : World) : Prop :=
  e = .returned (.tuple #[.int .i64 X.2.1, .int .i64 X.2.2]) ∧ RO q vo va w X.1.1 X.1.2 w'
set_option maxRecDepth 20000 in
set_option maxHeartbeats 1600000 in
theorem rnew_c (h : RI q w ks vo va ats peak) (hf : Few q.es) (hl : ks.length ≤ 90000) (k : Nat) (hk : k ≤ q.es.length) : Calls Try.prog 92 #[.pointer (some ⟨q.b, 0, none⟩), .int .i64 (k : Int)] w (RNewO q vo va w (rnewP q.size q.es ks peak k)) := by
  have HCN := hid (fun w' (hn : Nw w w') => rcount_c (h.nw hn))
  have HH := hid h
  have y := h.j.blk
  have g0 := lt_of_heap y
  have k3 := heap_cell y 3
  simp only [List.getElem?_toArray, List.getElem?_cons_succ, List.getElem?_cons_zero] at k3
  clear y
  by_cases hful : (rcnt ks : Int) = q.size
  · have hdz : ((rcnt ks : Int) == q.size) = true := by simpa using hful
    have HOP := hid (show rnewP q.size q.es ks peak k = ((ks, peak), (0, 12)) from if_pos hful)
    clear h hful
    generalize (rcnt ks : Int) = m at *
    go_enter Try.func92, Try.ntmps92
    go_upto_region 1 with fail
    refine wp_region_stairs (by kernel_rfl) (by kernel_rfl) (by kernel_rfl) ?_
    iterate 6
      refine Stairs.is ?_ ?_ ?_
      rotate_left 1
      · intro x wR hR hd K hK
        simp only [Act.put, List.setIfInBounds_toArray, List.set_cons_zero, List.set_cons_succ, Nat.reduceAdd, List.length_nil, List.length_cons, List.nil_append, List.cons_append, Say.ok] at hK ⊢
        clear hd
        change Hid _ at hK
        obtain ⟨hcR, hfR, hzR⟩ := nwc hR
        first | (refine wanted_yes ?_ ?_; rfl) | (refine wanted_no ?_ ?_; rfl)
        first | (refine hK.out _ _ ?_ ?_ <;> first | (solve | (repeat (first | assumption | exact Nw.refl _ | refine Nw.alloc ?_ _ | refine Nw.drew ?_ | refine Nw.drewN2 ?_ _ | (refine Nw.trans ?_ (by assumption))))) | ((conv => lhs; whnf) <;> exact rfl) | exact rfl | exact congrArg Value.bool hdz) | (go_step; first | (refine hK.out _ _ ?_ ?_ <;> first | (solve | (repeat (first | assumption | exact Nw.refl _ | refine Nw.alloc ?_ _ | refine Nw.drew ?_ | refine Nw.drewN2 ?_ _ | (refine Nw.trans ?_ (by assumption))))) | ((conv => lhs; whnf) <;> exact rfl) | exact rfl | exact congrArg Value.bool hdz) | ((first | (go_at_call 69; refine (HCN.out _ (by repeat (first | assumption | exact Nw.refl _ | refine Nw.alloc ?_ _ | refine Nw.drew ?_ | refine Nw.drewN2 ?_ _ | (refine Nw.trans ?_ (by assumption))))).mono ?_; rintro e' w5 ⟨rfl, rfl⟩)); (refine hK.out _ _ ?_ ?_ <;> first | (solve | (repeat (first | assumption | exact Nw.refl _ | refine Nw.alloc ?_ _ | refine Nw.drew ?_ | refine Nw.drewN2 ?_ _ | (refine Nw.trans ?_ (by assumption))))) | ((conv => lhs; whnf) <;> exact rfl) | exact rfl | exact congrArg Value.bool hdz)))
      try simp only [Act.put, List.setIfInBounds_toArray, List.set_cons_zero, List.set_cons_succ, Nat.reduceAdd, List.length_nil, List.length_cons, List.nil_append, List.cons_append]
    iterate 1
      refine Stairs.is (.bool true) ?_ ?_
      · intro x wR hR hd K hK
        simp only [Act.put, List.setIfInBounds_toArray, List.set_cons_zero, List.set_cons_succ, Nat.reduceAdd, List.length_nil, List.length_cons, List.nil_append, List.cons_append, Say.ok] at hK ⊢
        clear hd
        change Hid _ at hK
        obtain ⟨hcR, hfR, hzR⟩ := nwc hR
        first | (refine wanted_yes ?_ ?_; rfl) | (refine wanted_no ?_ ?_; rfl)
        first | (refine hK.out _ _ ?_ ?_ <;> first | (solve | (repeat (first | assumption | exact Nw.refl _ | refine Nw.alloc ?_ _ | refine Nw.drew ?_ | refine Nw.drewN2 ?_ _ | (refine Nw.trans ?_ (by assumption))))) | ((conv => lhs; whnf) <;> exact rfl) | exact rfl | exact congrArg Value.bool hdz) | (go_step; first | (refine hK.out _ _ ?_ ?_ <;> first | (solve | (repeat (first | assumption | exact Nw.refl _ | refine Nw.alloc ?_ _ | refine Nw.drew ?_ | refine Nw.drewN2 ?_ _ | (refine Nw.trans ?_ (by assumption))))) | ((conv => lhs; whnf) <;> exact rfl) | exact rfl | exact congrArg Value.bool hdz) | ((first | (go_at_call 69; refine (HCN.out _ (by repeat (first | assumption | exact Nw.refl _ | refine Nw.alloc ?_ _ | refine Nw.drew ?_ | refine Nw.drewN2 ?_ _ | (refine Nw.trans ?_ (by assumption))))).mono ?_; rintro e' w5 ⟨rfl, rfl⟩)); (refine hK.out _ _ ?_ ?_ <;> first | (solve | (repeat (first | assumption | exact Nw.refl _ | refine Nw.alloc ?_ _ | refine Nw.drew ?_ | refine Nw.drewN2 ?_ _ | (refine Nw.trans ?_ (by assumption))))) | ((conv => lhs; whnf) <;> exact rfl) | exact rfl | exact congrArg Value.bool hdz)))
      try simp only [Act.put, List.setIfInBounds_toArray, List.set_cons_zero, List.set_cons_succ, Nat.reduceAdd, List.length_nil, List.length_cons, List.nil_append, List.cons_append]
    refine Stairs.nil ?_
    intro x wR hR hx
    clear hx
    obtain ⟨hcR, hfR, hzR⟩ := nwc hR
    clear hcR hfR hzR
    go_wp2
    go_ret2
    unfold RNewO
    rw [HOP.out]
    exact ⟨rfl, RO.refl HH.out hR⟩
  · have hdz : ((rcnt ks : Int) == q.size) = false := by simpa using hful
    have HOP := hid (show rnewP q.size q.es ks peak k = ((put ks k, max peak (rcells q.es (put ks k) : Int)), ((free ks : Int), 0)) from if_neg hful)
    clear h hful
    generalize (rcnt ks : Int) = m at *
    go_enter Try.func92, Try.ntmps92
    go_upto_region 1 with fail
    refine wp_region_stairs (by kernel_rfl) (by kernel_rfl) (by kernel_rfl) ?_
    iterate 6
      refine Stairs.is ?_ ?_ ?_
      rotate_left 1
      · intro x wR hR hd K hK
        simp only [Act.put, List.setIfInBounds_toArray, List.set_cons_zero, List.set_cons_succ, Nat.reduceAdd, List.length_nil, List.length_cons, List.nil_append, List.cons_append, Say.ok] at hK ⊢
        clear hd
        change Hid _ at hK
        obtain ⟨hcR, hfR, hzR⟩ := nwc hR
        first | (refine wanted_yes ?_ ?_; rfl) | (refine wanted_no ?_ ?_; rfl)
        first | (refine hK.out _ _ ?_ ?_ <;> first | (solve | (repeat (first | assumption | exact Nw.refl _ | refine Nw.alloc ?_ _ | refine Nw.drew ?_ | refine Nw.drewN2 ?_ _ | (refine Nw.trans ?_ (by assumption))))) | ((conv => lhs; whnf) <;> exact rfl) | exact rfl | exact congrArg Value.bool hdz) | (go_step; first | (refine hK.out _ _ ?_ ?_ <;> first | (solve | (repeat (first | assumption | exact Nw.refl _ | refine Nw.alloc ?_ _ | refine Nw.drew ?_ | refine Nw.drewN2 ?_ _ | (refine Nw.trans ?_ (by assumption))))) | ((conv => lhs; whnf) <;> exact rfl) | exact rfl | exact congrArg Value.bool hdz) | ((first | (go_at_call 69; refine (HCN.out _ (by repeat (first | assumption | exact Nw.refl _ | refine Nw.alloc ?_ _ | refine Nw.drew ?_ | refine Nw.drewN2 ?_ _ | (refine Nw.trans ?_ (by assumption))))).mono ?_; rintro e' w5 ⟨rfl, rfl⟩)); (refine hK.out _ _ ?_ ?_ <;> first | (solve | (repeat (first | assumption | exact Nw.refl _ | refine Nw.alloc ?_ _ | refine Nw.drew ?_ | refine Nw.drewN2 ?_ _ | (refine Nw.trans ?_ (by assumption))))) | ((conv => lhs; whnf) <;> exact rfl) | exact rfl | exact congrArg Value.bool hdz)))
      try simp only [Act.put, List.setIfInBounds_toArray, List.set_cons_zero, List.set_cons_succ, Nat.reduceAdd, List.length_nil, List.length_cons, List.nil_append, List.cons_append]
    iterate 1
      refine Stairs.is (.bool false) ?_ ?_
      · intro x wR hR hd K hK
        simp only [Act.put, List.setIfInBounds_toArray, List.set_cons_zero, List.set_cons_succ, Nat.reduceAdd, List.length_nil, List.length_cons, List.nil_append, List.cons_append, Say.ok] at hK ⊢
        clear hd
        change Hid _ at hK
        obtain ⟨hcR, hfR, hzR⟩ := nwc hR
        first | (refine wanted_yes ?_ ?_; rfl) | (refine wanted_no ?_ ?_; rfl)
        first | (refine hK.out _ _ ?_ ?_ <;> first | (solve | (repeat (first | assumption | exact Nw.refl _ | refine Nw.alloc ?_ _ | refine Nw.drew ?_ | refine Nw.drewN2 ?_ _ | (refine Nw.trans ?_ (by assumption))))) | ((conv => lhs; whnf) <;> exact rfl) | exact rfl | exact congrArg Value.bool hdz) | (go_step; first | (refine hK.out _ _ ?_ ?_ <;> first | (solve | (repeat (first | assumption | exact Nw.refl _ | refine Nw.alloc ?_ _ | refine Nw.drew ?_ | refine Nw.drewN2 ?_ _ | (refine Nw.trans ?_ (by assumption))))) | ((conv => lhs; whnf) <;> exact rfl) | exact rfl | exact congrArg Value.bool hdz) | ((first | (go_at_call 69; refine (HCN.out _ (by repeat (first | assumption | exact Nw.refl _ | refine Nw.alloc ?_ _ | refine Nw.drew ?_ | refine Nw.drewN2 ?_ _ | (refine Nw.trans ?_ (by assumption))))).mono ?_; rintro e' w5 ⟨rfl, rfl⟩)); (refine hK.out _ _ ?_ ?_ <;> first | (solve | (repeat (first | assumption | exact Nw.refl _ | refine Nw.alloc ?_ _ | refine Nw.drew ?_ | refine Nw.drewN2 ?_ _ | (refine Nw.trans ?_ (by assumption))))) | ((conv => lhs; whnf) <;> exact rfl) | exact rfl | exact congrArg Value.bool hdz)))
      try simp only [Act.put, List.setIfInBounds_toArray, List.set_cons_zero, List.set_cons_succ, Nat.reduceAdd, List.length_nil, List.length_cons, List.nil_append, List.cons_append]
    refine Stairs.nil ?_
    intro x wR hR hx
    clear hx
    obtain ⟨hcR, hfR, hzR⟩ := nwc hR
    clear hcR hfR hzR k3 g0
    have h2 := HH.out.nw hR
    have HH2 := hid h2
    have HIX := hid (indexb_c vo _ ks wR h2.j.op)
    have y := h2.j.blk
    have g0 := lt_of_heap y
    have k4 := heap_cell y 4
    have k5 := heap_cell y 5
    simp only [List.getElem?_toArray, List.getElem?_cons_succ, List.getElem?_cons_zero] at k4 k5
    obtain ⟨pr, cr, hvo, hcr, hmr, hpr, _⟩ := h2.j.op.sl.open (opens_length ks)
    obtain ⟨pa, ca, hva, hca, hma, hpa, _⟩ := h2.j.at_.sl.open (n := ks.length) (by rw [i64s_length]; exact h2.len)
    unfold maxLen at hmr hma
    clear HCN
    have HLN := hid h2.len
    have HFT := hid h2.fit
    have HJ := hid h2.j
    have HRR := hid hR
    by_cases hfr : free ks < ks.length
    · have hix : freeI ks = (free ks : Int) := if_pos hfr
      rw [hix] at HIX
      have HPT := hid (rput_set (x := k) hfr)
      have HL1 := hid (rfl : ks.length = ks.length)
      obtain ⟨gr, cr, rfl, hgr1, hcp1, hcm1⟩ := HJ.out.op.opened (by rw [bls_length, List.length_map]; omega)
      obtain ⟨ga, ca, rfl, hgr2, hcp2, hcm2⟩ := HJ.out.at_.opened (by rw [i64s_length, HLN.out]; omega)
      have e1 : (bls (ks.map Option.isSome)).length = ks.length := by rw [bls_length, List.length_map]
      have e2 : (i64s ats).length = ks.length := by rw [i64s_length, HLN.out]
      rw [e1] at hcp1 hvo HJ HIX k4 ⊢
      rw [e2] at hcp2 hva HJ k5 ⊢
      have hFN := free_is ks hfr
      generalize hfi : free ks = f at *
      have hd0 : decide ((f : Int) < 0) = false := decide_eq_false (by omega)
      have hfi2 : ((f : Nat) : Int) < ((ks.length : Nat) : Int) := by omega
      have hfz := Own.frozen HJ.out.op (show ks.length = _ by rw [bls_length, List.length_map, HL1.out]) f
      have hfz2 := Own.frozen HJ.out.at_ (show ks.length = _ by rw [i64s_length, HLN.out, HL1.out]) f
      have hcf := Own.cell HJ.out.op (show ks.length = _ by rw [bls_length, List.length_map, HL1.out]) f (by rw [bls_length, List.length_map, HL1.out]; omega)
      have hcf2 := Own.cell HJ.out.at_ (show ks.length = _ by rw [i64s_length, HLN.out, HL1.out]) f (by rw [i64s_length, HLN.out, HL1.out]; omega)
      rw [show (bls ((ks).map Option.isSome))[f]? = some (.bool false) from by
        unfold bls
        rw [List.getElem?_map, List.getElem?_map, hFN]; rfl] at hcf
      obtain ⟨a0, ha0⟩ : ∃ a0, (i64s (ats))[f]? = some (.int .i64 a0) := ⟨(ats)[f]'(by rw [HLN.out, HL1.out]; omega), by unfold i64s; rw [List.getElem?_map, List.getElem?_eq_getElem (by rw [HLN.out, HL1.out]; omega)]; rfl⟩
      rw [ha0] at hcf2
      have hgl := World.block_lt_of_cell? _ _ hcf
      have hgl2 := World.block_lt_of_cell? _ _ hcf2
      simp only at hgl hgl2
      clear ha0
      have hne : ¬ gr = ga := fun z => HJ.out.ne.2.2 gr rfl (by rw [z]; rfl)
      have HJ1 := hid (HJ.out.setO rfl (by rw [List.length_map, HL1.out]) f true)
      have HJ2 := hid (HJ1.out.1.setA rfl (by rw [HLN.out, HL1.out]) f (k : Int))
      have HRI := hid (RI.place (ks1 := ks) (ats1 := ats) f k HJ2.out.1 HLN.out (by rw [HL1.out]; omega) hk HFT.out)
      have HCL := hid (fun w' (hn : Nw _ w') => rcells_c (HRI.out.nw hn) hf (by rw [List.length_set, HL1.out]; omega))
      have HMZ := hid (HRR.out.mods (RS q (.slice (some ⟨gr, 0, none⟩) ks.length cr) (.slice (some ⟨ga, 0, none⟩) ks.length ca)))
      have HNEW := hid (show ∀ k, RS q (.slice (some ⟨gr, 0, none⟩) ks.length cr) (.slice (some ⟨ga, 0, none⟩) ks.length ca) k → RS q (.slice (some ⟨gr, 0, none⟩) ks.length cr) (.slice (some ⟨ga, 0, none⟩) ks.length ca) k ∨ w.heap.size ≤ k from fun k z => Or.inl z)
      have HEND := hid (fun w6 (hm6 : Mods (· = q.b) (World.drew _) w6) => (((HMZ.out.absorb HJ1.out.2 (fun k z => HNEW.out k (Or.inr (Or.inl (by rw [z]; rfl))))).absorb HJ2.out.2 (fun k z => HNEW.out k (Or.inr (Or.inr (by rw [z]; rfl))))).nw ((Nw.refl _).drew)).absorb hm6 (fun k z => Or.inl (Or.inl z)))
      clear h2 HH2 HFT hfi hix hfr e1 e2
      go_upto_region 8 with (first
        | (go_at_call 104; refine HIX.out.mono ?_; rintro e' w5 ⟨rfl, rfl⟩)
        | fail)
      go_region
      all_goals
        go_wp2_with (first
          | (go_at_call 70; refine (HCL.out _ (by repeat (first | assumption | exact Nw.refl _ | refine Nw.alloc ?_ _ | refine Nw.drew ?_ | refine Nw.drewN2 ?_ _ | (refine Nw.trans ?_ (by assumption))))).mono ?_; rintro e' w6 ⟨rfl, hri, hm6⟩)
          | fail)
        go_ret2
        unfold RNewO
        rw [HOP.out, HPT.out]
        refine ⟨rfl, _, _, _, hri, ?_, HNEW.out⟩
        exact HEND.out _ hm6
    · have hfl : free ks = ks.length := by have := free_le ks; omega
      have hix : freeI ks = -1 := if_neg hfr
      rw [hix] at HIX
      rw [hfl] at HOP
      have HPT := hid (rput_app (x := k) hfr)
      have hd0 : decide ((-1 : Int) < 0) = true := rfl
      have hnB := (Nw.refl wR).alloc (.cells #[.bool false] 4)
      have HSN := hid (Sl.new wR [.bool false] 4 (0, 0) (by simp [maxLen]))
      have hBz : q.w1.heap.size ≤ wR.heap.size := Nat.le_trans HJ.out.fz.size (Nat.le_refl _)
      have HBL := hid (Nat.le_trans hBz hnB.size)
      have HRJ := hid (HJ.out.nw hnB)
      have k4B := hnB.cell k4
      have g0B := Nat.lt_of_lt_of_le g0 hnB.size
      have f4B := heap_frozen (hnB.heap y) 4
      subst hvo
      subst hva
      clear hfr hix hfl h2 y HH2
      go_upto_region 7 with (first
        | (go_at_call 104; refine HIX.out.mono ?_; rintro e' w5 ⟨rfl, rfl⟩)
        | (at_builtin; refine app1g rfl _ _ _ rfl _ _ _ Try.underlying119 info_bool rfl (by decide) HBL.out HRJ.out.op rfl HSN.out rfl (by simp [Value.oneCell']) ?_ ?_; rotate_left; (rw [bls_length, List.length_map]; simp only [List.length_cons, List.length_nil]; omega); intro v7 w7 hown7 hg7 ha7; rw [bls_snoc] at hown7; have HGR := hid (HJ.out.growO hnB hg7 hown7 ha7); obtain ⟨p7, c7, rfl, _⟩ := hown7.sl.open (n := ks.length + 1) (by rw [bls_length, List.length_append, List.length_map]; rfl); have k74 := heap_cell (HRJ.out.blk_grown HRJ.out.ne.1 hg7) 4; have f74 := heap_frozen (HRJ.out.blk_grown HRJ.out.ne.1 hg7) 4; have g74 := lt_of_heap (HRJ.out.blk_grown HRJ.out.ne.1 hg7); simp only [List.getElem?_toArray, List.getElem?_cons_succ, List.getElem?_cons_zero] at k74; clear k4B g0B k4 g0 hown7 ha7)
        | fail)
      have hwR := HRR.out.size
      have HMA := hid ((HRR.out.mods (RS q (.slice pr ks.length cr) (.slice pa ks.length ca))).trans HGR.out.2.1)
      have HN1 := hid (show ∀ j, RS q (.slice p7 (ks.length + 1) c7) (.slice pa ks.length ca) j → RS q (.slice pr ks.length cr) (.slice pa ks.length ca) j ∨ w.heap.size ≤ j from fun j z => by
        rcases z with z | z | z
        · exact Or.inl (Or.inl z)
        · rcases HGR.out.2.2 j z with y | y
          · exact Or.inl y
          · exact Or.inr (Nat.le_trans hwR y)
        · exact Or.inl (Or.inr (Or.inr z)))
      have HJ8 := hid HGR.out.1
      clear HGR hg7 k74 f74 g74 k5 f4B HIX HSN HBL HRJ hnB hBz HJ HH
      generalize w7.setCell ⟨q.b, 4, none⟩ (.slice p7 (ks.length + 1) c7) = w8 at *
      have y := HJ8.out.blk
      have g0 := lt_of_heap y
      have k5 := heap_cell y 5
      simp only [List.getElem?_toArray, List.getElem?_cons_succ, List.getElem?_cons_zero] at k5
      have hnB := (Nw.refl w8).alloc (.cells #[.int .i64 0] 3)
      have HSN := hid (Sl.new w8 [.int .i64 0] 3 (0, 0) (by simp [maxLen]))
      have HBL := hid (show q.w1.heap.size ≤ (w8.alloc (.cells #[.int .i64 0] 3)).heap.size from Nat.le_trans HJ8.out.fz.size hnB.size)
      have HRJ := hid (HJ8.out.nw hnB)
      have k5B := hnB.cell k5
      have g0B := Nat.lt_of_lt_of_le g0 hnB.size
      clear y
      go_upto_region 8 with (first
        | (at_builtin; refine app1g rfl _ _ _ rfl _ _ _ Try.underlying23 info_int rfl (by decide) HBL.out HRJ.out.at_ rfl HSN.out rfl (by simp [Value.oneCell']) ?_ ?_; rotate_left; (rw [i64s_length, HLN.out]; simp only [List.length_cons, List.length_nil]; omega); intro v9 w9 hown9 hg9 ha9; rw [i64s_snoc'] at hown9; have HGR := hid (HJ8.out.growA hnB hg9 hown9 ha9); obtain ⟨p9, c9, rfl, _⟩ := hown9.sl.open (n := ks.length + 1) (by rw [i64s_length, List.length_append, HLN.out]; rfl); have k95 := heap_cell (HRJ.out.blk_grown HRJ.out.ne.2.1 hg9) 5; have f95 := heap_frozen (HRJ.out.blk_grown HRJ.out.ne.2.1 hg9) 5; have g95 := lt_of_heap (HRJ.out.blk_grown HRJ.out.ne.2.1 hg9); simp only [List.getElem?_toArray, List.getElem?_cons_succ, List.getElem?_cons_zero] at k95; clear k5B g0B k5 g0 hown9 ha9)
        | fail)
      have hw8 := HMA.out.size
      have HMZ := hid (HMA.out.absorb HGR.out.2.1 HN1.out)
      have HNEW := hid (show ∀ j, RS q (.slice p7 (ks.length + 1) c7) (.slice p9 (ks.length + 1) c9) j → RS q (.slice pr ks.length cr) (.slice pa ks.length ca) j ∨ w.heap.size ≤ j from fun j z => by
        rcases z with z | z | z
        · exact Or.inl (Or.inl z)
        · exact HN1.out j (Or.inr (Or.inl z))
        · rcases HGR.out.2.2 j z with y | y
          · exact HN1.out j y
          · exact Or.inr (Nat.le_trans hw8 y))
      have HJ := hid (show RJ q _ ((ks ++ [none]).map Option.isSome) (ats ++ [0]) _ _ peak by rw [List.map_append]; exact HGR.out.1)
      have HL1 := hid (show (ks ++ [none]).length = ks.length + 1 by rw [List.length_append]; rfl)
      have HLN2 := hid (show (ats ++ [0]).length = (ks ++ [none]).length by rw [List.length_append, List.length_append, HLN.out]; rfl)
      have HFT2 := hid (fit_app HLN.out HFT.out)
      have hFN : (ks ++ [none])[ks.length]? = some none := by rw [List.getElem?_append_right (Nat.le_refl _), Nat.sub_self]; rfl
      clear HGR hg9 k95 f95 g95 HN1 HMA HJ8 HSN HBL HRJ hnB HLN HFT
      generalize w9.setCell ⟨q.b, 5, none⟩ (.slice p9 (ks.length + 1) c9) = w10 at *
      have HLN := HLN2
      have HFT := HFT2
      generalize hks1 : ks ++ [none] = ks1 at *
      generalize ats ++ [0] = ats1 at *
      obtain ⟨gr, cr1, hvr, hgr1, hcp1, hcm1⟩ := HJ.out.op.opened (by rw [bls_length, List.length_map, HL1.out]; omega)
      obtain ⟨ga, ca1, hva, hgr2, hcp2, hcm2⟩ := HJ.out.at_.opened (by rw [i64s_length, HLN.out, HL1.out]; omega)
      rw [bls_length, List.length_map, HL1.out] at hvr hcp1
      rw [i64s_length, HLN.out, HL1.out] at hva hcp2
      obtain ⟨rfl, rfl⟩ : p7 = some ⟨gr, 0, none⟩ ∧ c7 = cr1 := by
        simp only [Value.slice.injEq] at hvr
        exact ⟨hvr.1, hvr.2.2⟩
      obtain ⟨rfl, rfl⟩ : p9 = some ⟨ga, 0, none⟩ ∧ c9 = ca1 := by
        simp only [Value.slice.injEq] at hva
        exact ⟨hva.1, hva.2.2⟩
      clear hvr hva
      have y := HJ.out.blk
      have g0 := lt_of_heap y
      have k4 := heap_cell y 4
      have k5 := heap_cell y 5
      simp only [List.getElem?_toArray, List.getElem?_cons_succ, List.getElem?_cons_zero] at k4 k5
      clear y
      have hfi2 : ((ks.length : Nat) : Int) < ((ks.length + 1 : Nat) : Int) := by omega
      have hfz := Own.frozen HJ.out.op (show ks.length + 1 = _ by rw [bls_length, List.length_map, HL1.out]) ks.length
      have hfz2 := Own.frozen HJ.out.at_ (show ks.length + 1 = _ by rw [i64s_length, HLN.out, HL1.out]) ks.length
      have hcf := Own.cell HJ.out.op (show ks.length + 1 = _ by rw [bls_length, List.length_map, HL1.out]) ks.length (by rw [bls_length, List.length_map, HL1.out]; omega)
      have hcf2 := Own.cell HJ.out.at_ (show ks.length + 1 = _ by rw [i64s_length, HLN.out, HL1.out]) ks.length (by rw [i64s_length, HLN.out, HL1.out]; omega)
      rw [show (bls ((ks1).map Option.isSome))[ks.length]? = some (.bool false) from by
        unfold bls
        rw [List.getElem?_map, List.getElem?_map, hFN]; rfl] at hcf
      obtain ⟨a0, ha0⟩ : ∃ a0, (i64s (ats1))[ks.length]? = some (.int .i64 a0) := ⟨(ats1)[ks.length]'(by rw [HLN.out, HL1.out]; omega), by unfold i64s; rw [List.getElem?_map, List.getElem?_eq_getElem (by rw [HLN.out, HL1.out]; omega)]; rfl⟩
      rw [ha0] at hcf2
      have hgl := World.block_lt_of_cell? _ _ hcf
      have hgl2 := World.block_lt_of_cell? _ _ hcf2
      simp only at hgl hgl2
      clear ha0
      have hne : ¬ gr = ga := fun z => HJ.out.ne.2.2 gr rfl (by rw [z]; rfl)
      have HJ1 := hid (HJ.out.setO rfl (by rw [List.length_map, HL1.out]) ks.length true)
      have HJ2 := hid (HJ1.out.1.setA rfl (by rw [HLN.out, HL1.out]) ks.length (k : Int))
      have HRI := hid (RI.place (ks1 := ks1) (ats1 := ats1) ks.length k HJ2.out.1 HLN.out (by rw [HL1.out]; omega) hk HFT.out)
      have HCL := hid (fun w' (hn : Nw _ w') => rcells_c (HRI.out.nw hn) hf (by rw [List.length_set, HL1.out]; omega))
      have HEND := hid (fun w6 (hm6 : Mods (· = q.b) (World.drew _) w6) => (((HMZ.out.absorb HJ1.out.2 (fun k z => HNEW.out k (Or.inr (Or.inl (by rw [z]; rfl))))).absorb HJ2.out.2 (fun k z => HNEW.out k (Or.inr (Or.inr (by rw [z]; rfl))))).nw ((Nw.refl _).drew)).absorb hm6 (fun k z => Or.inl (Or.inl z)))
      clear HFT HFT2 HLN2
      go_upto_region 8 with fail
      go_region
      all_goals
        go_wp2_with (first
          | (go_at_call 70; refine (HCL.out _ (by repeat (first | assumption | exact Nw.refl _ | refine Nw.alloc ?_ _ | refine Nw.drew ?_ | refine Nw.drewN2 ?_ _ | (refine Nw.trans ?_ (by assumption))))).mono ?_; rintro e' w6 ⟨rfl, hri, hm6⟩)
          | fail)
        go_ret2
        unfold RNewO
        rw [HOP.out, HPT.out]
        refine ⟨rfl, _, _, _, hri, ?_, HNEW.out⟩
        exact HEND.out _ hm6
end
end Hp
end Go.Proofs.Ytdihoedehmfgfaa
namespace Go.Proofs.Ytdihoedehmfgfaa
open Go.ChangeShapes Go.WideShapes Go.ChangeAt Go.RowKit
namespace Hp
open Go.Proofs.Ytdihoedehmfgfaa.Rec (none_ get i64s_open)
open Go.Proofs.Ytdihoedehmfgfaa.Tr (T Es tm ids lt_alloc)
open Go.Proofs.Ytdihoedehmfgfaa.Lg (EvIn)
def rcloseP (ks : List (Option Nat)) (id : Int) : List (Option Nat) × Bool := ((if (fnd ks id).isSome then ks.set id.toNat none else ks), (fnd ks id).isSome)
def rseekP (es : Es) (E : Int) (ks : List (Option Nat)) (peak id k : Int) : (List (Option Nat) × Int) × Int :=
  match fnd ks id with
  | none => ((ks, peak), 11)
  | some _ => if k < 0 then ((ks, peak), 1) else if (es.length : Int) < k then ((ks, peak), E) else
      ((ks.set id.toNat (some k.toNat), max peak (rcells es (ks.set id.toNat (some k.toNat)) : Int)), 0)
def rnextP (es : Es) (E : Int) (ks : List (Option Nat)) (peak id : Int) : (List (Option Nat) × Int) × ((Int × List Int) × Int) :=
  match fnd ks id with
  | none => ((ks, peak), ((0, []), 11))
  | some k => if k = es.length then ((ks, peak), ((0, []), E)) else
      ((ks.set id.toNat (some (k + 1)), max peak (rcells es (ks.set id.toNat (some (k + 1))) : Int)), ((tm es k, ids es k), 0))
theorem rfnd_mem {ks : List (Option Nat)} {id : Int} {x : Nat} (h : fnd ks id = some x) : ∃ i : Nat, id = i ∧ i < ks.length ∧ ks[i]? = some (some x) := by
  unfold fnd at h
  split at h
  · rename_i h0
    refine ⟨id.toNat, by omega, ?_, ?_⟩
    · cases hx : ks[id.toNat]? with
      | none => rw [hx] at h; cases h
      | some y => exact (List.getElem?_eq_some_iff.1 hx).1
    · cases hx : ks[id.toNat]? with
      | none => rw [hx] at h; cases h
      | some y => rw [hx] at h; exact congrArg some h
  · cases h
section
variable {q : RCf} {w w' : World} {ks : List (Option Nat)} {vo va : Value} {ats : List Int} {peak : Int}
theorem RI.at_cell (h : RI q w ks vo va ats peak) {i k : Nat} (hx : ks[i]? = some (some k)) : ∃ g c, va = .slice (some ⟨g, 0, none⟩) ks.length c ∧ w.cell? ⟨g, i, none⟩ = some (.int .i64 (k : Int)) ∧ w.frozen? ⟨g, i, none⟩ = false ∧ g < w.heap.size := by
  have hi := (List.getElem?_eq_some_iff.1 hx).1
  obtain ⟨ga, ca, hva, _, _, _⟩ := h.j.at_.opened (by rw [i64s_length, h.len]; omega)
  rw [i64s_length, h.len] at hva
  subst hva
  have hc := Own.cell h.j.at_ (show ks.length = _ by rw [i64s_length, h.len]) i (by rw [i64s_length, h.len]; omega)
  rw [show (i64s ats)[i]? = some (.int .i64 (k : Int)) by unfold i64s; rw [List.getElem?_map, (h.fit i k hx).1]; rfl] at hc
  exact ⟨ga, ca, rfl, hc, Own.frozen h.j.at_ (show ks.length = _ by rw [i64s_length, h.len]) i, World.block_lt_of_cell? _ _ hc⟩
theorem RI.op_cell (h : RI q w ks vo va ats peak) {i : Nat} {x : Option Nat} (hx : ks[i]? = some x) : ∃ g c, vo = .slice (some ⟨g, 0, none⟩) ks.length c ∧ w.cell? ⟨g, i, none⟩ = some (.bool x.isSome) ∧ w.frozen? ⟨g, i, none⟩ = false ∧ g < w.heap.size := by
  have hi := (List.getElem?_eq_some_iff.1 hx).1
  obtain ⟨ga, ca, hva, _, _, _⟩ := h.j.op.opened (by rw [bls_length, List.length_map]; omega)
  rw [bls_length, List.length_map] at hva
  subst hva
  have hc := Own.cell h.j.op (show ks.length = _ by rw [bls_length, List.length_map]) i (by rw [bls_length, List.length_map]; omega)
  rw [show (bls (ks.map Option.isSome))[i]? = some (.bool x.isSome) by unfold bls; rw [List.getElem?_map, List.getElem?_map, hx]; rfl] at hc
  exact ⟨ga, ca, rfl, hc, Own.frozen h.j.op (show ks.length = _ by rw [bls_length, List.length_map]) i, World.block_lt_of_cell? _ _ hc⟩
theorem RI.drop (h : RI q w ks vo va ats peak) {g c : Nat} (hv : vo = .slice (some ⟨g, 0, none⟩) ks.length c) (i : Nat) : RI q (w.setCell ⟨g, i, none⟩ (.bool false)) (ks.set i none) vo va ats peak ∧ Mods (· = g) w (w.setCell ⟨g, i, none⟩ (.bool false)) := by
  have := h.j.setO hv (by rw [List.length_map]) i false
  refine ⟨⟨by rw [List.map_set]; exact this.1, by rw [List.length_set]; exact h.len, fun j x hx => ?_⟩, this.2⟩
  rw [List.getElem?_set] at hx
  split at hx
  · split at hx <;> cases hx
  · exact h.fit j x hx
theorem RI.move (h : RI q w ks vo va ats peak) {g c : Nat} (hv : va = .slice (some ⟨g, 0, none⟩) ks.length c) {i k0 : Nat} (hx : ks[i]? = some (some k0)) (k : Nat) (hk : k ≤ q.es.length) : RI q (w.setCell ⟨g, i, none⟩ (.int .i64 (k : Int))) (ks.set i (some k)) vo va (ats.set i (k : Int)) peak ∧ Mods (· = g) w (w.setCell ⟨g, i, none⟩ (.int .i64 (k : Int))) := by
  have hi := (List.getElem?_eq_some_iff.1 hx).1
  have := h.j.setA hv h.len.symm i (k : Int)
  refine ⟨RI.place i k ?_ h.len hi hk h.fit, this.2⟩
  have e : (ks.map Option.isSome).set i true = ks.map Option.isSome := by
    apply List.ext_getElem?
    intro j
    rw [List.getElem?_set]
    split
    · rename_i hij
      subst hij
      rw [List.getElem?_map, hx, List.length_map, if_pos hi]; rfl
    · rfl
  rw [e]
  exact this.1
theorem fnd_no {id : Int} (h : fnd ks id = none) : RHas ks id = false := by unfold RHas; rw [h]; rfl
theorem fnd_yes {id : Int} {k : Nat} (h : fnd ks id = some k) : RHas ks id = true := by unfold RHas; rw [h]; rfl
set_option maxRecDepth 20000 in
theorem rclose_c (h : RI q w ks vo va ats peak) (id : Int) : Calls Try.prog 96 #[.pointer (some ⟨q.b, 0, none⟩), .int .i64 id] w fun e w' => e = .returned (.bool (rcloseP ks id).2) ∧ RO q vo va w (rcloseP ks id).1 peak w' := by
  have HHS := hid (has_c h id)
  unfold rcloseP
  cases hx : fnd ks id with
  | none =>
    rw [fnd_no hx] at HHS
    have HH := hid h
    clear h hx
    go_enter Try.func96, Try.ntmps96
    go_wp2_with (first
      | (go_at_call 71; refine HHS.out.mono ?_; rintro e' w5 ⟨rfl, rfl⟩)
      | fail)
    go_ret
    exact ⟨rfl, RO.refl HH.out (Nw.refl _)⟩
  | some k =>
    rw [fnd_yes hx] at HHS
    obtain ⟨i, rfl, hi, hki⟩ := rfnd_mem hx
    rw [Int.toNat_natCast]
    obtain ⟨g, c, hvo, hc, hfz, hg⟩ := h.op_cell hki
    have hii : (i : Int) < ks.length := by omega
    have y := h.j.blk
    have g0 := lt_of_heap y
    have k1 := heap_cell y 1
    have k2 := heap_cell y 2
    have k4 := heap_cell y 4
    have k5 := heap_cell y 5
    simp only [List.getElem?_toArray, List.getElem?_cons_succ, List.getElem?_cons_zero] at k1 k2 k4 k5
    clear y
    subst hvo
    have HD := hid (h.drop rfl i)
    clear h hx hki
    go_enter Try.func96, Try.ntmps96
    go_wp2_with (first
      | (go_at_call 71; refine HHS.out.mono ?_; rintro e' w5 ⟨rfl, rfl⟩)
      | fail)
    go_ret
    exact ⟨rfl, _, _, _, HD.out.1, HD.out.2.mono (fun j z => Or.inr (Or.inl (by rw [z]; rfl))), fun j z => Or.inl z⟩
set_option maxRecDepth 20000 in
theorem rclone_c (h : RI q w ks vo va ats peak) (hf : Few q.es) (hl : ks.length ≤ 90000) (id : Int) : Calls Try.prog 93 #[.pointer (some ⟨q.b, 0, none⟩), .int .i64 id] w (RNewO q vo va w (rcloneP q.size q.es ks peak id)) := by
  have HHS := hid (has_c h id)
  generalize hC : rcloneP q.size q.es ks peak id = X
  unfold rcloneP at hC
  cases hx : fnd ks id with
  | none =>
    rw [fnd_no hx] at HHS
    rw [hx] at hC
    have HH := hid h
    have HC := hid hC.symm
    clear h hx hC
    go_enter Try.func93, Try.ntmps93
    go_wp2_with (first
      | (go_at_call 71; refine HHS.out.mono ?_; rintro e' w5 ⟨rfl, rfl⟩)
      | fail)
    go_ret2
    unfold RNewO
    rw [HC.out]
    exact ⟨rfl, RO.refl HH.out (Nw.refl _)⟩
  | some k =>
    rw [fnd_yes hx] at HHS
    rw [hx] at hC
    obtain ⟨i, rfl, hi, hki⟩ := rfnd_mem hx
    obtain ⟨g, c, hva, hc, hfz, hg⟩ := h.at_cell hki
    have hii : (i : Int) < ks.length := by omega
    have y := h.j.blk
    have g0 := lt_of_heap y
    have k1 := heap_cell y 1
    have k2 := heap_cell y 2
    have k4 := heap_cell y 4
    have k5 := heap_cell y 5
    simp only [List.getElem?_toArray, List.getElem?_cons_succ, List.getElem?_cons_zero] at k1 k2 k4 k5
    clear y
    have HNC := hid (rnew_c h hf hl k (h.fit i k hki).2)
    unfold RNewO at HNC
    rw [show rnewP q.size q.es ks peak k = X from hC] at HNC
    subst hva
    clear h hx hki hC
    go_enter Try.func93, Try.ntmps93
    go_wp2_with (first
      | (go_at_call 71; refine HHS.out.mono ?_; rintro e' w5 ⟨rfl, rfl⟩)
      | (go_at_call 92; refine HNC.out.mono ?_; rintro e' w6 ⟨rfl, hro⟩)
      | fail)
    go_ret2
    exact ⟨rfl, hro⟩
set_option maxRecDepth 20000 in
theorem rseek_c (h : RI q w ks vo va ats peak) (hf : Few q.es) (hl : ks.length ≤ 90000) (id k : Int) : Calls Try.prog 95 #[.pointer (some ⟨q.b, 0, none⟩), .int .i64 id, .int .i64 k] w
    fun e w' => e = .returned (.int .i64 (rseekP q.es q.E ks peak id k).2) ∧ RO q vo va w (rseekP q.es q.E ks peak id k).1.1 (rseekP q.es q.E ks peak id k).1.2 w' := by
  have HHS := hid (has_c h id)
  generalize hC : rseekP q.es q.E ks peak id k = X
  unfold rseekP at hC
  cases hx : fnd ks id with
  | none =>
    rw [fnd_no hx] at HHS
    rw [hx] at hC
    have HH := hid h
    have HC := hid hC.symm
    clear h hx hC
    go_enter Try.func95, Try.ntmps95
    go_wp2_with (first
      | (go_at_call 71; refine HHS.out.mono ?_; rintro e' w5 ⟨rfl, rfl⟩)
      | fail)
    go_ret
    rw [HC.out]
    exact ⟨rfl, RO.refl HH.out (Nw.refl _)⟩
  | some k0 =>
    rw [fnd_yes hx] at HHS
    rw [hx] at hC
    dsimp only at hC
    obtain ⟨i, rfl, hi, hki⟩ := rfnd_mem hx
    rw [Int.toNat_natCast] at hC
    by_cases hk0 : k < 0
    · have d0 : decide (k < 0) = true := decide_eq_true hk0
      rw [if_pos hk0] at hC
      have HH := hid h
      have HC := hid hC.symm
      clear h hx hC hki hk0
      go_enter Try.func95, Try.ntmps95
      go_wp2_with (first
        | (go_at_call 71; refine HHS.out.mono ?_; rintro e' w5 ⟨rfl, rfl⟩)
        | fail)
      go_ret
      rw [HC.out]
      exact ⟨rfl, RO.refl HH.out (Nw.refl _)⟩
    · have d0 : decide (k < 0) = false := decide_eq_false hk0
      rw [if_neg hk0] at hC
      obtain ⟨pe, ce, hve, hce1, hce2, hce3, _⟩ := h.j.events.evs
      have y := h.j.blk
      have g0 := lt_of_heap y
      have k1 := heap_cell y 1
      have k2 := heap_cell y 2
      have k4 := heap_cell y 4
      have k5 := heap_cell y 5
      simp only [List.getElem?_toArray, List.getElem?_cons_succ, List.getElem?_cons_zero] at k1 k2 k4 k5
      clear y
      rw [hve] at k1
      by_cases hkl : (q.es.length : Int) < k
      · have d1 : decide ((q.es.length : Int) < k) = true := decide_eq_true hkl
        rw [if_pos hkl] at hC
        have HH := hid h
        have HC := hid hC.symm
        clear h hx hC hki hk0 hkl
        generalize q.es.length = L at *
        go_enter Try.func95, Try.ntmps95
        go_wp2_with (first
          | (go_at_call 71; refine HHS.out.mono ?_; rintro e' w5 ⟨rfl, rfl⟩)
          | fail)
        go_ret
        rw [HC.out]
        exact ⟨rfl, RO.refl HH.out (Nw.refl _)⟩
      · have d1 : decide ((q.es.length : Int) < k) = false := decide_eq_false hkl
        rw [if_neg hkl] at hC
        obtain ⟨m, rfl⟩ : ∃ m : Nat, k = m := ⟨k.toNat, by omega⟩
        rw [Int.toNat_natCast] at hC
        have d1' : decide (q.es.length < m) = false := decide_eq_false (by omega)
        have d0' : decide ((m : Int) < 0) = false := decide_eq_false (by omega)
        obtain ⟨g, c, hva, hc, hfz, hg⟩ := h.at_cell hki
        have hii : (i : Int) < ks.length := by omega
        subst hva
        have HM := hid (h.move rfl hki m (by omega))
        have HCL := hid (fun w' (hn : Nw _ w') => rcells_c (HM.out.1.nw hn) hf (by rw [List.length_set]; omega))
        have HC := hid hC.symm
        clear h hx hC hki hk0 hkl
        generalize q.es.length = L at *
        go_enter Try.func95, Try.ntmps95
        go_wp2_with (first
          | (go_at_call 71; refine HHS.out.mono ?_; rintro e' w5 ⟨rfl, rfl⟩)
          | (go_at_call 70; refine (HCL.out _ (by repeat (first | assumption | exact Nw.refl _ | refine Nw.alloc ?_ _ | refine Nw.drew ?_ | refine Nw.drewN2 ?_ _ | (refine Nw.trans ?_ (by assumption))))).mono ?_; rintro e' w6 ⟨rfl, hri, hm6⟩)
          | fail)
        go_ret
        rw [HC.out]
        exact ⟨rfl, _, _, _, hri, (HM.out.2.mono (fun j z => Or.inr (Or.inr (by rw [z]; rfl)))).trans (hm6.mono (fun j z => Or.inl z)), fun j z => Or.inl z⟩
/-- A call hands back an event and an error and leaves the pool so. -/
def RNxO (q : RCf) (vo va : Value) (w : World) (X : (List (Option Nat) × Int) × ((Int × List Int) × Int)) (e : Ending) (w' : World) : Prop :=
  ∃ v, e = .returned (.tuple #[.agg #[.int .u64 X.2.1.1, v], .int .i64 X.2.2]) ∧ Sl w' v (i64s X.2.1.2) ∧ RO q vo va w X.1.1 X.1.2 w'
/-- A block of the call's own turned besides. -/
theorem RO.cell {w2 w3 : World} {g : Nat} {ks' : List (Option Nat)} {peak' : Int} {wE : World} (hE : Nw w wE) (h : RO q vo va wE ks' peak' w2) (hg : w.heap.size ≤ g) (hg2 : g < wE.heap.size) (hq : q.w1.heap.size ≤ g) (hn : ¬ RS q vo va g) (hm : Mods (· = g) w2 w3) : RO q vo va w ks' peak' w3 := by
  obtain ⟨vo', va', ats', h1, h2, h3⟩ := h
  have hng : ¬ RS q vo' va' g := fun z => by
    rcases h3 g z with y | y
    · exact hn y
    · omega
  refine ⟨vo', va', ats', h1.mods hm (fun k _ h z => by omega) (fun k hk z => hng (by rw [← z]; exact hk)), ((hE.mods _).trans h2).absorb hm (fun k z => Or.inr (by omega)), fun k hk => ?_⟩
  rcases h3 k hk with y | y
  · exact Or.inl y
  · exact Or.inr (Nat.le_trans hE.size y)
set_option maxRecDepth 20000 in
set_option maxHeartbeats 1600000 in
theorem rnext_c (h : RI q w ks vo va ats peak) (hf : Few q.es) (hl : ks.length ≤ 90000) (id : Int) : Calls Try.prog 94 #[.pointer (some ⟨q.b, 0, none⟩), .int .i64 id] w (RNxO q vo va w (rnextP q.es q.E ks peak id)) := by
  generalize hC : rnextP q.es q.E ks peak id = X
  unfold rnextP at hC
  have hlo := h.j.lt
  have hqw : q.w1.heap.size ≤ w.heap.size := h.j.fz.size
  go_enter Try.func94, Try.ntmps94
  go_upto_region 1 with fail
  have yE := heap_new w (.cells #[.int .u64 0, .slice none 0 0] 38)
  have hnE := (Nw.refl w).alloc (.cells #[.int .u64 0, .slice none 0 0] 38)
  have hgE1 := lt_alloc w (.cells #[.int .u64 0, .slice none 0 0] 38)
  have hE := h.nw hnE
  have HGN := hid (show ¬ RS q vo va w.heap.size from fun z => by have := (hlo _ z).2; omega)
  generalize w.alloc (.cells #[.int .u64 0, .slice none 0 0] 38) = wE at *
  obtain ⟨gE, hge⟩ : ∃ gE, gE = w.heap.size := ⟨_, rfl⟩
  rw [← hge] at yE hgE1 HGN
  rw [← hge]
  have HGE := hid (show w.heap.size ≤ gE ∧ q.w1.heap.size ≤ gE from ⟨by omega, by omega⟩)
  have HNE := hid hnE
  have HGL := hid hgE1
  have HHS := hid (has_c hE id)
  have HYE := hid yE
  clear hge h hlo hqw
  cases hx : fnd ks id with
  | none =>
    rw [fnd_no hx] at HHS
    rw [hx] at hC
    dsimp only at hC
    have HC := hid hC.symm
    have HRO := hid (RO.refl hE (Nw.refl _))
    have d0 := heap_cell yE 0
    have d1 := heap_cell yE 1
    have f0 := heap_frozen yE 0
    have f1 := heap_frozen yE 1
    simp only [List.getElem?_toArray, List.getElem?_cons_succ, List.getElem?_cons_zero] at d0 d1
    clear hE hC yE hx
    go_wp2_with (first
      | (go_at_call 71; refine HHS.out.mono ?_; rintro e' w5 ⟨rfl, rfl⟩)
      | fail)
    ((try simp only [Exit.inBlock, Exit.then]); refine bodyPost_ret (results_cell2 rfl _ _ _ _ _ _ _ rfl (heap_set (heap_set HYE.out 0 (.int .u64 0)) 1 (.slice none 0 0)) Try.underlying38 rfl (by kernel_rfl)) rfl ?_)
    rw [HC.out]
    exact ⟨.slice none 0 0, rfl, Sl.nil _, RO.cell HNE.out HRO.out HGE.out.1 HGL.out HGE.out.2 HGN.out (Mods.setCell (S := (· = gE)) (p := ⟨gE, 1, none⟩) (Mods.setCell (S := (· = gE)) (p := ⟨gE, 0, none⟩) (Mods.refl _ _) rfl _) rfl _)⟩
  | some k =>
    rw [fnd_yes hx] at HHS
    rw [hx] at hC
    dsimp only at hC
    obtain ⟨i, rfl, hi, hki⟩ := rfnd_mem hx
    rw [Int.toNat_natCast] at hC
    have hii : (i : Int) < ks.length := by omega
    obtain ⟨g, c, hva, hc, hfz, hg⟩ := hE.at_cell hki
    obtain ⟨pe, ce, hve, hce1, hce2, hce3, hec⟩ := hE.j.events.evs
    have hkl := (hE.fit i k hki).2
    have hgg : gE ≠ g := fun z => HGN.out (Or.inr (Or.inr (by rw [hva, z]; rfl)))
    have hgb : gE ≠ q.b := fun z => HGN.out (Or.inl z)
    have h := hE
    have y := h.j.blk
    have g0 := lt_of_heap y
    have k1 := heap_cell y 1
    have k2 := heap_cell y 2
    have k4 := heap_cell y 4
    have k5 := heap_cell y 5
    simp only [List.getElem?_toArray, List.getElem?_cons_succ, List.getElem?_cons_zero] at k1 k2 k4 k5
    clear y
    rw [hve] at k1
    clear h
    unfold maxLen at hce2
    by_cases hke : k = q.es.length
    · have dk : ((k : Int) == (q.es.length : Int)) = true := by simp [hke]
      rw [if_pos hke] at hC
      have HC := hid hC.symm
      have HRO := hid (RO.refl hE (Nw.refl _))
      have d0 := heap_cell yE 0
      have d1 := heap_cell yE 1
      have f0 := heap_frozen yE 0
      have f1 := heap_frozen yE 1
      simp only [List.getElem?_toArray, List.getElem?_cons_succ, List.getElem?_cons_zero] at d0 d1
      subst hva
      clear hE hC yE hx hke hki hec
      generalize q.es.length = L at *
      go_upto_region 3 with (first
        | (go_at_call 71; refine HHS.out.mono ?_; rintro e' w5 ⟨rfl, rfl⟩)
        | fail)
      refine wp_region_stairs (by kernel_rfl) (by kernel_rfl) (by kernel_rfl) ?_
      iterate 13
        refine Stairs.is ?_ ?_ ?_
        rotate_left 1
        · intro x wR hR hd K hK
          simp only [Act.put, List.setIfInBounds_toArray, List.set_cons_zero, List.set_cons_succ, Nat.reduceAdd, List.length_nil, List.length_cons, List.nil_append, List.cons_append, Say.ok] at hK ⊢
          clear hd
          change Hid _ at hK
          obtain ⟨hcR, hfR, hzR⟩ := nwc hR
          first | (refine wanted_yes ?_ ?_; rfl) | (refine wanted_no ?_ ?_; rfl)
          first | (refine hK.out _ _ ?_ ?_ <;> first | (solve | (repeat (first | assumption | exact Nw.refl _ | refine Nw.alloc ?_ _ | refine Nw.drew ?_ | refine Nw.drewN2 ?_ _ | (refine Nw.trans ?_ (by assumption))))) | ((conv => lhs; whnf) <;> exact rfl) | exact rfl | exact congrArg Value.bool dk) | (go_step; first | (refine hK.out _ _ ?_ ?_ <;> first | (solve | (repeat (first | assumption | exact Nw.refl _ | refine Nw.alloc ?_ _ | refine Nw.drew ?_ | refine Nw.drewN2 ?_ _ | (refine Nw.trans ?_ (by assumption))))) | ((conv => lhs; whnf) <;> exact rfl) | exact rfl | exact congrArg Value.bool dk) | ((first | fail); (refine hK.out _ _ ?_ ?_ <;> first | (solve | (repeat (first | assumption | exact Nw.refl _ | refine Nw.alloc ?_ _ | refine Nw.drew ?_ | refine Nw.drewN2 ?_ _ | (refine Nw.trans ?_ (by assumption))))) | ((conv => lhs; whnf) <;> exact rfl) | exact rfl | exact congrArg Value.bool dk)))
        try simp only [Act.put, List.setIfInBounds_toArray, List.set_cons_zero, List.set_cons_succ, Nat.reduceAdd, List.length_nil, List.length_cons, List.nil_append, List.cons_append]
      iterate 1
        refine Stairs.is (.bool true) ?_ ?_
        · intro x wR hR hd K hK
          simp only [Act.put, List.setIfInBounds_toArray, List.set_cons_zero, List.set_cons_succ, Nat.reduceAdd, List.length_nil, List.length_cons, List.nil_append, List.cons_append, Say.ok] at hK ⊢
          clear hd
          change Hid _ at hK
          obtain ⟨hcR, hfR, hzR⟩ := nwc hR
          first | (refine wanted_yes ?_ ?_; rfl) | (refine wanted_no ?_ ?_; rfl)
          first | (refine hK.out _ _ ?_ ?_ <;> first | (solve | (repeat (first | assumption | exact Nw.refl _ | refine Nw.alloc ?_ _ | refine Nw.drew ?_ | refine Nw.drewN2 ?_ _ | (refine Nw.trans ?_ (by assumption))))) | ((conv => lhs; whnf) <;> exact rfl) | exact rfl | exact congrArg Value.bool dk) | (go_step; first | (refine hK.out _ _ ?_ ?_ <;> first | (solve | (repeat (first | assumption | exact Nw.refl _ | refine Nw.alloc ?_ _ | refine Nw.drew ?_ | refine Nw.drewN2 ?_ _ | (refine Nw.trans ?_ (by assumption))))) | ((conv => lhs; whnf) <;> exact rfl) | exact rfl | exact congrArg Value.bool dk) | ((first | fail); (refine hK.out _ _ ?_ ?_ <;> first | (solve | (repeat (first | assumption | exact Nw.refl _ | refine Nw.alloc ?_ _ | refine Nw.drew ?_ | refine Nw.drewN2 ?_ _ | (refine Nw.trans ?_ (by assumption))))) | ((conv => lhs; whnf) <;> exact rfl) | exact rfl | exact congrArg Value.bool dk)))
        try simp only [Act.put, List.setIfInBounds_toArray, List.set_cons_zero, List.set_cons_succ, Nat.reduceAdd, List.length_nil, List.length_cons, List.nil_append, List.cons_append]
      refine Stairs.nil ?_
      intro x wR hR hx
      clear hx
      obtain ⟨hcR, hfR, hzR⟩ := nwc hR
      clear hcR hfR hzR
      go_upto_region 4 with fail
      have k2R := hR.cell k2
      have g0R := Nat.lt_of_lt_of_le g0 hR.size
      have yR := hR.heap HYE.out
      have d0R := heap_cell yR 0
      have d1R := heap_cell yR 1
      have f0R := heap_frozen yR 0
      have f1R := heap_frozen yR 1
      have gER := lt_of_heap yR
      simp only [List.getElem?_toArray, List.getElem?_cons_succ, List.getElem?_cons_zero] at d0R d1R
      clear d0 d1 f0 f1 k1 k2 k4 k5 hc hfz hg g0 hgE1
      go_region
      all_goals
        ((try simp only [Exit.inBlock, Exit.then]); go_wp2)
        ((try simp only [Exit.inBlock, Exit.then]); refine bodyPost_ret (results_cell2 rfl _ _ _ _ _ _ _ rfl (heap_set (heap_set yR 0 (.int .u64 0)) 1 (.slice none 0 0)) Try.underlying38 rfl (by kernel_rfl)) rfl ?_)
        rw [HC.out]
        exact ⟨.slice none 0 0, rfl, Sl.nil _, RO.cell HNE.out HRO.out HGE.out.1 HGL.out HGE.out.2 HGN.out (Mods.setCell (S := (· = gE)) (p := ⟨gE, 1, none⟩) (Mods.setCell (S := (· = gE)) (p := ⟨gE, 0, none⟩) (Nw.mods (show Nw wE _ from hR.drew) _) rfl _) rfl _)⟩
    · have dk : ((k : Int) == (q.es.length : Int)) = false := beq_eq_false_iff_ne.2 (by omega)
      rw [if_neg hke] at hC
      have HC := hid hC.symm
      have hklt : k < q.es.length := by omega
      have HE := hid hE
      have hgb' : q.b ≠ g := fun z => hE.j.ne.2.1 (by rw [hva, z]; rfl)
      subst hva
      clear hE hC yE hx hke hec
      generalize hL : q.es.length = L at *
      go_upto_region 3 with (first
        | (go_at_call 71; refine HHS.out.mono ?_; rintro e' w5 ⟨rfl, rfl⟩)
        | fail)
      refine wp_region_stairs (by kernel_rfl) (by kernel_rfl) (by kernel_rfl) ?_
      iterate 13
        refine Stairs.is ?_ ?_ ?_
        rotate_left 1
        · intro x wR hR hd K hK
          simp only [Act.put, List.setIfInBounds_toArray, List.set_cons_zero, List.set_cons_succ, Nat.reduceAdd, List.length_nil, List.length_cons, List.nil_append, List.cons_append, Say.ok] at hK ⊢
          clear hd
          change Hid _ at hK
          obtain ⟨hcR, hfR, hzR⟩ := nwc hR
          first | (refine wanted_yes ?_ ?_; rfl) | (refine wanted_no ?_ ?_; rfl)
          first | (refine hK.out _ _ ?_ ?_ <;> first | (solve | (repeat (first | assumption | exact Nw.refl _ | refine Nw.alloc ?_ _ | refine Nw.drew ?_ | refine Nw.drewN2 ?_ _ | (refine Nw.trans ?_ (by assumption))))) | ((conv => lhs; whnf) <;> exact rfl) | exact rfl | exact congrArg Value.bool dk) | (go_step; first | (refine hK.out _ _ ?_ ?_ <;> first | (solve | (repeat (first | assumption | exact Nw.refl _ | refine Nw.alloc ?_ _ | refine Nw.drew ?_ | refine Nw.drewN2 ?_ _ | (refine Nw.trans ?_ (by assumption))))) | ((conv => lhs; whnf) <;> exact rfl) | exact rfl | exact congrArg Value.bool dk) | ((first | fail); (refine hK.out _ _ ?_ ?_ <;> first | (solve | (repeat (first | assumption | exact Nw.refl _ | refine Nw.alloc ?_ _ | refine Nw.drew ?_ | refine Nw.drewN2 ?_ _ | (refine Nw.trans ?_ (by assumption))))) | ((conv => lhs; whnf) <;> exact rfl) | exact rfl | exact congrArg Value.bool dk)))
        try simp only [Act.put, List.setIfInBounds_toArray, List.set_cons_zero, List.set_cons_succ, Nat.reduceAdd, List.length_nil, List.length_cons, List.nil_append, List.cons_append]
      iterate 1
        refine Stairs.is (.bool false) ?_ ?_
        · intro x wR hR hd K hK
          simp only [Act.put, List.setIfInBounds_toArray, List.set_cons_zero, List.set_cons_succ, Nat.reduceAdd, List.length_nil, List.length_cons, List.nil_append, List.cons_append, Say.ok] at hK ⊢
          clear hd
          change Hid _ at hK
          obtain ⟨hcR, hfR, hzR⟩ := nwc hR
          first | (refine wanted_yes ?_ ?_; rfl) | (refine wanted_no ?_ ?_; rfl)
          first | (refine hK.out _ _ ?_ ?_ <;> first | (solve | (repeat (first | assumption | exact Nw.refl _ | refine Nw.alloc ?_ _ | refine Nw.drew ?_ | refine Nw.drewN2 ?_ _ | (refine Nw.trans ?_ (by assumption))))) | ((conv => lhs; whnf) <;> exact rfl) | exact rfl | exact congrArg Value.bool dk) | (go_step; first | (refine hK.out _ _ ?_ ?_ <;> first | (solve | (repeat (first | assumption | exact Nw.refl _ | refine Nw.alloc ?_ _ | refine Nw.drew ?_ | refine Nw.drewN2 ?_ _ | (refine Nw.trans ?_ (by assumption))))) | ((conv => lhs; whnf) <;> exact rfl) | exact rfl | exact congrArg Value.bool dk) | ((first | fail); (refine hK.out _ _ ?_ ?_ <;> first | (solve | (repeat (first | assumption | exact Nw.refl _ | refine Nw.alloc ?_ _ | refine Nw.drew ?_ | refine Nw.drewN2 ?_ _ | (refine Nw.trans ?_ (by assumption))))) | ((conv => lhs; whnf) <;> exact rfl) | exact rfl | exact congrArg Value.bool dk)))
        try simp only [Act.put, List.setIfInBounds_toArray, List.set_cons_zero, List.set_cons_succ, Nat.reduceAdd, List.length_nil, List.length_cons, List.nil_append, List.cons_append]
      refine Stairs.nil ?_
      intro x wR hR hx
      clear hx
      obtain ⟨hcR, hfR, hzR⟩ := nwc hR
      have k5R := hR.cell k5
      have g0R := Nat.lt_of_lt_of_le g0 hR.size
      have hcR2 := hR.cell hc
      have hfR2 : wR.frozen? ⟨g, i, none⟩ = false := (Below.frozen hR (by exact hg)).trans hfz
      have hgR := Nat.lt_of_lt_of_le hg hR.size
      have HER := hid (HE.out.nw hR)
      have HM := hid (HER.out.move rfl hki (k + 1) (by omega))
      rw [show ((k + 1 : Nat) : Int) = (k : Int) + 1 from rfl] at HM
      have HCL := hid (fun w' (hn : Nw _ w') => rcells_c (HM.out.1.nw hn) hf (by rw [List.length_set]; omega))
      clear hcR hfR hzR k1 k2 k4 k5 hc hfz hg g0
      go_upto_region 7 with (first
        | (go_at_call 70; refine (HCL.out _ (by repeat (first | assumption | exact Nw.refl _ | refine Nw.alloc ?_ _ | refine Nw.drew ?_ | refine Nw.drewN2 ?_ _ | (refine Nw.trans ?_ (by assumption))))).mono ?_; rintro e' w6 ⟨rfl, hri, hm6⟩)
        | fail)
      have hkl' : (ks.set i (some (k + 1))).length = ks.length := List.length_set
      obtain ⟨g', c', hv', hc6, _, hg6⟩ := hri.at_cell (i := i) (k := k + 1) (by rw [List.getElem?_set, if_pos rfl, if_pos hi])
      obtain ⟨rfl, rfl⟩ : g = g' ∧ c = c' := by
        simp only [Value.slice.injEq, Option.some.injEq, Addr.mk.injEq] at hv'
        exact ⟨hv'.1.1, hv'.2.2⟩
      rw [show ((k + 1 : Nat) : Int) = (k : Int) + 1 from rfl] at hc6
      obtain ⟨pe6, ce6, hve6, _, _, _, hec6⟩ := hri.j.events.evs
      obtain ⟨be, oe, vi, hp6, e0, e1, hsl⟩ := hec6 k (by rw [hL]; exact hklt)
      subst hp6
      obtain ⟨pu, cu, rfl, hu1, hu2, _, _⟩ := i64s_open hsl
      have hbe := World.block_lt_of_cell? _ _ e0
      simp only at hbe
      have y6 := hri.j.blk
      have g06 := lt_of_heap y6
      have k16 := heap_cell y6 1
      have k56 := heap_cell y6 5
      simp only [List.getElem?_toArray, List.getElem?_cons_succ, List.getElem?_cons_zero] at k16 k56
      rw [hve6, hL] at k16
      have hkL : (k : Int) < L := by omega
      have yE6 := hm6.heap (HM.out.2.heap (hR.heap HYE.out) hgg) hgb
      have d0R := heap_cell yE6 0
      have d1R := heap_cell yE6 1
      have f0R := heap_frozen yE6 0
      have f1R := heap_frozen yE6 1
      have gER := lt_of_heap yE6
      simp only [List.getElem?_toArray, List.getElem?_cons_succ, List.getElem?_cons_zero] at d0R d1R
      have HRO6 := hid (show RO q vo (.slice (some ⟨g, 0, none⟩) ks.length c) wE (ks.set i (some (k + 1))) (max peak (rcells q.es (ks.set i (some (k + 1))) : Int)) w6 from
        ⟨_, _, _, hri, ((hR.mods _).trans (HM.out.2.mono (fun j z => Or.inr (Or.inr (by rw [z]; rfl))))).trans (hm6.mono (fun j z => Or.inl z)), fun j z => Or.inl z⟩)
      have HSL := hid hsl
      clear hri hm6 hec6 y6 hsl HM HCL HER HE k5R g0R hcR2 hfR2 hgR
      go_region
      all_goals
        have hmE : Mods (· = gE) w6 ((w6.setCell ⟨gE, 0, none⟩ (.int .u64 (tm q.es k))).setCell ⟨gE, 1, none⟩ (.slice pu (ids q.es k).length cu)).drew := (Mods.setCell (S := (· = gE)) (p := ⟨gE, 1, none⟩) (Mods.setCell (S := (· = gE)) (p := ⟨gE, 0, none⟩) (Mods.refl _ _) rfl _) rfl _).drew
        ((try simp only [Exit.inBlock, Exit.then]); go_wp2)
        ((try simp only [Exit.inBlock, Exit.then]); refine bodyPost_ret (results_cell2 rfl _ _ _ _ _ _ _ rfl (heap_set (heap_set yE6 0 (.int .u64 (tm q.es k))) 1 (.slice pu (ids q.es k).length cu)) Try.underlying38 rfl (by kernel_rfl)) rfl ?_)
        rw [HC.out]
        exact ⟨_, rfl, HSL.out.mods hmE (fun h0 j hj => Tr.Sl.apart HSL.out yE6 (fun x hx => by
          obtain ⟨z, _, rfl⟩ := List.mem_map.1 hx
          exact ⟨by simp, by simp⟩) h0 j hj), RO.cell HNE.out HRO6.out HGE.out.1 HGL.out HGE.out.2 HGN.out hmE⟩
end
end Hp
end Go.Proofs.Ytdihoedehmfgfaa
