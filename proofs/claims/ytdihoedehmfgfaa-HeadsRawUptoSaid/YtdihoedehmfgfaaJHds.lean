/- Joined texts.
Pools of heads: what a pool is made of; the functions that only read. No condition but lengths.
Pools of heads: what is kept, the meter, the least free number. No condition but lengths.
Pools of heads: a head is opened. No condition but lengths.
Pools of heads: open. No condition but lengths.
Pools of heads: open, walked. No condition but lengths.
Pools of heads: Open, Clone, Close, Index, Peak. No condition but lengths.
-/
import Derived.Test.YtdihoedehmfgfaaScanE
import Derived.Test.YtdihoedehmfgfaaScanC
set_option linter.unusedSimpArgs false
set_option linter.unusedVariables false
namespace Go.Proofs.Ytdihoedehmfgfaa
open Go.ChangeShapes Go.WideShapes Go.ChangeAt Go.RowKit
namespace Hp
open Go.Proofs.Ytdihoedehmfgfaa.Rec (none_ get i64s_open)
open Go.Proofs.Ytdihoedehmfgfaa.Sc (recP SI Ok record_c HandsRc)
/-! ### Plain -/
/-- What a head is: its place, how many records it stands behind, the record it read last. -/
structure HS where
  at_ : Int
  idx : Int
  t : Int
  ids : List Int
  rd : Bool
def hs0 (first : Int) : HS := ⟨first, 0, 0, [], false⟩
def nxt (b : List UInt8) (r : Nat) (p : Int) (h : HS) : HS × Int :=
  match recP b r h.at_ p with
  | ((t, l), k, e) => if e ≠ 0 then (h, e) else if h.rd = true ∧ t < h.t then (h, 8) else (⟨k, h.idx + 1, t, l, true⟩, 0)
def cellsOf : Option HS → Nat
  | some h => 3 + h.ids.length
  | none => 0
def cells (hs : List (Option HS)) : Nat := (hs.map cellsOf).sum
def cnt (hs : List (Option HS)) : Nat := hs.countP Option.isSome
def fnd {α : Type} (l : List (Option α)) (id : Int) : Option α := if 0 ≤ id then (l[id.toNat]?).join else none
theorem fnd_low {α : Type} {l : List (Option α)} {id : Int} (h : id < 0) : fnd l id = none := if_neg (by omega)
theorem fnd_at {α : Type} {l : List (Option α)} {i : Nat} : fnd l (i : Int) = (l[i]?).join := by unfold fnd; rw [if_pos (by omega), Int.toNat_natCast]
theorem fnd_high {α : Type} {l : List (Option α)} {id : Int} (h : (l.length : Int) ≤ id) : fnd l id = none := by
  unfold fnd
  split
  · rw [List.getElem?_eq_none (by omega)]; rfl
  · rfl
/-- What is known of a head. -/
structure HOk (n : Nat) (h : HS) : Prop where
  i0 : 0 ≤ h.idx
  i1 : h.idx ≤ h.at_
  i2 : h.at_ ≤ n
  t0 : 0 ≤ h.t
  t1 : h.t ≤ 18446744073709551615
  ids : h.ids.length ≤ 64
/-! ### In memory -/
/-- A head in memory: its block, its ids' row, its state. -/
structure Hd where
  g : Nat
  u : Value
  s : HS
def ptr : Option Hd → Value
  | some x => .pointer (some ⟨x.g, 0, none⟩)
  | none => .pointer none
def ptrs (rs : List (Option Hd)) : List Value := rs.map ptr
def sts (rs : List (Option Hd)) : List (Option HS) := rs.map (Option.map Hd.s)
theorem ptrs_length (rs : List (Option Hd)) : (ptrs rs).length = rs.length := by simp [ptrs]
theorem sts_length (rs : List (Option Hd)) : (sts rs).length = rs.length := by simp [sts]
theorem ptrs_one (rs : List (Option Hd)) : ∀ u ∈ ptrs rs, u.oneCell' = true := oneCell_map _ (fun x => by cases x <;> rfl) rs
theorem fnd_sts (rs : List (Option Hd)) (id : Int) : fnd (sts rs) id = (fnd rs id).map Hd.s := by
  unfold fnd sts
  split
  · rw [List.getElem?_map]
    cases rs[id.toNat]? with
    | none => rfl
    | some x => cases x <;> rfl
  · rfl
/-- What stays of a pool: the log behind it, its names, where the first record begins, its size. -/
structure Cf where
  B : Nat
  s : Nat
  a : Nat
  b : List UInt8
  sc : List Int
  r : Nat
  nm : List ByteArray
  vn : Value
  first : Int
  size : Int
def hcells (s : HS) (u : Value) : Array Value := #[.int .i64 s.at_, .int .i64 s.idx, .int .u64 s.t, u, .bool s.rd]
/-- One head in memory. -/
structure HB (w : World) (P : Nat → Prop) (B : Nat) (x : Hd) : Prop where
  blk : w.heap[x.g]? = some (.cells (hcells x.s x.u) 110 (0, 0))
  ids : Own w B 3 x.u (i64s x.s.ids)
  mg : P x.g
  mu : ∀ k, x.u.ownBlock = some k → P k
theorem HB.mods {w w' : World} {P S : Nat → Prop} {B : Nat} {x : Hd} (h : HB w P B x) (hm : Mods S w w') (h1 : ¬ S x.g) (h2 : ∀ k, x.u.ownBlock = some k → ¬ S k) : HB w' P B x :=
  ⟨hm.heap h.blk h1, h.ids.modsR hm h2, h.mg, h.mu⟩
theorem HB.more {w : World} {P P' : Nat → Prop} {B : Nat} {x : Hd} (h : HB w P B x) (hp : ∀ k, P k → P' k) : HB w P' B x := ⟨h.blk, h.ids, hp _ h.mg, fun k hk => hp k (h.mu k hk)⟩
theorem type_ne {w : World} {k k' : Nat} {cs cs' : Array Value} {e e' : TypeId} {f f' : Nat × Nat} (h : w.heap[k]? = some (.cells cs e f)) (h' : w.heap[k']? = some (.cells cs' e' f')) (he : e ≠ e') : k ≠ k' := by
  rintro rfl
  rw [h] at h'
  injection h' with q
  injection q with _ q2 _
  exact he q2
theorem row_block {w : World} {B : Nat} {e : TypeId} {v : Value} {xs : List Value} (h : Own w B e v xs) {k : Nat} (hk : v.ownBlock = some k) : ∃ cur, w.heap[k]? = some (.cells cur e (0, 0)) := by
  obtain ⟨_, h2⟩ := h
  rcases h2 with ⟨rfl, _⟩ | ⟨g, cap, cur, rfl, _, hh, _⟩
  · cases hk
  · cases hk; exact ⟨cur, hh⟩
/-- A pool in memory. -/
structure PI (w : World) (P : Nat → Prop) (c : Cf) (vh : Value) (rs : List (Option Hd)) (peak : Int) (n : Nat) : Prop where
  blk : w.heap[c.a]? = some (.cells #[.pointer (some ⟨c.s, 0, none⟩), c.vn, .int .i64 c.first, .int .i64 c.size, vh, .int .i64 peak] 107 (0, 0))
  src : SI w c.B c.s c.b c.sc c.r n
  nms : Own w c.B 9 c.vn (Lx.strs c.nm)
  row : Own w (c.s + 1) 111 vh (ptrs rs)
  own : ∀ x, some x ∈ rs → HB w P (c.s + 1) x ∧ HOk c.b.length x.s
  inj : ∀ (i j : Nat) (x y : Hd), rs[i]? = some (some x) → rs[j]? = some (some y) → x.g = y.g → i = j
  ma : P c.a
  mh : ∀ k, vh.ownBlock = some k → P k
  low : ∀ k, P k → c.s < k ∧ k < w.heap.size
  fr : 0 ≤ c.first ∧ c.first ≤ c.b.length
  pk : 0 ≤ peak ∧ peak ≤ 1000000000000
  nl : c.nm.length ≤ 64
  ok : Ok c.b c.sc c.r
theorem PI.src_blk {w : World} {P : Nat → Prop} {c : Cf} {vh : Value} {rs : List (Option Hd)} {peak : Int} {n : Nat} (h : PI w P c vh rs peak n) : ∃ cs, w.heap[c.s]? = some (.cells cs 91 (0, 0)) := by
  obtain ⟨_, _, q, _⟩ := h.src
  exact ⟨_, q⟩
/-- A pool stays where others' blocks turn. -/
theorem PI.mods {w w' : World} {P S : Nat → Prop} {c : Cf} {vh : Value} {rs : List (Option Hd)} {peak : Int} {n : Nat} (h : PI w P c vh rs peak n) (hm : Mods S w w') (hS : ∀ k, S k → c.s < k ∧ ¬ P k) (hv : ∀ k, c.vn.ownBlock = some k → ¬ S k) : PI w' P c vh rs peak n :=
  ⟨hm.heap h.blk (fun q => (hS _ q).2 h.ma), h.src.mods hm (fun k q => (hS k q).1), h.nms.modsR hm hv, h.row.modsR hm (fun k hk q => (hS k q).2 (h.mh k hk)),
    fun x hx => ⟨(h.own x hx).1.mods hm (fun q => (hS _ q).2 (h.own x hx).1.mg) (fun k hk q => (hS k q).2 ((h.own x hx).1.mu k hk)), (h.own x hx).2⟩,
    h.inj, h.ma, h.mh, fun k hk => ⟨(h.low k hk).1, Nat.lt_of_lt_of_le (h.low k hk).2 hm.size⟩, h.fr, h.pk, h.nl, h.ok⟩
theorem PI.nw {w w' : World} {P : Nat → Prop} {c : Cf} {vh : Value} {rs : List (Option Hd)} {peak : Int} {n : Nat} (h : PI w P c vh rs peak n) (hn : Nw w w') : PI w' P c vh rs peak n :=
  h.mods (hn.mods (fun _ => False)) (fun _ q => q.elim) (fun _ _ q => q)
/-- The source has gone on. -/
theorem PI.read {w w' : World} {P : Nat → Prop} {c : Cf} {vh : Value} {rs : List (Option Hd)} {peak : Int} {n n' : Nat} (h : PI w P c vh rs peak n) (hm : Mods (· = c.s) w w') (hs : SI w' c.B c.s c.b c.sc c.r n') : PI w' P c vh rs peak n' :=
  ⟨hm.heap h.blk (fun q => by have := (h.low _ h.ma).1; omega), hs, h.nms.modsR hm (fun k hk q => by
      obtain ⟨_, q1⟩ := row_block h.nms hk
      obtain ⟨_, q2⟩ := h.src_blk
      exact type_ne q1 q2 (by decide) q), h.row.modsR hm (fun k hk q => by have := (h.low k (h.mh k hk)).1; omega),
    fun x hx => ⟨(h.own x hx).1.mods hm (fun q => by have := (h.low _ (h.own x hx).1.mg).1; omega) (fun k hk q => by have := (h.low k ((h.own x hx).1.mu k hk)).1; omega), (h.own x hx).2⟩,
    h.inj, h.ma, h.mh, fun k hk => ⟨(h.low k hk).1, Nat.lt_of_lt_of_le (h.low k hk).2 hm.size⟩, h.fr, h.pk, h.nl, h.ok⟩
theorem PI.more {w : World} {P P' : Nat → Prop} {c : Cf} {vh : Value} {rs : List (Option Hd)} {peak : Int} {n : Nat} (h : PI w P c vh rs peak n) (hp : ∀ k, P k → P' k) (hl : ∀ k, P' k → c.s < k ∧ k < w.heap.size) : PI w P' c vh rs peak n :=
  ⟨h.blk, h.src, h.nms, h.row, fun x hx => ⟨(h.own x hx).1.more hp, (h.own x hx).2⟩, h.inj, hp _ h.ma, fun k hk => hp k (h.mh k hk), hl, h.fr, h.pk, h.nl, h.ok⟩
/-- The pointers' row, opened. -/
theorem ptrs_open {w : World} {B : Nat} {vh : Value} {rs : List (Option Hd)} (h : Own w B 111 vh (ptrs rs)) : ∃ p cap, vh = .slice p rs.length cap ∧ rs.length ≤ cap ∧ cap ≤ maxLen ∧ (p = none → cap = 0) ∧ Cells w p (ptrs rs) := h.sl.open (ptrs_length rs)
theorem ptrs_cell {w : World} {p : Option Addr} {rs : List (Option Hd)} (h : Cells w p (ptrs rs)) (i : Nat) (hi : i < rs.length) : ∃ b off, p = some ⟨b, off, none⟩ ∧ w.cell? ⟨b, off + i, none⟩ = some (ptr rs[i]) := by
  obtain ⟨b, off, e, hc⟩ := h i (by rw [ptrs_length]; exact hi)
  exact ⟨b, off, e, by rw [hc]; simp [ptrs]⟩
theorem ptr_ne {x : Option Hd} : (match x with | some y => Value.pointer (some ⟨y.g, 0, none⟩) | none => Value.pointer none) = ptr x := by cases x <;> rfl
section
variable {w : World} {P : Nat → Prop} {c : Cf} {vh : Value} {rs : List (Option Hd)} {peak : Int} {n : Nat}
def errOf (x : Option Hd) : Int := if x.isSome then 0 else 11
set_option maxRecDepth 20000 in
theorem find_c (h : PI w P c vh rs peak n) (id : Int) : Calls Try.prog 63 #[.pointer (some ⟨c.a, 0, none⟩), .int .i64 id] w fun e w' => e = .returned (.tuple #[ptr (fnd rs id), .int .i64 (errOf (fnd rs id))]) ∧ w = w' := by
  have y := h.blk
  have g0 := lt_of_heap y
  have k0 := heap_cell y 0
  have k1 := heap_cell y 1
  have k2 := heap_cell y 2
  have k3 := heap_cell y 3
  have k4 := heap_cell y 4
  have k5 := heap_cell y 5
  simp only [List.getElem?_toArray, List.getElem?_cons_succ, List.getElem?_cons_zero] at k0 k1 k2 k3 k4 k5
  obtain ⟨p, cap, rfl, hcap, hmx, hp0, hcs⟩ := ptrs_open h.row
  unfold maxLen at hmx
  clear y
  by_cases hlo : id < 0
  · have hd0 : decide (id < 0) = true := decide_eq_true hlo
    rw [fnd_low hlo]
    clear hcs h
    go_enter Try.func63, Try.ntmps63
    go_wp2
    go_ret2
    exact ⟨rfl, rfl⟩
  · have hd0 : decide (id < 0) = false := decide_eq_false hlo
    by_cases hhi : (rs.length : Int) ≤ id
    · have hd1 : decide ((rs.length : Int) ≤ id) = true := decide_eq_true hhi
      rw [fnd_high hhi]
      clear hcs h
      go_enter Try.func63, Try.ntmps63
      go_wp2
      go_ret2
      exact ⟨rfl, rfl⟩
    · have hd1 : decide ((rs.length : Int) ≤ id) = false := decide_eq_false hhi
      obtain ⟨i, rfl⟩ : ∃ i : Nat, id = i := ⟨id.toNat, by omega⟩
      have hi : i < rs.length := by omega
      obtain ⟨b, off, rfl, hc⟩ := ptrs_cell hcs i hi
      have gb := World.block_lt_of_cell? w _ hc
      simp only at gb
      rw [fnd_at, List.getElem?_eq_getElem hi]
      clear hcs h hlo hhi
      generalize rs[i] = x at *
      rw [Option.join_some]
      cases x with
      | none =>
        simp only [ptr] at hc ⊢
        go_enter Try.func63, Try.ntmps63
        go_wp2
        go_ret2
        exact ⟨rfl, rfl⟩
      | some x =>
        simp only [ptr] at hc ⊢
        go_enter Try.func63, Try.ntmps63
        go_wp2
        go_ret2
        exact ⟨rfl, rfl⟩
theorem cnt_take (hs : List (Option HS)) (i : Nat) (hi : i < hs.length) : cnt (hs.take (i + 1)) = cnt (hs.take i) + if hs[i].isSome then 1 else 0 := by
  unfold cnt
  rw [List.take_succ_eq_append_getElem hi, List.countP_append]
  simp [List.countP_cons]
theorem cells_take (hs : List (Option HS)) (i : Nat) (hi : i < hs.length) : cells (hs.take (i + 1)) = cells (hs.take i) + cellsOf hs[i] := by
  unfold cells
  rw [List.take_succ_eq_append_getElem hi, List.map_append, List.sum_append]
  simp
theorem cnt_le (hs : List (Option HS)) : cnt hs ≤ hs.length := List.countP_le_length
set_option maxRecDepth 20000 in
theorem count_c (h : PI w P c vh rs peak n) : Calls Try.prog 29 #[.pointer (some ⟨c.a, 0, none⟩)] w fun e w' => e = .returned (.int .i64 (cnt (sts rs) : Int)) ∧ w = w' := by
  have y := h.blk
  have g0 := lt_of_heap y
  have k0 := heap_cell y 0
  have k1 := heap_cell y 1
  have k2 := heap_cell y 2
  have k3 := heap_cell y 3
  have k4 := heap_cell y 4
  have k5 := heap_cell y 5
  simp only [List.getElem?_toArray, List.getElem?_cons_succ, List.getElem?_cons_zero] at k0 k1 k2 k3 k4 k5
  obtain ⟨p, cap, rfl, hcap, hmx, hp0, hcs⟩ := ptrs_open h.row
  unfold maxLen at hmx
  clear y
  have HC := hid hcs
  clear hcs h
  go_enter Try.func29, Try.ntmps29
  go_wp2
  go_loopw [3, 5, 13] (fun m _ i wr => ∃ k : Nat, k ≤ rs.length ∧ i = .int .i64 k ∧ m = .int .i64 (cnt ((sts rs).take k) : Int) ∧ w = wr) (fun _ _ i _ => rs.length - (intOf i).toNat)
  case atStart => exact ⟨0, Nat.zero_le _, rfl, rfl, rfl⟩
  case round =>
    obtain ⟨k, hk, rfl, rfl, rfl⟩ := hrel
    by_cases hlt : k < rs.length
    · have hdk : decide (k < rs.length) = true := decide_eq_true hlt
      obtain ⟨b1, o1, rfl, hc⟩ := ptrs_cell HC.out k hlt
      have gb := World.block_lt_of_cell? w _ hc
      simp only at gb
      have HT := hid (cnt_take (sts rs) k (by rw [sts_length]; exact hlt))
      have hb := cnt_le ((sts rs).take k)
      rw [List.length_take] at hb
      have hbd : cnt ((sts rs).take k) ≤ k := by omega
      clear hb
      have HX := hid (show (sts rs)[k]'(by rw [sts_length]; exact hlt) = (rs[k]).map Hd.s by simp [sts])
      generalize cnt ((sts rs).take k) = m at *
      generalize rs[k] = x at *
      cases x with
      | none =>
        simp only [ptr] at hc
        go_wp2
        go_roundw
        case rel => exact ⟨k + 1, by omega, by go_num, by rw [HT.out, HX.out]; rfl, by trivial⟩
        case measure => simp [intOf]; omega
      | some x =>
        simp only [ptr] at hc
        go_wp2
        go_roundw
        case rel => exact ⟨k + 1, by omega, by go_num, by rw [HT.out, HX.out]; go_num, by trivial⟩
        case measure => simp [intOf]; omega
    · obtain rfl : k = rs.length := by omega
      have hdk : decide (rs.length < rs.length) = false := decide_eq_false (by omega)
      have HT := hid (show (sts rs).take rs.length = sts rs by rw [← sts_length, List.take_length])
      go_wp2
      go_ret
      rw [HT.out]
      exact ⟨rfl, rfl⟩
end
end Hp
end Go.Proofs.Ytdihoedehmfgfaa
namespace Go.Proofs.Ytdihoedehmfgfaa
open Go.ChangeShapes Go.WideShapes Go.ChangeAt Go.RowKit
namespace Hp
open Go.Proofs.Ytdihoedehmfgfaa.Rec (none_ get i64s_open)
open Go.Proofs.Ytdihoedehmfgfaa.Sc (recP SI Ok record_c HandsRc)
theorem cellsOf_le {n : Nat} {h : HS} (hk : HOk n h) : cellsOf (some h) ≤ 67 := by have := hk.ids; show 3 + h.ids.length ≤ 67; omega
section
variable {w : World} {P : Nat → Prop} {c : Cf} {vh : Value} {rs : List (Option Hd)} {peak : Int} {n : Nat}
theorem cells_le (h : PI w P c vh rs peak n) : ∀ k, k ≤ rs.length → cells ((sts rs).take k) ≤ 67 * k
  | 0, _ => by simp [cells]
  | k + 1, hk => by
    have ih := cells_le h k (by omega)
    rw [cells_take (sts rs) k (by rw [sts_length]; omega)]
    have : cellsOf ((sts rs)[k]'(by rw [sts_length]; omega)) ≤ 67 := by
      rw [show (sts rs)[k]'(by rw [sts_length]; omega) = (rs[k]).map Hd.s by simp [sts]]
      have hm := List.getElem_mem (show k < rs.length by omega)
      cases hx : rs[k] with
      | none => simp [cellsOf]
      | some x =>
        rw [hx] at hm
        exact cellsOf_le (h.own x hm).2
    omega
set_option maxRecDepth 20000 in
theorem cells_c (h : PI w P c vh rs peak n) (hl : rs.length ≤ 100000) : Calls Try.prog 30 #[.pointer (some ⟨c.a, 0, none⟩)] w fun e w' => e = .returned (.int .i64 (cells (sts rs) : Int)) ∧ w = w' := by
  have HL := hid (cells_le h)
  have HO := hid h.own
  have y := h.blk
  have g0 := lt_of_heap y
  have k0 := heap_cell y 0
  have k1 := heap_cell y 1
  have k2 := heap_cell y 2
  have k3 := heap_cell y 3
  have k4 := heap_cell y 4
  have k5 := heap_cell y 5
  simp only [List.getElem?_toArray, List.getElem?_cons_succ, List.getElem?_cons_zero] at k0 k1 k2 k3 k4 k5
  obtain ⟨p, cap, rfl, hcap, hmx, hp0, hcs⟩ := ptrs_open h.row
  unfold maxLen at hmx
  clear y
  have HC := hid hcs
  clear hcs h
  go_enter Try.func30, Try.ntmps30
  go_wp2
  go_loopw [3, 5, 13] (fun m _ i wr => ∃ k : Nat, k ≤ rs.length ∧ i = .int .i64 k ∧ m = .int .i64 (cells ((sts rs).take k) : Int) ∧ w = wr) (fun _ _ i _ => rs.length - (intOf i).toNat)
  case atStart => exact ⟨0, Nat.zero_le _, rfl, rfl, rfl⟩
  case round =>
    obtain ⟨k, hk, rfl, rfl, rfl⟩ := hrel
    by_cases hlt : k < rs.length
    · have hdk : decide (k < rs.length) = true := decide_eq_true hlt
      obtain ⟨b1, o1, rfl, hc⟩ := ptrs_cell HC.out k hlt
      have gb := World.block_lt_of_cell? w _ hc
      simp only at gb
      have HT := hid (cells_take (sts rs) k (by rw [sts_length]; exact hlt))
      have hb := HL.out k hk
      have HX := hid (show (sts rs)[k]'(by rw [sts_length]; exact hlt) = (rs[k]).map Hd.s by simp [sts])
      have HM := hid (List.getElem_mem hlt)
      generalize cells ((sts rs).take k) = m at *
      generalize rs[k] = x at *
      cases x with
      | none =>
        simp only [ptr] at hc
        go_wp2
        go_roundw
        case rel => exact ⟨k + 1, by omega, by go_num, by rw [HT.out, HX.out]; rfl, by trivial⟩
        case measure => simp [intOf]; omega
      | some x =>
        simp only [ptr] at hc
        obtain ⟨hB, hO⟩ := HO.out x HM.out
        have hid1 := hO.ids
        obtain ⟨pu, cu, eu, _⟩ := i64s_open hB.ids.sl
        have hx := hB.blk
        rw [hcells, eu] at hx
        have c3 := heap_cell hx 3
        have gx := lt_of_heap hx
        simp only [List.getElem?_toArray, List.getElem?_cons_succ, List.getElem?_cons_zero] at c3
        have HY := hid (show cellsOf (some x.s) = 3 + x.s.ids.length from rfl)
        clear hB hO hx eu
        generalize x.s.ids.length = q at *
        generalize x.g = gq at *
        go_wp2
        go_roundw
        case rel => exact ⟨k + 1, by omega, by go_num, by rw [HT.out, HX.out]; rw [show Option.map Hd.s (some x) = some x.s from rfl, HY.out]; go_num, by trivial⟩
        case measure => simp [intOf]; omega
    · obtain rfl : k = rs.length := by omega
      have hdk : decide (rs.length < rs.length) = false := decide_eq_false (by omega)
      have HT := hid (show (sts rs).take rs.length = sts rs by rw [← sts_length, List.take_length])
      go_wp2
      go_ret
      rw [HT.out]
      exact ⟨rfl, rfl⟩
/-- The pool's own block turned. -/
theorem PI.pool {w' : World} {vh' : Value} {rs' : List (Option Hd)} {peak' : Int} (h : PI w P c vh rs peak n) (hm : Mods (· = c.a) w w')
    (hb : w'.heap[c.a]? = some (.cells #[.pointer (some ⟨c.s, 0, none⟩), c.vn, .int .i64 c.first, .int .i64 c.size, vh', .int .i64 peak'] 107 (0, 0)))
    (hr : Own w' (c.s + 1) 111 vh' (ptrs rs')) (hs : ∀ x, some x ∈ rs' → some x ∈ rs) (hi : ∀ (i j : Nat) (x y : Hd), rs'[i]? = some (some x) → rs'[j]? = some (some y) → x.g = y.g → i = j)
    (hv : ∀ k, vh'.ownBlock = some k → P k) (hp : 0 ≤ peak' ∧ peak' ≤ 1000000000000) : PI w' P c vh' rs' peak' n :=
  ⟨hb, h.src.mods hm (fun k q => by have := (h.low _ h.ma).1; omega), h.nms.modsR hm (fun k hk q => by
      obtain ⟨_, q1⟩ := row_block h.nms hk
      exact type_ne q1 h.blk (by decide) q), hr,
    fun x hx => ⟨(h.own x (hs x hx)).1.mods hm (fun q => type_ne (h.own x (hs x hx)).1.blk h.blk (by decide) q) (fun k hk q => by
      obtain ⟨_, q1⟩ := row_block (h.own x (hs x hx)).1.ids hk
      exact type_ne q1 h.blk (by decide) q), (h.own x (hs x hx)).2⟩, hi, h.ma, hv, fun k hk => ⟨(h.low k hk).1, Nat.lt_of_lt_of_le (h.low k hk).2 hm.size⟩, h.fr, hp, h.nl, h.ok⟩
theorem PI.setPeak (h : PI w P c vh rs peak n) (peak' : Int) (hp : 0 ≤ peak' ∧ peak' ≤ 1000000000000) : PI (w.setCell ⟨c.a, 5, none⟩ (.int .i64 peak')) P c vh rs peak' n ∧ Mods (· = c.a) w (w.setCell ⟨c.a, 5, none⟩ (.int .i64 peak')) := by
  have hm : Mods (· = c.a) w (w.setCell ⟨c.a, 5, none⟩ (.int .i64 peak')) := Mods.setCell (S := (· = c.a)) (Mods.refl _ w) rfl _
  have hb := heap_set h.blk 5 (.int .i64 peak')
  refine ⟨h.pool hm (by rw [hb]; rfl) (h.row.modsR hm (fun k hk q => ?_)) (fun _ q => q) h.inj h.mh hp, hm⟩
  obtain ⟨_, q1⟩ := row_block h.row hk
  exact type_ne q1 h.blk (by decide) q
set_option maxRecDepth 20000 in
theorem meter_c (h : PI w P c vh rs peak n) (hl : rs.length ≤ 100000) : Calls Try.prog 66 #[.pointer (some ⟨c.a, 0, none⟩)] w fun e w' => e = .returned (.tuple #[]) ∧ PI w' P c vh rs (max peak (cells (sts rs) : Int)) n ∧ Mods (· = c.a) w w' := by
  have HH := hid h
  have HS := hid (fun w' (hn : Nw w w') => cells_c (h.nw hn) hl)
  have hb := cells_le h rs.length (Nat.le_refl _)
  rw [show (sts rs).take rs.length = sts rs by rw [← sts_length, List.take_length]] at hb
  have hpk := h.pk
  have y := h.blk
  have g0 := lt_of_heap y
  have k5 := heap_cell y 5
  simp only [List.getElem?_toArray, List.getElem?_cons_succ, List.getElem?_cons_zero] at k5
  clear y h
  generalize hq : (cells (sts rs) : Int) = q at *
  have hq0 : 0 ≤ q ∧ q ≤ 6700000 := by omega
  clear hq hb
  go_enter Try.func66, Try.ntmps66
  have hf := heap_frozen HH.out.blk 5
  go_region_with (first | (go_at_call 30; refine (HS.out _ (by repeat (first | assumption | exact Nw.refl _ | refine Nw.alloc ?_ _ | refine Nw.drew ?_ | refine Nw.drewN2 ?_ _ | (refine Nw.trans ?_ (by assumption))))).mono ?_; rintro e w5 ⟨rfl, rfl⟩) | fail)
  all_goals go_end0
  all_goals (have hp := HH.out.setPeak (max peak q) (by omega); rw [show (if peak < q then q else peak) = max peak q by omega]; exact ⟨rfl, hp.1.nw (Nw.refl _).drew, hp.2.nw (Nw.refl _).drew⟩)
end
end Hp
end Go.Proofs.Ytdihoedehmfgfaa
namespace Go.Proofs.Ytdihoedehmfgfaa
open Go.ChangeShapes Go.WideShapes Go.ChangeAt Go.RowKit
namespace Hp
open Go.Proofs.Ytdihoedehmfgfaa.Rec (none_ get i64s_open)
open Go.Proofs.Ytdihoedehmfgfaa.Sc (recP SI Ok record_c HandsRc)
open Go.Proofs.Ytdihoedehmfgfaa.Tr (lt_alloc)
/-! ### The least free number -/
def free {α : Type} : List (Option α) → Nat
  | [] => 0
  | none :: _ => 0
  | some _ :: r => free r + 1
theorem free_le {α : Type} : ∀ l : List (Option α), free l ≤ l.length
  | [] => Nat.le_refl _
  | none :: _ => Nat.zero_le _
  | some _ :: r => by have := free_le r; simp only [free, List.length_cons]; omega
theorem free_at {α : Type} : ∀ (l : List (Option α)) (i : Nat), i < l.length → (∀ j, j < i → (l[j]?).join.isSome = true) → l[i]? = some none → free l = i
  | [], i, hi, _, _ => by cases hi
  | none :: _, 0, _, _, _ => rfl
  | none :: _, i + 1, _, h, _ => by have := h 0 (by omega); simp at this
  | some _ :: r, 0, _, _, h => by simp at h
  | some _ :: r, i + 1, hi, h, hx => by
    have := free_at r i (by simpa using hi) (fun j hj => by have := h (j + 1) (by omega); simpa using this) (by simpa using hx)
    simp only [free, this]
theorem free_none {α : Type} : ∀ (l : List (Option α)), (∀ j, j < l.length → (l[j]?).join.isSome = true) → free l = l.length
  | [], _ => rfl
  | none :: _, h => by have := h 0 (by simp); simp at this
  | some _ :: r, h => by
    have := free_none r (fun j hj => by have := h (j + 1) (by simpa using hj); simpa using this)
    simp only [free, this, List.length_cons]
theorem free_is {α : Type} : ∀ (l : List (Option α)), free l < l.length → l[free l]? = some none
  | [], h => by cases h
  | none :: _, _ => rfl
  | some _ :: r, h => by
    have := free_is r (by simpa [free] using h)
    simpa [free] using this
theorem free_map {α β : Type} (f : α → β) : ∀ l : List (Option α), free (l.map (Option.map f)) = free l
  | [] => rfl
  | none :: _ => rfl
  | some _ :: r => by simp only [List.map_cons, Option.map, free, free_map f r]
def freeI {α : Type} (l : List (Option α)) : Int := if free l < l.length then (free l : Int) else -1
def put {α : Type} (l : List (Option α)) (x : α) : List (Option α) := if free l < l.length then l.set (free l) (some x) else l ++ [some x]
theorem put_map {α β : Type} (f : α → β) (l : List (Option α)) (x : α) : (put l x).map (Option.map f) = put (l.map (Option.map f)) (f x) := by
  unfold put
  rw [free_map, List.length_map]
  split
  · rw [List.map_set]; rfl
  · rw [List.map_append]; rfl
theorem put_len {α : Type} (l : List (Option α)) (x : α) : (put l x).length ≤ l.length + 1 := by
  unfold put
  split
  · rw [List.length_set]; omega
  · rw [List.length_append]; simp
def openP (size : Int) (hs : List (Option HS)) (peak : Int) (x : HS) : (List (Option HS) × Int) × (Int × Int) :=
  if size ≤ (cnt hs : Int) then ((hs, peak), (0, 12)) else ((put hs x, max peak (cells (put hs x) : Int)), ((free hs : Int), 0))
theorem ptr_nil (x : Option Hd) : (ptr x = .pointer none) ↔ x = none := by cases x <;> simp [ptr]
set_option maxRecDepth 20000 in
theorem index_c (vh : Value) (B : Nat) (rs : List (Option Hd)) (w : World) (h : Own w B 111 vh (ptrs rs)) : Calls Try.prog 89 #[vh, .pointer none] w fun e w' => e = .returned (.int .i64 (freeI rs)) ∧ w = w' := by
  obtain ⟨p, cap, rfl, hcap, hmx, hp0, hcs⟩ := ptrs_open h
  unfold maxLen at hmx
  have HC := hid hcs
  clear hcs h
  go_enter Try.func89, Try.ntmps89
  go_wp2
  go_loopw [5, 8] (fun _ i wr => ∃ k : Nat, k ≤ rs.length ∧ i = .int .i64 k ∧ Hid (∀ j, j < k → (rs[j]?).join.isSome = true) ∧ w = wr) (fun _ i _ => rs.length - (intOf i).toNat)
  case atStart => exact ⟨0, Nat.zero_le _, rfl, hid (fun j hj => by omega), rfl⟩
  case round =>
    obtain ⟨k, hk, rfl, HA, rfl⟩ := hrel
    by_cases hlt : k < rs.length
    · have hdk : decide (k < rs.length) = true := decide_eq_true hlt
      obtain ⟨b1, o1, rfl, hc⟩ := ptrs_cell HC.out k hlt
      have gb := World.block_lt_of_cell? w _ hc
      simp only at gb
      have HX := hid (List.getElem?_eq_getElem hlt)
      generalize rs[k] = x at *
      cases x with
      | none =>
        have HF := hid (free_at rs k hlt HA.out HX.out)
        simp only [ptr] at hc
        go_wp2
        go_ret
        exact ⟨congrArg (fun z => Ending.returned (.int .i64 z)) (show (k : Int) = freeI rs by unfold freeI; rw [HF.out, if_pos hlt]), rfl⟩
      | some x =>
        have HF := hid (show ∀ j, j < k + 1 → (rs[j]?).join.isSome = true from fun j hj => by
          rcases Nat.lt_succ_iff_lt_or_eq.1 hj with q | rfl
          · exact HA.out j q
          · rw [HX.out]; rfl)
        simp only [ptr] at hc
        have hin : (binOp .eql 111 (.pointer none) (.pointer (some ⟨x.g, 0, none⟩))).run Try.prog w = .ok (.bool false) w := rfl
        go_wp2
        go_roundw
        case rel => exact ⟨k + 1, by omega, by go_num, HF, by trivial⟩
        case measure => simp [intOf]; omega
    · obtain rfl : k = rs.length := by omega
      have hdk : decide (rs.length < rs.length) = false := decide_eq_false (by omega)
      have HF := hid (free_none rs HA.out)
      go_wp2
      go_ret
      exact ⟨congrArg (fun z => Ending.returned (.int .i64 z)) (show (-1 : Int) = freeI rs by unfold freeI; rw [HF.out, if_neg (by omega)]), rfl⟩
/-! ### What a call leaves -/
/-- What a pool has become. -/
def PO (w : World) (P : Nat → Prop) (c : Cf) (hs : List (Option HS)) (peak : Int) (N : Nat) (w' : World) : Prop :=
  ∃ P' vh' rs' n', (∀ k, P k → P' k) ∧ (∀ k, P' k → P k ∨ w.heap.size ≤ k) ∧ PI w' P' c vh' rs' peak n' ∧ sts rs' = hs ∧ n' ≤ N ∧ Mods (fun k => P k ∨ k = c.s) w w'
theorem PO.nw {w w1 w2 : World} {P : Nat → Prop} {c : Cf} {hs : List (Option HS)} {peak : Int} {N : Nat} (h : PO w P c hs peak N w1) (hn : Nw w1 w2) : PO w P c hs peak N w2 := by
  obtain ⟨P', vh', rs', n', h1, h2, h3, h4, h5, h6⟩ := h
  exact ⟨P', vh', rs', n', h1, h2, h3.nw hn, h4, h5, h6.nw hn⟩
theorem info_ptr : (Try.prog.info? 111).map (fun i => (i.zero, i.size, i.bytes)) = some (some (.pointer none), 1, 8) := by kernel_rfl
section
variable {w : World} {P : Nat → Prop} {c : Cf} {vh : Value} {rs : List (Option Hd)} {peak : Int} {n : Nat}
theorem sts_put (rs : List (Option Hd)) (x : Hd) : sts (put rs x) = put (sts rs) x.s := put_map Hd.s rs x
theorem free_sts (rs : List (Option Hd)) : free (sts rs) = free rs := free_map Hd.s rs
theorem fresh (h : PI w P c vh rs peak n) (g : Nat) (hg : ¬ P g) : ∀ x, some x ∈ rs → x.g ≠ g := fun x hx e => hg (e ▸ (h.own x hx).1.mg)
/-- A head more, at a place that was free. -/
theorem inj_set (h : ∀ (i j : Nat) (x y : Hd), rs[i]? = some (some x) → rs[j]? = some (some y) → x.g = y.g → i = j) (z : Hd) (hz : ∀ x, some x ∈ rs → x.g ≠ z.g) (f : Nat) :
    ∀ (i j : Nat) (x y : Hd), (rs.set f (some z))[i]? = some (some x) → (rs.set f (some z))[j]? = some (some y) → x.g = y.g → i = j := by
  intro i j x y hx hy he
  rw [List.getElem?_set] at hx hy
  split at hx <;> split at hy
  · rename_i q1 q2; omega
  · rename_i q1 q2
    split at hx
    · cases hx
      exact absurd he.symm (hz y (List.mem_of_getElem? hy))
    · cases hx
  · rename_i q1 q2
    split at hy
    · cases hy
      exact absurd he (hz x (List.mem_of_getElem? hx))
    · cases hy
  · exact h i j x y hx hy he
theorem mem_set {z : Hd} {f : Nat} {x : Hd} (hx : some x ∈ rs.set f (some z)) : some x ∈ rs ∨ x = z := by
  rcases List.mem_or_eq_of_mem_set hx with q | q
  · exact Or.inl q
  · exact Or.inr (by cases q; rfl)
end
end Hp
end Go.Proofs.Ytdihoedehmfgfaa
namespace Go.Proofs.Ytdihoedehmfgfaa
open Go.ChangeShapes Go.WideShapes Go.ChangeAt Go.RowKit
namespace Hp
open Go.Proofs.Ytdihoedehmfgfaa.Rec (none_ get i64s_open)
open Go.Proofs.Ytdihoedehmfgfaa.Sc (recP SI Ok record_c HandsRc)
open Go.Proofs.Ytdihoedehmfgfaa.Tr (lt_alloc)
section
variable {w : World} {P : Nat → Prop} {c : Cf} {vh : Value} {rs : List (Option Hd)} {peak : Int} {n : Nat}
/-- The pool's own block turned, or its row. -/
theorem PI.turn {w' : World} {P' : Nat → Prop} {vh' : Value} {rs' : List (Option Hd)} {peak' : Int} (h : PI w P c vh rs peak n) (hm : Mods (fun k => vh.ownBlock = some k ∨ k = c.a) w w')
    (hb : w'.heap[c.a]? = some (.cells #[.pointer (some ⟨c.s, 0, none⟩), c.vn, .int .i64 c.first, .int .i64 c.size, vh', .int .i64 peak'] 107 (0, 0)))
    (hr : Own w' (c.s + 1) 111 vh' (ptrs rs')) (hs : ∀ x, some x ∈ rs' → some x ∈ rs ∨ (HB w' P' (c.s + 1) x ∧ HOk c.b.length x.s)) (hi : ∀ (i j : Nat) (x y : Hd), rs'[i]? = some (some x) → rs'[j]? = some (some y) → x.g = y.g → i = j)
    (hP : ∀ k, P k → P' k) (hl : ∀ k, P' k → c.s < k ∧ k < w'.heap.size) (hv : ∀ k, vh'.ownBlock = some k → P' k) (hp : 0 ≤ peak' ∧ peak' ≤ 1000000000000) : PI w' P' c vh' rs' peak' n := by
  have ne : ∀ {j : Nat} {cs : Array Value} {e : TypeId}, w.heap[j]? = some (.cells cs e (0, 0)) → e ≠ 111 → e ≠ 107 → ¬ (vh.ownBlock = some j ∨ j = c.a) := by
    intro j cs e hj h1 h2 q
    rcases q with q | rfl
    · obtain ⟨_, q1⟩ := row_block h.row q
      exact type_ne hj q1 h1 rfl
    · exact type_ne hj h.blk h2 rfl
  refine ⟨hb, h.src.mods hm (fun k q => ?_), h.nms.modsR hm (fun k hk => ?_), hr, fun x hx => ?_, hi, hP _ h.ma, hv, hl, h.fr, hp, h.nl, h.ok⟩
  · rcases q with q | rfl
    · exact (h.low k (h.mh k q)).1
    · exact (h.low _ h.ma).1
  · obtain ⟨_, q1⟩ := row_block h.nms hk
    exact ne q1 (by decide) (by decide)
  · rcases hs x hx with q | q
    · obtain ⟨hB, hO⟩ := h.own x q
      exact ⟨(hB.mods hm (ne hB.blk (by decide) (by decide)) (fun k hk => by
        obtain ⟨_, q1⟩ := row_block hB.ids hk
        exact ne q1 (by decide) (by decide))).more hP, hO⟩
    · exact q
/-- A head is put at a place of the row. -/
theorem PI.place (h : PI w P c vh rs peak n) (z : Hd) (hz : w.heap[z.g]? = some (.cells (hcells z.s z.u) 110 (0, 0))) (hu : Own w (c.s + 1) 3 z.u (i64s z.s.ids)) (hmu : ∀ k, z.u.ownBlock = some k → P k) (hok : HOk c.b.length z.s) (hg : ¬ P z.g) (hgs : c.s < z.g)
    (f gr cap : Nat) (hv : vh = .slice (some ⟨gr, 0, none⟩) rs.length cap) (hf : f < rs.length) :
    PI (w.setCell ⟨gr, f, none⟩ (.pointer (some ⟨z.g, 0, none⟩))) (fun k => P k ∨ k = z.g) c vh (rs.set f (some z)) peak n ∧ Mods (· = gr) w (w.setCell ⟨gr, f, none⟩ (.pointer (some ⟨z.g, 0, none⟩))) := by
  subst hv
  have hm : Mods (· = gr) w (w.setCell ⟨gr, f, none⟩ (.pointer (some ⟨z.g, 0, none⟩))) := Mods.setCell (S := (· = gr)) (Mods.refl _ w) rfl _
  obtain ⟨cur, hgr⟩ := row_block h.row (k := gr) rfl
  have hzl := lt_of_heap hz
  refine ⟨h.turn (hm.mono (fun k q => Or.inl (by rw [q]; rfl))) (hm.heap h.blk (fun q => type_ne h.blk hgr (by decide) q)) ?_ (fun x hx => ?_) (inj_set h.inj z (fun x hx => fresh h z.g hg x hx) f) (fun k q => Or.inl q) (fun k q => ?_) (fun k q => Or.inl (h.mh k q)) h.pk, hm⟩
  · have hr := h.row
    have hset := Own.set hr (ptrs_length rs).symm f (.pointer (some ⟨z.g, 0, none⟩))
    rw [show (ptrs rs).set f (.pointer (some ⟨z.g, 0, none⟩)) = ptrs (rs.set f (some z)) by unfold ptrs; rw [List.map_set]; rfl] at hset
    exact hset
  · rcases mem_set hx with q | rfl
    · exact Or.inl q
    · refine Or.inr ⟨⟨hm.heap hz (fun q => type_ne hz hgr (by decide) q), hu.modsR hm (fun k hk q => ?_), Or.inr rfl, fun k hk => Or.inl (hmu k hk)⟩, hok⟩
      obtain ⟨_, q1⟩ := row_block hu hk
      exact type_ne q1 hgr (by decide) q
  · rcases q with q | rfl
    · exact ⟨(h.low k q).1, Nat.lt_of_lt_of_le (h.low k q).2 hm.size⟩
    · exact ⟨hgs, Nat.lt_of_lt_of_le hzl hm.size⟩
/-- The row has grown by a place that is free. -/
theorem PI.grow {w1 : World} {vh' : Value} (h : PI w P c vh rs peak n) (hg : w.grownBy w1 vh.ownBlock) (ho : Own w1 (c.s + 1) 111 vh' (ptrs (rs ++ [none]))) (hv : vh'.ownBlock = vh.ownBlock ∨ vh'.ownBlock = some w.heap.size) :
    PI (w1.setCell ⟨c.a, 4, none⟩ vh') (fun k => P k ∨ vh'.ownBlock = some k) c vh' (rs ++ [none]) peak n ∧ Mods (fun k => vh.ownBlock = some k ∨ k = c.a) w (w1.setCell ⟨c.a, 4, none⟩ vh') ∧ ∀ k, vh'.ownBlock = some k → P k ∨ w.heap.size ≤ k := by
  have hmg : Mods (fun k => vh.ownBlock = some k ∨ k = c.a) w w1 := Mods.grownIn (Mods.refl _ w) hg (fun k q => Or.inl (Or.inl q))
  have hm : Mods (fun k => vh.ownBlock = some k ∨ k = c.a) w (w1.setCell ⟨c.a, 4, none⟩ vh') := Mods.setCell hmg (p := ⟨c.a, 4, none⟩) (Or.inr rfl) _
  have hb1 : w1.heap[c.a]? = _ := (hg.block c.a (lt_of_heap h.blk) (fun e => by
    obtain ⟨_, q1⟩ := row_block h.row e.symm
    exact type_ne h.blk q1 (by decide) rfl)).trans h.blk
  have hb := heap_set hb1 4 vh'
  have hnew : ∀ k, vh'.ownBlock = some k → P k ∨ w.heap.size ≤ k := fun k q => by
    rcases hv with e | e
    · exact Or.inl (h.mh k (e ▸ q))
    · rw [e] at q; cases q; exact Or.inr (Nat.le_refl _)
  have hro : Own (w1.setCell ⟨c.a, 4, none⟩ vh') (c.s + 1) 111 vh' (ptrs (rs ++ [none])) := ho.modsR (Mods.setCell (S := (· = c.a)) (Mods.refl _ w1) (p := ⟨c.a, 4, none⟩) rfl _) (fun k hk q => by
    obtain ⟨_, q1⟩ := row_block ho hk
    exact type_ne q1 hb1 (by decide) q)
  refine ⟨h.turn hm (by rw [hb]; rfl) hro (fun x hx => ?_) (fun i j x y hx hy he => ?_) (fun k q => Or.inl q) (fun k q => ?_) (fun k q => Or.inr q) h.pk, hm, hnew⟩
  · rcases List.mem_append.1 hx with q | q
    · exact Or.inl q
    · cases List.mem_singleton.1 q
  · have hlt : ∀ (i : Nat) (x : Hd), (rs ++ [none])[i]? = some (some x) → rs[i]? = some (some x) := by
      intro i x hx
      rw [List.getElem?_append] at hx
      split at hx
      · exact hx
      · rename_i hi
        cases hz : i - rs.length with
        | zero => rw [hz] at hx; cases hx
        | succ m => rw [hz] at hx; cases hx
    exact h.inj i j x y (hlt i x hx) (hlt j y hy) he
  · rcases q with q | q
    · exact ⟨(h.low k q).1, Nat.lt_of_lt_of_le (h.low k q).2 hm.size⟩
    · have hlo := hro.lt k q
      obtain ⟨_, q1⟩ := row_block hro q
      exact ⟨by omega, lt_of_heap q1⟩
end
end Hp
end Go.Proofs.Ytdihoedehmfgfaa
namespace Go.Proofs.Ytdihoedehmfgfaa
open Go.ChangeShapes Go.WideShapes Go.ChangeAt Go.RowKit
namespace Hp
open Go.Proofs.Ytdihoedehmfgfaa.Rec (none_ get i64s_open)
open Go.Proofs.Ytdihoedehmfgfaa.Sc (recP SI Ok record_c HandsRc)
open Go.Proofs.Ytdihoedehmfgfaa.Tr (lt_alloc)
section
variable {w : World} {P : Nat → Prop} {c : Cf} {vh : Value} {rs : List (Option Hd)} {peak : Int} {n : Nat}
theorem put_set {α : Type} {l : List (Option α)} {x : α} (h : free l < l.length) : put l x = l.set (free l) (some x) := if_pos h
theorem put_app {α : Type} {l : List (Option α)} {x : α} (h : ¬ free l < l.length) : put l x = (l ++ [none]).set l.length (some x) := by
  unfold put
  rw [if_neg h, List.set_append_right _ _ (Nat.le_refl _), Nat.sub_self]; rfl
theorem PI.ne (h : PI w P c vh rs peak n) {j : Nat} {cs : Array Value} {e : TypeId} (hj : w.heap[j]? = some (.cells cs e (0, 0))) (h1 : e ≠ 111) (h2 : e ≠ 107) : ¬ (vh.ownBlock = some j ∨ j = c.a) := by
  intro q
  rcases q with q | rfl
  · obtain ⟨_, q1⟩ := row_block h.row q
    exact type_ne hj q1 h1 rfl
  · exact type_ne hj h.blk h2 rfl
theorem PI.grown_blk {w1 : World} (h : PI w P c vh rs peak n) (hg : w.grownBy w1 vh.ownBlock) : w1.heap[c.a]? = some (.cells #[.pointer (some ⟨c.s, 0, none⟩), c.vn, .int .i64 c.first, .int .i64 c.size, vh, .int .i64 peak] 107 (0, 0)) :=
  (hg.block c.a (lt_of_heap h.blk) (fun e => by
    obtain ⟨_, q1⟩ := row_block h.row e.symm
    exact type_ne h.blk q1 (by decide) rfl)).trans h.blk
theorem ptrs_snoc (rs : List (Option Hd)) : ptrs (rs ++ [none]) = ptrs rs ++ [.pointer none] := by simp [ptrs, ptr]
def OpenO (w : World) (P : Nat → Prop) (c : Cf) (hs : List (Option HS)) (peak : Int) (N : Nat) (x : HS) (e : Ending) (w' : World) : Prop :=
  e = .returned (.tuple #[.int .i64 (openP c.size hs peak x).2.1, .int .i64 (openP c.size hs peak x).2.2]) ∧ PO w P c (openP c.size hs peak x).1.1 (openP c.size hs peak x).1.2 N w'
set_option maxRecDepth 20000 in
theorem popen_c (h : PI w P c vh rs peak n) (z : HS) (u : Value) (hu : Own w (c.s + 1) 3 u (i64s z.ids)) (hmu : ∀ k, u.ownBlock = some k → P k) (hok : HOk c.b.length z) (hl : rs.length ≤ 90000) :
    Calls Try.prog 62 #[.pointer (some ⟨c.a, 0, none⟩), .agg (hcells z u)] w (OpenO w P c (sts rs) peak n z) := by
  obtain ⟨pu, cu, rfl, _⟩ := i64s_open hu.sl
  unfold hcells
  have hwl := (h.low _ h.ma)
  have hPl := hid h.low
  go_enter Try.func62, Try.ntmps62
  go_upto_region 1 with fail
  have hz := heap_new w (.cells #[.int .i64 z.at_, .int .i64 z.idx, .int .u64 z.t, .slice pu z.ids.length cu, .bool z.rd] 110)
  have hnA := (Nw.refl w).alloc (.cells #[.int .i64 z.at_, .int .i64 z.idx, .int .u64 z.t, .slice pu z.ids.length cu, .bool z.rd] 110)
  have h1 := h.nw hnA
  have hu1 := hu.nw hnA
  have hgP : ¬ P w.heap.size := fun q => by have := (hPl.out _ q).2; omega
  have hgs : c.s < w.heap.size := by omega
  generalize w.alloc (.cells #[.int .i64 z.at_, .int .i64 z.idx, .int .u64 z.t, .slice pu z.ids.length cu, .bool z.rd] 110) = w1 at *
  have HSZ := hid (rfl : w.heap.size = w.heap.size)
  obtain ⟨g, hg⟩ : ∃ g, g = w.heap.size := ⟨_, rfl⟩
  rw [← hg] at hz hgP hgs ⊢
  have HGW := hid hg
  clear hg HSZ
  have HCN := hid (fun w' (hn : Nw w1 w') => count_c (h1.nw hn))
  have HH := hid h1
  have HZ0 := hid hz
  have HU0 := hid hu1
  have HMU0 := hid hmu
  have HG0 := hid hgP
  have y := h1.blk
  have g0 := lt_of_heap y
  have k3 := heap_cell y 3
  simp only [List.getElem?_toArray, List.getElem?_cons_succ, List.getElem?_cons_zero] at k3
  clear h hu hmu hz hu1 hgP y
  by_cases hful : c.size ≤ (cnt (sts rs) : Int)
  · have hdz : decide (c.size ≤ (cnt (sts rs) : Int)) = true := decide_eq_true hful
    have HOP := hid (show openP c.size (sts rs) peak z = ((sts rs, peak), (0, 12)) from if_pos hful)
    clear h1 hful
    generalize (cnt (sts rs) : Int) = q at *
    refine wp_region_stairs (by kernel_rfl) (by kernel_rfl) (by kernel_rfl) ?_
    iterate 6
      refine Stairs.is ?_ ?_ ?_
      rotate_left 1
      · intro x wR hR hd K hK
        simp only [Act.put, List.setIfInBounds_toArray, List.set_cons_zero, List.set_cons_succ, Nat.reduceAdd, List.length_nil, List.length_cons, List.nil_append, List.cons_append, Say.ok] at hK ⊢
        clear hd
        change Hid _ at hK
        obtain ⟨hcR, hfR, hzR⟩ := nwc hR
        first | (refine wanted_yes ?_ ?_; rfl) | (refine wanted_no ?_ ?_; rfl)
        first | (refine hK.out _ _ ?_ ?_ <;> first | (solve | (repeat (first | assumption | exact Nw.refl _ | refine Nw.alloc ?_ _ | refine Nw.drew ?_ | refine Nw.drewN2 ?_ _ | (refine Nw.trans ?_ (by assumption))))) | ((conv => lhs; whnf) <;> exact rfl) | exact rfl | exact congrArg Value.bool hdz) | (go_step; first | (refine hK.out _ _ ?_ ?_ <;> first | (solve | (repeat (first | assumption | exact Nw.refl _ | refine Nw.alloc ?_ _ | refine Nw.drew ?_ | refine Nw.drewN2 ?_ _ | (refine Nw.trans ?_ (by assumption))))) | ((conv => lhs; whnf) <;> exact rfl) | exact rfl | exact congrArg Value.bool hdz) | ((first | (go_at_call 29; refine (HCN.out _ (by repeat (first | assumption | exact Nw.refl _ | refine Nw.alloc ?_ _ | refine Nw.drew ?_ | refine Nw.drewN2 ?_ _ | (refine Nw.trans ?_ (by assumption))))).mono ?_; rintro e' w5 ⟨rfl, rfl⟩)); (refine hK.out _ _ ?_ ?_ <;> first | (solve | (repeat (first | assumption | exact Nw.refl _ | refine Nw.alloc ?_ _ | refine Nw.drew ?_ | refine Nw.drewN2 ?_ _ | (refine Nw.trans ?_ (by assumption))))) | ((conv => lhs; whnf) <;> exact rfl) | exact rfl | exact congrArg Value.bool hdz)))
      try simp only [Act.put, List.setIfInBounds_toArray, List.set_cons_zero, List.set_cons_succ, Nat.reduceAdd, List.length_nil, List.length_cons, List.nil_append, List.cons_append]
    iterate 1
      refine Stairs.is (.bool true) ?_ ?_
      · intro x wR hR hd K hK
        simp only [Act.put, List.setIfInBounds_toArray, List.set_cons_zero, List.set_cons_succ, Nat.reduceAdd, List.length_nil, List.length_cons, List.nil_append, List.cons_append, Say.ok] at hK ⊢
        clear hd
        change Hid _ at hK
        obtain ⟨hcR, hfR, hzR⟩ := nwc hR
        first | (refine wanted_yes ?_ ?_; rfl) | (refine wanted_no ?_ ?_; rfl)
        first | (refine hK.out _ _ ?_ ?_ <;> first | (solve | (repeat (first | assumption | exact Nw.refl _ | refine Nw.alloc ?_ _ | refine Nw.drew ?_ | refine Nw.drewN2 ?_ _ | (refine Nw.trans ?_ (by assumption))))) | ((conv => lhs; whnf) <;> exact rfl) | exact rfl | exact congrArg Value.bool hdz) | (go_step; first | (refine hK.out _ _ ?_ ?_ <;> first | (solve | (repeat (first | assumption | exact Nw.refl _ | refine Nw.alloc ?_ _ | refine Nw.drew ?_ | refine Nw.drewN2 ?_ _ | (refine Nw.trans ?_ (by assumption))))) | ((conv => lhs; whnf) <;> exact rfl) | exact rfl | exact congrArg Value.bool hdz) | ((first | (go_at_call 29; refine (HCN.out _ (by repeat (first | assumption | exact Nw.refl _ | refine Nw.alloc ?_ _ | refine Nw.drew ?_ | refine Nw.drewN2 ?_ _ | (refine Nw.trans ?_ (by assumption))))).mono ?_; rintro e' w5 ⟨rfl, rfl⟩)); (refine hK.out _ _ ?_ ?_ <;> first | (solve | (repeat (first | assumption | exact Nw.refl _ | refine Nw.alloc ?_ _ | refine Nw.drew ?_ | refine Nw.drewN2 ?_ _ | (refine Nw.trans ?_ (by assumption))))) | ((conv => lhs; whnf) <;> exact rfl) | exact rfl | exact congrArg Value.bool hdz)))
      try simp only [Act.put, List.setIfInBounds_toArray, List.set_cons_zero, List.set_cons_succ, Nat.reduceAdd, List.length_nil, List.length_cons, List.nil_append, List.cons_append]
    refine Stairs.nil ?_
    intro x wR hR hx
    clear hx
    obtain ⟨hcR, hfR, hzR⟩ := nwc hR
    clear hcR hfR hzR
    go_wp2
    go_ret2
    refine (show OpenO w P c (sts rs) peak n z _ _ from ?_)
    unfold OpenO
    rw [HOP.out]
    exact ⟨rfl, P, vh, rs, n, fun _ q => q, fun _ q => Or.inl q, HH.out.nw hR, rfl, Nat.le_refl _, ((hnA.trans hR).mods _)⟩
  · have hdz : decide (c.size ≤ (cnt (sts rs) : Int)) = false := decide_eq_false hful
    have HOP := hid (show openP c.size (sts rs) peak z = ((put (sts rs) z, max peak (cells (put (sts rs) z) : Int)), ((free (sts rs) : Int), 0)) from if_neg hful)
    clear h1 hful
    generalize (cnt (sts rs) : Int) = q at *
    refine wp_region_stairs (by kernel_rfl) (by kernel_rfl) (by kernel_rfl) ?_
    iterate 6
      refine Stairs.is ?_ ?_ ?_
      rotate_left 1
      · intro x wR hR hd K hK
        simp only [Act.put, List.setIfInBounds_toArray, List.set_cons_zero, List.set_cons_succ, Nat.reduceAdd, List.length_nil, List.length_cons, List.nil_append, List.cons_append, Say.ok] at hK ⊢
        clear hd
        change Hid _ at hK
        obtain ⟨hcR, hfR, hzR⟩ := nwc hR
        first | (refine wanted_yes ?_ ?_; rfl) | (refine wanted_no ?_ ?_; rfl)
        first | (refine hK.out _ _ ?_ ?_ <;> first | (solve | (repeat (first | assumption | exact Nw.refl _ | refine Nw.alloc ?_ _ | refine Nw.drew ?_ | refine Nw.drewN2 ?_ _ | (refine Nw.trans ?_ (by assumption))))) | ((conv => lhs; whnf) <;> exact rfl) | exact rfl | exact congrArg Value.bool hdz) | (go_step; first | (refine hK.out _ _ ?_ ?_ <;> first | (solve | (repeat (first | assumption | exact Nw.refl _ | refine Nw.alloc ?_ _ | refine Nw.drew ?_ | refine Nw.drewN2 ?_ _ | (refine Nw.trans ?_ (by assumption))))) | ((conv => lhs; whnf) <;> exact rfl) | exact rfl | exact congrArg Value.bool hdz) | ((first | (go_at_call 29; refine (HCN.out _ (by repeat (first | assumption | exact Nw.refl _ | refine Nw.alloc ?_ _ | refine Nw.drew ?_ | refine Nw.drewN2 ?_ _ | (refine Nw.trans ?_ (by assumption))))).mono ?_; rintro e' w5 ⟨rfl, rfl⟩)); (refine hK.out _ _ ?_ ?_ <;> first | (solve | (repeat (first | assumption | exact Nw.refl _ | refine Nw.alloc ?_ _ | refine Nw.drew ?_ | refine Nw.drewN2 ?_ _ | (refine Nw.trans ?_ (by assumption))))) | ((conv => lhs; whnf) <;> exact rfl) | exact rfl | exact congrArg Value.bool hdz)))
      try simp only [Act.put, List.setIfInBounds_toArray, List.set_cons_zero, List.set_cons_succ, Nat.reduceAdd, List.length_nil, List.length_cons, List.nil_append, List.cons_append]
    iterate 1
      refine Stairs.is (.bool false) ?_ ?_
      · intro x wR hR hd K hK
        simp only [Act.put, List.setIfInBounds_toArray, List.set_cons_zero, List.set_cons_succ, Nat.reduceAdd, List.length_nil, List.length_cons, List.nil_append, List.cons_append, Say.ok] at hK ⊢
        clear hd
        change Hid _ at hK
        obtain ⟨hcR, hfR, hzR⟩ := nwc hR
        first | (refine wanted_yes ?_ ?_; rfl) | (refine wanted_no ?_ ?_; rfl)
        first | (refine hK.out _ _ ?_ ?_ <;> first | (solve | (repeat (first | assumption | exact Nw.refl _ | refine Nw.alloc ?_ _ | refine Nw.drew ?_ | refine Nw.drewN2 ?_ _ | (refine Nw.trans ?_ (by assumption))))) | ((conv => lhs; whnf) <;> exact rfl) | exact rfl | exact congrArg Value.bool hdz) | (go_step; first | (refine hK.out _ _ ?_ ?_ <;> first | (solve | (repeat (first | assumption | exact Nw.refl _ | refine Nw.alloc ?_ _ | refine Nw.drew ?_ | refine Nw.drewN2 ?_ _ | (refine Nw.trans ?_ (by assumption))))) | ((conv => lhs; whnf) <;> exact rfl) | exact rfl | exact congrArg Value.bool hdz) | ((first | (go_at_call 29; refine (HCN.out _ (by repeat (first | assumption | exact Nw.refl _ | refine Nw.alloc ?_ _ | refine Nw.drew ?_ | refine Nw.drewN2 ?_ _ | (refine Nw.trans ?_ (by assumption))))).mono ?_; rintro e' w5 ⟨rfl, rfl⟩)); (refine hK.out _ _ ?_ ?_ <;> first | (solve | (repeat (first | assumption | exact Nw.refl _ | refine Nw.alloc ?_ _ | refine Nw.drew ?_ | refine Nw.drewN2 ?_ _ | (refine Nw.trans ?_ (by assumption))))) | ((conv => lhs; whnf) <;> exact rfl) | exact rfl | exact congrArg Value.bool hdz)))
      try simp only [Act.put, List.setIfInBounds_toArray, List.set_cons_zero, List.set_cons_succ, Nat.reduceAdd, List.length_nil, List.length_cons, List.nil_append, List.cons_append]
    refine Stairs.nil ?_
    intro x wR hR hx
    clear hx
    obtain ⟨hcR, hfR, hzR⟩ := nwc hR
    clear hcR hfR hzR k3 g0
    have h2 := HH.out.nw hR
    have HH2 := hid h2
    have HZ2 := hid (hR.heap HZ0.out)
    have HU2 := hid (HU0.out.nw hR)
    have hn2 := hnA.trans hR
    have HIX := hid (index_c vh (c.s + 1) rs wR h2.row)
    have y := h2.blk
    have g0 := lt_of_heap y
    have k4 := heap_cell y 4
    simp only [List.getElem?_toArray, List.getElem?_cons_succ, List.getElem?_cons_zero] at k4
    obtain ⟨pr, cr, rfl, hcr, hmr, hpr, _⟩ := ptrs_open h2.row
    unfold maxLen at hmr
    clear HCN h2 y
    by_cases hfr : free rs < rs.length
    · have HFI := hid (free_is rs hfr)
      have hix : freeI rs = (free rs : Int) := if_pos hfr
      rw [hix] at HIX
      have HFS := hid (free_sts rs)
      have HPT := hid (put_set (x := (⟨g, .slice pu z.ids.length cu, z⟩ : Hd)) hfr)
      generalize hf : free rs = f at *
      have hd0 : decide ((f : Int) < 0) = false := decide_eq_false (by omega)
      have HPI := HH2
      have HZ := HZ2
      have HU := HU2
      have HMU := HMU0
      have HG := HG0
      -- the head is stored at f (rs1, vh1: the row then; w3: the world): HPI : PI w3 P1 c vh1 rs1 peak n
      obtain ⟨gr, cap1, hvr, hgr1, hcp1, hcm1⟩ := HPI.out.row.opened (by first | (rw [ptrs_length]; omega) | (rw [ptrs_length, HL1.out]; omega))
      rw [ptrs_length] at hvr hcp1
      have HPL := hid (HPI.out.place ⟨g, .slice pu z.ids.length cu, z⟩ HZ.out HU.out HMU.out hok HG.out hgs f gr cap1 hvr (by first | omega | (rw [HL1.out]; omega)))
      have hfz := Own.frozen (hvr ▸ HPI.out.row) (ptrs_length _).symm f
      obtain ⟨cur, hcur⟩ := row_block HPI.out.row (k := gr) (by rw [hvr]; rfl)
      have hgrl := lt_of_heap hcur
      have hcf := Own.cell (hvr ▸ HPI.out.row) (ptrs_length _).symm f (by first | (rw [ptrs_length]; omega) | (rw [ptrs_length, HL1.out]; omega))
      rw [show (ptrs _)[f]? = some (.pointer none) from by unfold ptrs; rw [List.getElem?_map, HFI.out]; rfl] at hcf
      clear hcur
      obtain ⟨rfl, rfl⟩ : pr = some ⟨gr, 0, none⟩ ∧ cr = cap1 := by
        have := hvr
        simp only [Value.slice.injEq] at this
        exact ⟨this.1, this.2.2⟩
      have HMT := hid (fun w' (hn : Nw (wR.setCell ⟨gr, f, none⟩ (.pointer (some ⟨g, 0, none⟩))) w') => meter_c (HPL.out.1.nw hn) (by rw [List.length_set]; omega))
      go_wp2_with (first
        | (go_at_call 89; refine HIX.out.mono ?_; rintro e' w5 ⟨rfl, rfl⟩)
        | (go_at_call 66; refine (HMT.out _ (Nw.refl _)).mono ?_; rintro e' w6 ⟨rfl, hp6, hm6⟩)
        | fail)
      go_ret2
      refine (show OpenO w P c (sts rs) peak n z _ _ from ?_)
      unfold OpenO
      rw [HOP.out]
      rw [← HPT.out, sts_put] at hp6
      refine ⟨by rw [HFS.out]; rfl, _, _, _, n, fun k q => Or.inl q, fun k q => ?_, hp6, by rw [sts_put], Nat.le_refl _, ?_⟩
      · rcases q with q | rfl
        · exact Or.inl q
        · exact Or.inr (by rw [HGW.out]; exact Nat.le_refl _)
      · have hP2 := hn2.mods (fun k => P k ∨ k = c.s)
        exact ((hP2.trans (HPL.out.2.mono (fun k q => Or.inl (HPI.out.mh k (by rw [q]; rfl))))).trans (hm6.mono (fun k q => Or.inl (q ▸ HPI.out.ma))))
    · have hfl : free rs = rs.length := by have := free_le rs; omega
      have hix : freeI rs = -1 := if_neg hfr
      rw [hix] at HIX
      have HFS := hid ((free_sts rs).trans hfl)
      have HPT := hid (put_app (x := (⟨g, .slice pu z.ids.length cu, z⟩ : Hd)) hfr)
      have hd0 : decide ((-1 : Int) < 0) = true := rfl
      have hnB := (Nw.refl wR).alloc (.cells #[.pointer none] 111)
      have HHB := hid (HH2.out.nw hnB)
      have HSN := hid (Sl.new wR [.pointer none] 111 (0, 0) (by simp [maxLen]))
      have HBL := hid (show c.s + 1 ≤ (wR.alloc (.cells #[.pointer none] 111)).heap.size from Nat.le_trans (by have := lt_of_heap HZ2.out; omega) hnB.size)
      have k4B := hnB.cell k4
      have g0B := Nat.lt_of_lt_of_le g0 hnB.size
      clear hfr hix hfl
      go_upto_region 7 with (first
        | (go_at_call 89; refine HIX.out.mono ?_; rintro e' w5 ⟨rfl, rfl⟩)
        | (at_builtin; refine app1g rfl _ _ _ rfl _ _ _ Try.underlying105 info_ptr rfl (by decide) HBL.out HHB.out.row rfl HSN.out rfl (by simp [Value.oneCell']) ?_ ?_; rotate_left; (rw [ptrs_length]; simp only [List.length_cons, List.length_nil]; omega); intro v7 w7 hown7 hg7 ha7; rw [← ptrs_snoc] at hown7; have HGR := hid (HHB.out.grow hg7 hown7 ha7); obtain ⟨p7, c7, rfl, _⟩ := hown7.sl.open (n := rs.length + 1) (by rw [ptrs_length, List.length_append]; rfl); have k74 := heap_cell (HHB.out.grown_blk hg7) 4; have f74 := heap_frozen (HHB.out.grown_blk hg7) 4; have g74 := lt_of_heap (HHB.out.grown_blk hg7); simp only [List.getElem?_toArray, List.getElem?_cons_succ, List.getElem?_cons_zero] at k74; clear k4B g0B k4 g0 hown7 ha7)
        | fail)
      have HZ := hid (HGR.out.2.1.heap (hnB.heap HZ2.out) (HHB.out.ne (hnB.heap HZ2.out) (by decide) (by decide)))
      have HU := hid ((HU2.out.nw hnB).modsR HGR.out.2.1 (fun k hk q => by
        obtain ⟨_, q1⟩ := row_block (HU2.out.nw hnB) hk
        exact HHB.out.ne q1 (by decide) (by decide) q))
      have HMU := hid (show ∀ k, (Value.slice pu z.ids.length cu).ownBlock = some k → (P k ∨ (Value.slice p7 (rs.length + 1) c7).ownBlock = some k) from fun k hk => Or.inl (HMU0.out k hk))
      have HPI := hid HGR.out.1
      have HG := hid (show ¬ (P g ∨ (Value.slice p7 (rs.length + 1) c7).ownBlock = some g) from fun q => by
        rcases q with q | q
        · exact HG0.out q
        · obtain ⟨_, q1⟩ := row_block HPI.out.row q
          exact type_ne HZ.out q1 (by decide) rfl)
      have HMD := hid HGR.out.2.1
      have HNW := hid HGR.out.2.2
      have HL1 := hid (show (rs ++ [none]).length = rs.length + 1 by rw [List.length_append]; rfl)
      have HN1 := hid (show (rs ++ [none])[rs.length]? = some none by rw [List.getElem?_append_right (Nat.le_refl _), Nat.sub_self]; rfl)
      clear HGR hg7 k74 f74 g74
      generalize w7.setCell ⟨c.a, 4, none⟩ (.slice p7 (rs.length + 1) c7) = w8 at *
      generalize rs ++ [none] = rs1 at *
      have y := HPI.out.blk
      have g0 := lt_of_heap y
      have k4 := heap_cell y 4
      simp only [List.getElem?_toArray, List.getElem?_cons_succ, List.getElem?_cons_zero] at k4
      clear y
      -- the head is stored at rs.length (rs1, vh1: the row then; w3: the world): HPI : PI w3 P1 c vh1 rs1 peak n
      obtain ⟨gr, cap1, hvr, hgr1, hcp1, hcm1⟩ := HPI.out.row.opened (by first | (rw [ptrs_length]; omega) | (rw [ptrs_length, HL1.out]; omega))
      rw [ptrs_length] at hvr hcp1
      have HPL := hid (HPI.out.place ⟨g, .slice pu z.ids.length cu, z⟩ HZ.out HU.out HMU.out hok HG.out hgs rs.length gr cap1 hvr (by first | omega | (rw [HL1.out]; omega)))
      have hfz := Own.frozen (hvr ▸ HPI.out.row) (ptrs_length _).symm rs.length
      obtain ⟨cur, hcur⟩ := row_block HPI.out.row (k := gr) (by rw [hvr]; rfl)
      have hgrl := lt_of_heap hcur
      have hcf := Own.cell (hvr ▸ HPI.out.row) (ptrs_length _).symm rs.length (by first | (rw [ptrs_length]; omega) | (rw [ptrs_length, HL1.out]; omega))
      rw [show (ptrs _)[rs.length]? = some (.pointer none) from by unfold ptrs; rw [List.getElem?_map, HN1.out]; rfl] at hcf
      clear hcur
      obtain ⟨rfl, _, rfl⟩ : p7 = some ⟨gr, 0, none⟩ ∧ rs.length + 1 = rs1.length ∧ c7 = cap1 := by
        simpa only [Value.slice.injEq] using hvr
      clear hvr
      have HMT := hid (fun w' (hn : Nw (w8.setCell ⟨gr, rs.length, none⟩ (.pointer (some ⟨g, 0, none⟩))) w') => meter_c (HPL.out.1.nw hn) (by rw [List.length_set, HL1.out]; omega))
      go_wp2_with (first
        | (go_at_call 66; refine (HMT.out _ (Nw.refl _)).mono ?_; rintro e' w6 ⟨rfl, hp6, hm6⟩)
        | fail)
      go_ret2
      refine (show OpenO w P c (sts rs) peak n z _ _ from ?_)
      unfold OpenO
      rw [HOP.out]
      rw [← HPT.out, sts_put] at hp6
      refine ⟨by rw [HFS.out]; rfl, _, _, _, n, fun k q => Or.inl (Or.inl q), fun k q => ?_, hp6, by rw [sts_put], Nat.le_refl _, ?_⟩
      · rcases q with (q | q) | rfl
        · exact Or.inl q
        · rcases HNW.out k q with z | z
          · exact Or.inl z
          · exact Or.inr (Nat.le_trans (hn2.trans hnB).size z)
        · exact Or.inr (by rw [HGW.out]; exact Nat.le_refl _)
      · have hP2 := (hn2.trans hnB).mods (fun k => P k ∨ k = c.s)
        have hP3 := hP2.absorb HMD.out (fun k q => by
          rcases q with q | rfl
          · exact Or.inl (Or.inl (HHB.out.mh k q))
          · exact Or.inl (Or.inl HHB.out.ma))
        have hP4 := hP3.absorb HPL.out.2 (fun k q => by
          rcases HNW.out k (by rw [q]; rfl) with z | z
          · exact Or.inl (Or.inl z)
          · exact Or.inr (Nat.le_trans (hn2.trans hnB).size z))
        exact hP4.absorb hm6 (fun k q => Or.inl (Or.inl (q ▸ HHB.out.ma)))
end
end Hp
end Go.Proofs.Ytdihoedehmfgfaa
namespace Go.Proofs.Ytdihoedehmfgfaa
open Go.ChangeShapes Go.WideShapes Go.ChangeAt Go.RowKit
namespace Hp
open Go.Proofs.Ytdihoedehmfgfaa.Rec (none_ get i64s_open)
open Go.Proofs.Ytdihoedehmfgfaa.Sc (recP SI Ok record_c HandsRc)
open Go.Proofs.Ytdihoedehmfgfaa.Tr (lt_alloc)
section
variable {w : World} {P : Nat → Prop} {c : Cf} {vh : Value} {rs : List (Option Hd)} {peak : Int} {n : Nat}
theorem hs0_ok (h : PI w P c vh rs peak n) : HOk c.b.length (hs0 c.first) := ⟨Int.le_refl _, h.fr.1, h.fr.2, Int.le_refl _, (by decide : (0 : Int) ≤ 18446744073709551615), Nat.zero_le _⟩
set_option maxRecDepth 20000 in
theorem open_c (h : PI w P c vh rs peak n) (hl : rs.length ≤ 90000) : Calls Try.prog 26 #[.pointer (some ⟨c.a, 0, none⟩)] w (OpenO w P c (sts rs) peak n (hs0 c.first)) := by
  have HO := hid (show Calls Try.prog 62 #[.pointer (some ⟨c.a, 0, none⟩), .agg #[.int .i64 c.first, .int .i64 0, .int .u64 0, .slice none 0 0, .bool false]] w (OpenO w P c (sts rs) peak n (hs0 c.first)) from popen_c h (hs0 c.first) (.slice none 0 0) (Own.nil _ _ _) (fun k hk => by cases hk) (hs0_ok h) hl)
  have y := h.blk
  have g0 := lt_of_heap y
  have k2 := heap_cell y 2
  simp only [List.getElem?_toArray, List.getElem?_cons_succ, List.getElem?_cons_zero] at k2
  clear y h
  go_enter Try.func26, Try.ntmps26
  go_wp2_with (first
    | (go_at_call 62; refine HO.out.mono ?_; rintro e' w5 ⟨rfl, hpo⟩)
    | fail)
  go_ret2
  exact ⟨rfl, hpo⟩
def cloneP (size : Int) (hs : List (Option HS)) (peak : Int) (id : Int) : (List (Option HS) × Int) × (Int × Int) :=
  match fnd hs id with
  | none => ((hs, peak), (0, 11))
  | some x => openP size hs peak x
def CloneO (w : World) (P : Nat → Prop) (c : Cf) (hs : List (Option HS)) (peak : Int) (N : Nat) (id : Int) (e : Ending) (w' : World) : Prop :=
  e = .returned (.tuple #[.int .i64 (cloneP c.size hs peak id).2.1, .int .i64 (cloneP c.size hs peak id).2.2]) ∧ PO w P c (cloneP c.size hs peak id).1.1 (cloneP c.size hs peak id).1.2 N w'
theorem PO.refl (h : PI w P c vh rs peak n) : PO w P c (sts rs) peak n w := ⟨P, vh, rs, n, fun _ q => q, fun _ q => Or.inl q, h, rfl, Nat.le_refl _, Mods.refl _ _⟩
theorem fnd_mem {id : Int} {x : Hd} (h : fnd rs id = some x) : ∃ i : Nat, id = i ∧ i < rs.length ∧ rs[i]? = some (some x) ∧ some x ∈ rs := by
  unfold fnd at h
  split at h
  · rename_i q
    cases hx : rs[id.toNat]? with
    | none => rw [hx] at h; cases h
    | some y =>
      rw [hx] at h
      obtain rfl : y = some x := h
      exact ⟨id.toNat, by omega, (List.getElem?_eq_some_iff.1 hx).1, hx, List.mem_of_getElem? hx⟩
  · cases h
set_option maxRecDepth 20000 in
theorem clone_c (h : PI w P c vh rs peak n) (id : Int) (hl : rs.length ≤ 90000) : Calls Try.prog 28 #[.pointer (some ⟨c.a, 0, none⟩), .int .i64 id] w (CloneO w P c (sts rs) peak n id) := by
  have HF := hid (find_c h id)
  have HSF := hid (fnd_sts rs id)
  cases hx : fnd rs id with
  | none =>
    rw [hx] at HF HSF
    have HC := hid (show cloneP c.size (sts rs) peak id = ((sts rs, peak), (0, 11)) by unfold cloneP; rw [HSF.out]; rfl)
    have HP := hid (PO.refl h)
    clear h
    go_enter Try.func28, Try.ntmps28
    go_wp2_with (first
      | (go_at_call 63; refine HF.out.mono ?_; rintro e' w5 ⟨rfl, rfl⟩; simp only [ptr, errOf, Option.isSome])
      | fail)
    go_ret2
    refine (show CloneO w P c (sts rs) peak n id _ _ from ?_)
    unfold CloneO
    rw [HC.out]
    exact ⟨rfl, HP.out⟩
  | some x =>
    rw [hx] at HF HSF
    obtain ⟨i, rfl, hi, hix, hm⟩ := fnd_mem hx
    have HC := hid (show cloneP c.size (sts rs) peak i = openP c.size (sts rs) peak x.s by unfold cloneP; rw [HSF.out]; rfl)
    have hB := (h.own x hm).1
    have hO := (h.own x hm).2
    obtain ⟨pu, cu, eu, _⟩ := i64s_open hB.ids.sl
    have yx := hB.blk
    rw [hcells, eu] at yx
    have gx := lt_of_heap yx
    have x0 := heap_cell yx 0
    have x1 := heap_cell yx 1
    have x2 := heap_cell yx 2
    have x3 := heap_cell yx 3
    have x4 := heap_cell yx 4
    simp only [List.getElem?_toArray, List.getElem?_cons_succ, List.getElem?_cons_zero] at x0 x1 x2 x3 x4
    have HO := hid (popen_c h x.s x.u hB.ids hB.mu hO hl)
    rw [hcells, eu] at HO
    clear h hB hO yx eu hm
    go_enter Try.func28, Try.ntmps28
    go_wp2_with (first
      | (go_at_call 63; refine HF.out.mono ?_; rintro e' w5 ⟨rfl, rfl⟩; simp only [ptr, errOf, Option.isSome])
      | (go_at_call 62; refine HO.out.mono ?_; rintro e' w5 ⟨rfl, hpo⟩)
      | fail)
    go_ret2
    refine (show CloneO w P c (sts rs) peak n i _ _ from ?_)
    unfold CloneO
    rw [HC.out]
    exact ⟨rfl, hpo⟩
def closeP (hs : List (Option HS)) (id : Int) : List (Option HS) × Bool := ((if (fnd hs id).isSome then hs.set id.toNat none else hs), (fnd hs id).isSome)
def CloseO (w : World) (P : Nat → Prop) (c : Cf) (hs : List (Option HS)) (peak : Int) (N : Nat) (id : Int) (e : Ending) (w' : World) : Prop :=
  e = .returned (.bool (closeP hs id).2) ∧ PO w P c (closeP hs id).1 peak N w'
/-- A place of the row is free again. -/
theorem PI.drop (h : PI w P c vh rs peak n) (f gr cap : Nat) (hv : vh = .slice (some ⟨gr, 0, none⟩) rs.length cap) :
    PI (w.setCell ⟨gr, f, none⟩ (.pointer none)) P c vh (rs.set f none) peak n ∧ Mods (· = gr) w (w.setCell ⟨gr, f, none⟩ (.pointer none)) := by
  subst hv
  have hm : Mods (· = gr) w (w.setCell ⟨gr, f, none⟩ (.pointer none)) := Mods.setCell (S := (· = gr)) (Mods.refl _ w) rfl _
  obtain ⟨cur, hgr⟩ := row_block h.row (k := gr) rfl
  have hmem : ∀ (i : Nat) (x : Hd), (rs.set f none)[i]? = some (some x) → rs[i]? = some (some x) := fun i x hx => by
    rw [List.getElem?_set] at hx
    split at hx
    · split at hx <;> cases hx
    · exact hx
  refine ⟨h.turn (hm.mono (fun k q => Or.inl (by rw [q]; rfl))) (hm.heap h.blk (fun q => type_ne h.blk hgr (by decide) q)) ?_ (fun x hx => ?_) (fun i j x y hx hy he => h.inj i j x y (hmem i x hx) (hmem j y hy) he) (fun k q => q) (fun k q => ⟨(h.low k q).1, Nat.lt_of_lt_of_le (h.low k q).2 hm.size⟩) h.mh h.pk, hm⟩
  · have hset := Own.set h.row (ptrs_length rs).symm f (.pointer none)
    rw [show (ptrs rs).set f (.pointer none) = ptrs (rs.set f none) by unfold ptrs; rw [List.map_set]; rfl] at hset
    exact hset
  · obtain ⟨i, hi⟩ := List.mem_iff_getElem?.1 hx
    exact Or.inl (List.mem_of_getElem? (hmem i x hi))
set_option maxRecDepth 20000 in
theorem close_c (h : PI w P c vh rs peak n) (id : Int) : Calls Try.prog 27 #[.pointer (some ⟨c.a, 0, none⟩), .int .i64 id] w (CloseO w P c (sts rs) peak n id) := by
  have HF := hid (find_c h id)
  have HSF := hid (fnd_sts rs id)
  cases hx : fnd rs id with
  | none =>
    rw [hx] at HF HSF
    have HC := hid (show closeP (sts rs) id = (sts rs, false) by unfold closeP; rw [HSF.out]; rfl)
    have HP := hid (PO.refl h)
    clear h
    go_enter Try.func27, Try.ntmps27
    go_wp2_with (first
      | (go_at_call 63; refine HF.out.mono ?_; rintro e' w5 ⟨rfl, rfl⟩; simp only [ptr, errOf, Option.isSome])
      | fail)
    go_ret
    refine (show CloseO w P c (sts rs) peak n id _ _ from ?_)
    unfold CloseO
    rw [HC.out]
    exact ⟨rfl, HP.out⟩
  | some x =>
    rw [hx] at HF HSF
    obtain ⟨i, rfl, hi, hix, hm⟩ := fnd_mem hx
    have HC := hid (show closeP (sts rs) i = (sts (rs.set i none), true) by
      unfold closeP
      rw [HSF.out, Int.toNat_natCast]
      show ((sts rs).set i none, true) = _
      unfold sts
      rw [List.map_set]; rfl)
    have y := h.blk
    have g0 := lt_of_heap y
    have k4 := heap_cell y 4
    simp only [List.getElem?_toArray, List.getElem?_cons_succ, List.getElem?_cons_zero] at k4
    obtain ⟨gr, cap, hvr, hgr1, hcp, hcm⟩ := h.row.opened (by rw [ptrs_length]; omega)
    rw [ptrs_length] at hvr hcp
    have HD := hid (h.drop i gr cap hvr)
    subst hvr
    unfold maxLen at hcm
    have hfz := Own.frozen h.row (ptrs_length _).symm i
    obtain ⟨cur, hcur⟩ := row_block h.row (k := gr) rfl
    have hgrl := lt_of_heap hcur
    have hcf := Own.cell h.row (ptrs_length _).symm i (by rw [ptrs_length]; omega)
    rw [show (ptrs rs)[i]? = some (.pointer (some ⟨x.g, 0, none⟩)) from by unfold ptrs; rw [List.getElem?_map, hix]; rfl] at hcf
    have HMR := hid (h.mh gr rfl)
    have hd1 : decide ((rs.length : Int) ≤ (i : Int)) = false := decide_eq_false (by omega)
    clear h y hcur hm hix
    go_enter Try.func27, Try.ntmps27
    go_wp2_with (first
      | (go_at_call 63; refine HF.out.mono ?_; rintro e' w5 ⟨rfl, rfl⟩; simp only [ptr, errOf, Option.isSome])
      | fail)
    go_ret
    refine (show CloseO w P c (sts rs) peak n i _ _ from ?_)
    unfold CloseO
    rw [HC.out]
    exact ⟨rfl, P, _, _, n, fun _ q => q, fun _ q => Or.inl q, HD.out.1, rfl, Nat.le_refl _, HD.out.2.mono (fun k q => Or.inl (q ▸ HMR.out))⟩
set_option maxRecDepth 20000 in
theorem idx_c (h : PI w P c vh rs peak n) (id : Int) : Calls Try.prog 31 #[.pointer (some ⟨c.a, 0, none⟩), .int .i64 id] w fun e w' => e = .returned (.tuple #[.int .i64 ((fnd (sts rs) id).elim 0 HS.idx), .bool (fnd (sts rs) id).isSome]) ∧ w = w' := by
  have HF := hid (find_c h id)
  rw [fnd_sts]
  cases hx : fnd rs id with
  | none =>
    rw [hx] at HF
    clear h
    go_enter Try.func31, Try.ntmps31
    go_wp2_with (first
      | (go_at_call 63; refine HF.out.mono ?_; rintro e' w5 ⟨rfl, rfl⟩; simp only [ptr, errOf, Option.isSome])
      | fail)
    go_ret2
    exact ⟨rfl, rfl⟩
  | some x =>
    rw [hx] at HF
    obtain ⟨i, rfl, hi, hix, hm⟩ := fnd_mem hx
    have hB := (h.own x hm).1
    have hO := (h.own x hm).2
    obtain ⟨pu, cu, eu, _⟩ := i64s_open hB.ids.sl
    have yx := hB.blk
    rw [hcells, eu] at yx
    have gx := lt_of_heap yx
    have x0 := heap_cell yx 0
    have x1 := heap_cell yx 1
    have x2 := heap_cell yx 2
    have x3 := heap_cell yx 3
    have x4 := heap_cell yx 4
    simp only [List.getElem?_toArray, List.getElem?_cons_succ, List.getElem?_cons_zero] at x0 x1 x2 x3 x4
    clear h hB hO yx eu hm
    go_enter Try.func31, Try.ntmps31
    go_wp2_with (first
      | (go_at_call 63; refine HF.out.mono ?_; rintro e' w5 ⟨rfl, rfl⟩; simp only [ptr, errOf, Option.isSome])
      | fail)
    go_ret2
    exact ⟨rfl, rfl⟩
set_option maxRecDepth 20000 in
theorem peak_c (h : PI w P c vh rs peak n) : Calls Try.prog 32 #[.pointer (some ⟨c.a, 0, none⟩)] w fun e w' => e = .returned (.int .i64 peak) ∧ w = w' := by
  have y := h.blk
  have g0 := lt_of_heap y
  have k5 := heap_cell y 5
  simp only [List.getElem?_toArray, List.getElem?_cons_succ, List.getElem?_cons_zero] at k5
  clear y h
  go_enter Try.func32, Try.ntmps32
  go_wp2
  go_ret
  exact ⟨rfl, rfl⟩
end
end Hp
end Go.Proofs.Ytdihoedehmfgfaa
