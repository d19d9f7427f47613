/- The contracts of what a memory finds, both. No condition but lengths. -/
import Derived.Test.YthellicimicieaaMemoD
import Derived.Test.YthellicimicieaaBitsE
import Derived.Test.YthellicimicieaaSeqT
set_option linter.unusedSimpArgs false
set_option linter.unusedVariables false
namespace Go.Proofs.Ythellicimicieaa
open Go.ChangeShapes Go.WideShapes Go.ChangeAt Go.RowKit
namespace Mm
open Go.Proofs.Ythellicimicieaa.Words (Wd trim Set ws same same_c samewords_c rtrim_c HandsW)
theorem hit_same {s v : List Wd} {n : En} (h : EnOk n) : hit s v n = (same n.s s && same n.v v) := by
  unfold hit Words.same
  rw [h.s, h.v]
  by_cases h1 : n.s = trim s <;> by_cases h2 : n.v = trim v <;> simp [h1, h2]
theorem row_open {w : World} {P : Nat → Prop} {B : Nat} {t : TypeId} {v : Value} {f : Nat → V3} {l : List En} (h : Row w P B t v f l) :
    ∃ p cap, v = .slice p l.length cap ∧ l.length ≤ cap ∧ cap ≤ maxLen ∧ (p = none → cap = 0) ∧ ∀ i, i < l.length → ∃ g, p = some ⟨g, 0, none⟩ ∧ w.cell? ⟨g, i * 5, none⟩ = some (f i).1 ∧ w.cell? ⟨g, i * 5 + 1, none⟩ = some (f i).2.1 ∧ w.cell? ⟨g, i * 5 + 2, none⟩ = some (f i).2.2 ∧ w.cell? ⟨g, i * 5 + 3, none⟩ = some (.bool (at_ l i).e) ∧ w.cell? ⟨g, i * 5 + 4, none⟩ = some (.bool (at_ l i).k) := by
  have ho := h.own
  rcases h.own.2 with ⟨rfl, h0⟩ | ⟨g, cap, cur, rfl, hg, hh, hn, hm, hs, ht⟩
  · exact ⟨none, 0, by rw [h0], by omega, Nat.zero_le _, fun _ => rfl, fun i hi => by omega⟩
  · refine ⟨some ⟨g, 0, none⟩, cap, rfl, hn, hm, (fun e => by cases e), fun i hi => ⟨g, rfl, ?_⟩⟩
    have key : ∀ c, c < 5 → w.cell? ⟨g, i * 5 + c, none⟩ = (ent (f i) (at_ l i))[c]? := fun c hc => by
      rw [World.ownsRow.cellAt ho (i * 5 + c) (by omega)]
      exact enc_get f l hi hc
    exact ⟨key 0 (by omega), key 1 (by omega), key 2 (by omega), key 3 (by omega), key 4 (by omega)⟩
theorem box5 (w : World) (a b c d e : Value) (t : TypeId) : (w.alloc (.cells #[a, b, c, d, e] t)).cell? ⟨w.heap.size, 0, none⟩ = some a ∧ (w.alloc (.cells #[a, b, c, d, e] t)).cell? ⟨w.heap.size, 1, none⟩ = some b ∧ (w.alloc (.cells #[a, b, c, d, e] t)).cell? ⟨w.heap.size, 2, none⟩ = some c ∧
    (w.alloc (.cells #[a, b, c, d, e] t)).cell? ⟨w.heap.size, 3, none⟩ = some d ∧ (w.alloc (.cells #[a, b, c, d, e] t)).cell? ⟨w.heap.size, 4, none⟩ = some e ∧ w.heap.size < (w.alloc (.cells #[a, b, c, d, e] t)).heap.size ∧ Nw w (w.alloc (.cells #[a, b, c, d, e] t)) := by
  have h := heap_new w (.cells #[a, b, c, d, e] t)
  exact ⟨heap_cell h 0, heap_cell h 1, heap_cell h 2, heap_cell h 3, heap_cell h 4, by show _ < (w.heap.push _).size; rw [Array.size_push]; omega, (Nw.refl w).alloc _⟩
/-! ### find$1 -/
set_option maxRecDepth 20000 in
set_option maxHeartbeats 800000 in
theorem find1_c (z : V3) (n : En) (g1 g2 : Nat) (us uv : Value) (s v : List Wd) (w : World) (hn : EnOk n) (h1 : Set w z.1 n.s) (h2 : Set w z.2.1 n.v) (b1 : w.cell? ⟨g1, 0, none⟩ = some us) (b2 : w.cell? ⟨g2, 0, none⟩ = some uv) (k1 : Set w us s) (k2 : Set w uv v) :
    Calls Try.prog 70 #[.agg #[z.1, z.2.1, z.2.2, .bool n.e, .bool n.k], .pointer (some ⟨g1, 0, none⟩), .pointer (some ⟨g2, 0, none⟩)] w (Gives (.bool (hit s v n)) w) := by
  have HS1 := hid (fun w' (h : Nw w w') => same_c z.1 us n.s s w' (h1.nw h) (k1.nw h))
  have HS2 := hid (fun w' (h : Nw w w') => same_c z.2.1 uv n.v v w' (h2.nw h) (k2.nw h))
  have HH := hid (hit_same (s := s) (v := v) hn)
  obtain ⟨z1, z2, z3⟩ := z
  dsimp only at h1 h2 HS1 HS2 ⊢
  obtain ⟨p1, c1, rfl, _⟩ := h1.open
  obtain ⟨p2, c2, rfl, _⟩ := h2.open
  obtain ⟨p3, c3, rfl, _⟩ := k1.open
  obtain ⟨p4, c4, rfl, _⟩ := k2.open
  generalize same n.s s = a at *
  generalize same n.v v = b at *
  generalize hit s v n = r at *
  clear h1 h2 k1 k2 hn
  go_enter Try.func70, Try.ntmps70
  go_upto_region 1 with fail
  obtain ⟨x0, x1, x2, x3, x4, hz, hnA⟩ := box5 w (.slice p1 n.s.length c1) (.slice p2 n.v.length c2) z3 (.bool n.e) (.bool n.k) 82
  generalize w.alloc (.cells #[.slice p1 n.s.length c1, .slice p2 n.v.length c2, z3, .bool n.e, .bool n.k] 82) = w0 at *
  have y1 := hnA.cell b1
  have y2 := hnA.cell b2
  have gy1 := World.block_lt_of_cell? w0 _ y1
  have gy2 := World.block_lt_of_cell? w0 _ y2
  simp only at gy1 gy2
  clear b1 b2
  cases a with
  | false =>
    go_wp2_with (first
      | (go_at_call 38; refine (HS1.out _ hnA).mono ?_; rintro e w1 ⟨rfl, hn1⟩)
      | fail)
    go_ret
    exact Gives.b (by rw [HH.out]; rfl) (hnA.trans hn1)
  | true =>
    go_wp2_with (first
      | (go_at_call_of 38 (Value.slice p1 n.s.length c1); refine (HS1.out _ hnA).mono ?_; rintro e w1 ⟨rfl, hn1⟩; have hnB := hnA.trans hn1; replace x1 := hn1.cell x1; replace y2 := hn1.cell y2; replace gy2 := Nat.lt_of_lt_of_le gy2 hn1.size; replace hz := Nat.lt_of_lt_of_le hz hn1.size)
      | (go_at_call 38; refine (HS2.out _ hnB).mono ?_; rintro e w2 ⟨rfl, hn2⟩)
      | fail)
    go_ret
    exact Gives.b (by rw [HH.out]; rfl) (hnB.trans hn2)
/-! ### IndexFunc -/
/-- The place that is told: -1 for none. -/
def plc (n k : Nat) : Int := if k < n then (k : Int) else -1
set_option maxRecDepth 20000 in
set_option maxHeartbeats 800000 in
theorem indexf_c (P : Nat → Prop) (B : Nat) (t : TypeId) (u : Value) (f : Nat → V3) (l : List En) (g1 g2 : Nat) (us uv : Value) (s v : List Wd) (w : World) (hr : Row w P B t u f l) (hen : ∀ i, i < l.length → EnOk (at_ l i)) (b1 : w.cell? ⟨g1, 0, none⟩ = some us) (b2 : w.cell? ⟨g2, 0, none⟩ = some uv) (k1 : Set w us s) (k2 : Set w uv v) :
    Calls Try.prog 69 #[u, .func (.func 70) #[] #[.pointer (some ⟨g1, 0, none⟩), .pointer (some ⟨g2, 0, none⟩)]] w (Gives (.int .i64 (plc l.length (fnd l s v))) w) := by
  obtain ⟨p, cap, rfl, hcap, hmx, _, hc⟩ := row_open hr
  unfold maxLen at hmx
  have HC := hid hc
  have HE := hid (fun i (hi : i < l.length) w' (h : Nw w w') => find1_c (f i) (at_ l i) g1 g2 us uv s v w' (hen i hi) ((hr.sets i hi).1.nw h) ((hr.sets i hi).2.1.nw h) (h.cell b1) (h.cell b2) (k1.nw h) (k2.nw h))
  clear hc hr hen b1 b2 k1 k2
  go_enter Try.func69, Try.ntmps69
  go_upto_region 2 with fail
  go_loopw [5, 8] (fun _ i wr => ∃ k : Nat, k ≤ l.length ∧ i = .int .i64 k ∧ Hid (∀ j, j < k → hit s v (at_ l j) = false) ∧ Nw w wr) (fun _ i _ => l.length - (intOf i).toNat)
  case atStart => exact ⟨0, Nat.zero_le _, rfl, hid (fun j hj => by omega), Nw.refl _⟩
  case round =>
    obtain ⟨k, hk, rfl, hno, hn⟩ := hrel
    by_cases hlt : k < l.length
    · have hdk : decide (k < l.length) = true := decide_eq_true hlt
      obtain ⟨g, rfl, c0, c1, c2, c3, c4⟩ := HC.out k hlt
      replace c0 := hn.cell c0
      replace c1 := hn.cell c1
      replace c2 := hn.cell c2
      replace c3 := hn.cell c3
      replace c4 := hn.cell c4
      have gg := World.block_lt_of_cell? wr _ c0
      simp only at gg
      have HF := hid (HE.out k hlt wr hn)
      generalize f k = z at *
      obtain ⟨z1, z2, z3⟩ := z
      dsimp only at c0 c1 c2 HF
      have HY := hid (fun (h : hit s v (at_ l k) = true) => fnd_eq hlt h hno.out)
      have HN := hid (fun (h : hit s v (at_ l k) = false) => show ∀ j, j < k + 1 → hit s v (at_ l j) = false from fun j hj => by
        by_cases e : j = k
        · rw [e]; exact h
        · exact hno.out j (by omega))
      generalize hit s v (at_ l k) = r at *
      generalize at_ l k = n at *
      obtain ⟨ns, nv, nx, ne, nk⟩ := n
      dsimp only at c3 c4 HF
      cases r with
      | true =>
        go_wp2_with (first
          | (go_at_call 70; refine HF.out.mono ?_; rintro e w1 ⟨rfl, hn1⟩)
          | fail)
        go_ret
        exact Gives.i (by rw [HY.out (by first | exact trivial | rfl), plc, if_pos hlt]) (hn.trans hn1)
      | false =>
        go_wp2_with (first
          | (go_at_call 70; refine HF.out.mono ?_; rintro e w1 ⟨rfl, hn1⟩)
          | fail)
        go_roundw
        case rel => exact ⟨k + 1, by omega, by go_num, hid (HN.out (by first | exact trivial | rfl)), hn.trans hn1⟩
        case measure => (simp [intOf] <;> omega)
    · obtain rfl : k = l.length := by omega
      have hdk : decide (l.length < l.length) = false := decide_eq_false (by omega)
      have hF := hid (fnd_none hno.out)
      clear hno
      go_wp2
      go_ret
      exact Gives.i (by rw [hF.out, plc, if_neg (by omega)]) hn
/-! ### A memory -/
structure MI (w : World) (P : Nat → Prop) (B a : Nat) (v : Value) (f : Nat → V3) (m : Me) : Prop where
  blk : w.heap[a]? = some (.cells #[.int .i64 (m.room : Int), v, .int .i64 (m.hand : Int)] 76 (0, 0))
  ge : B ≤ a
  mine : P a
  row : Row w P B 82 v f m.l
  ok : Ok m
structure RI (w : World) (P : Nat → Prop) (B a : Nat) (v : Value) (f : Nat → V3) (m : Me) : Prop where
  blk : w.heap[a]? = some (.cells #[.int .i64 (m.room : Int), .int .i64 (m.hand : Int), v] 80 (0, 0))
  ge : B ≤ a
  mine : P a
  row : Row w P B 87 v f m.l
  ok : Ok m
theorem MI.nw {w w' : World} {P : Nat → Prop} {B a : Nat} {v : Value} {f : Nat → V3} {m : Me} (h : MI w P B a v f m) (hn : Nw w w') : MI w' P B a v f m := ⟨hn.heap h.blk, h.ge, h.mine, h.row.nw hn, h.ok⟩
theorem RI.nw {w w' : World} {P : Nat → Prop} {B a : Nat} {v : Value} {f : Nat → V3} {m : Me} (h : RI w P B a v f m) (hn : Nw w w') : RI w' P B a v f m := ⟨hn.heap h.blk, h.ge, h.mine, h.row.nw hn, h.ok⟩
theorem MI.lt {w : World} {P : Nat → Prop} {B a : Nat} {v : Value} {f : Nat → V3} {m : Me} (h : MI w P B a v f m) : a < w.heap.size := lt_of_heap h.blk
theorem RI.lt {w : World} {P : Nat → Prop} {B a : Nat} {v : Value} {f : Nat → V3} {m : Me} (h : RI w P B a v f m) : a < w.heap.size := lt_of_heap h.blk
/-! ### find -/
set_option maxRecDepth 20000 in
set_option maxHeartbeats 800000 in
theorem find_c (P : Nat → Prop) (B a : Nat) (u : Value) (f : Nat → V3) (m : Me) (us uv : Value) (s v : List Wd) (w : World) (hm : MI w P B a u f m) (k1 : Set w us s) (k2 : Set w uv v) :
    Calls Try.prog 50 #[.pointer (some ⟨a, 0, none⟩), us, uv] w (Gives (.int .i64 (plc m.l.length (fnd m.l s v))) w) := by
  have HI := hid (fun g1 g2 w' (h : Nw w w') (b1 : w'.cell? ⟨g1, 0, none⟩ = some us) (b2 : w'.cell? ⟨g2, 0, none⟩ = some uv) => indexf_c P B _ u f m.l g1 g2 us uv s v w' (hm.row.nw h) hm.ok.en b1 b2 (k1.nw h) (k2.nw h))
  obtain ⟨p1, c1, rfl, _⟩ := k1.open
  obtain ⟨p2, c2, rfl, _⟩ := k2.open
  obtain ⟨p3, c3, rfl, _⟩ := row_open hm.row
  have y := hm.blk
  generalize plc m.l.length (fnd m.l s v) = r at *
  clear hm k1 k2
  go_enter Try.func50, Try.ntmps50
  go_upto_region 1 with fail
  have n1 := (Nw.refl w).alloc (.cells #[.slice p1 s.length c1] 42)
  have b1 : (w.alloc (.cells #[.slice p1 s.length c1] 42)).cell? ⟨w.heap.size, 0, none⟩ = some (.slice p1 s.length c1) := heap_cell (heap_new w (.cells #[.slice p1 s.length c1] 42)) 0
  have z1 : (w.alloc (.cells #[.slice p1 s.length c1] 42)).heap.size = w.heap.size + 1 := by show (w.heap.push _).size = _; rw [Array.size_push]
  generalize w.alloc (.cells #[.slice p1 s.length c1] 42) = w1 at *
  have n2 := (Nw.refl w1).alloc (.cells #[.slice p2 v.length c2] 42)
  have b2 : (w1.alloc (.cells #[.slice p2 v.length c2] 42)).cell? ⟨w1.heap.size, 0, none⟩ = some (.slice p2 v.length c2) := heap_cell (heap_new w1 (.cells #[.slice p2 v.length c2] 42)) 0
  have z2 : (w1.alloc (.cells #[.slice p2 v.length c2] 42)).heap.size = w1.heap.size + 1 := by show (w1.heap.push _).size = _; rw [Array.size_push]
  generalize w1.alloc (.cells #[.slice p2 v.length c2] 42) = w2 at *
  have hn := n1.trans n2
  have b1' := n2.cell b1
  rw [z1] at b2 z2
  have HI2 := hid (HI.out w.heap.size (w.heap.size + 1) w2 hn b1' b2)
  have y2 := hn.heap y
  have e0 := heap_cell y2 0
  have e1 := heap_cell y2 1
  simp only [List.getElem?_toArray, List.getElem?_cons_succ, List.getElem?_cons_zero] at e0 e1
  have ga := lt_of_heap y2
  go_wp2_with (first
    | (go_at_call 69; refine HI2.out.mono ?_; rintro e w3 ⟨rfl, hn3⟩)
    | fail)
  go_ret
  exact ⟨rfl, hn.trans hn3⟩
def SetS (s : List Wd) : Says := fun w v => Set w v s
theorem SetS.stab (s : List Wd) : Stab (SetS s) := fun _ _ _ h hn => Set.nw h hn
attribute [simp] SetS.stab
set_option maxRecDepth 20000 in
set_option maxHeartbeats 1600000 in
theorem rfind_c (P : Nat → Prop) (B a : Nat) (u : Value) (f : Nat → V3) (m : Me) (us uv : Value) (s v : List Wd) (w : World) (hm : RI w P B a u f m) (k1 : Set w us s) (k2 : Set w uv v) (ls : s.length ≤ 1000) (lv : v.length ≤ 1000) :
    Calls Try.prog 54 #[.pointer (some ⟨a, 0, none⟩), us, uv] w (Gives (.int .i64 (plc m.l.length (fnd m.l s v))) w) := by
  have HT1 := hid (fun w' (h : Nw w w') => rtrim_c us s w' (k1.nw h) (by omega))
  have HT2 := hid (fun w' (h : Nw w w') => rtrim_c uv v w' (k2.nw h) (by omega))
  have HSS := hid (fun i (hi : i < m.l.length) w' (h : Nw w w') x (hx : Set w' x (trim s)) => samewords_c (f i).1 x (at_ m.l i).s (trim s) w' ((hm.row.sets i hi).1.nw h) hx)
  have HSV := hid (fun i (hi : i < m.l.length) w' (h : Nw w w') x (hx : Set w' x (trim v)) => samewords_c (f i).2.1 x (at_ m.l i).v (trim v) w' ((hm.row.sets i hi).2.1.nw h) hx)
  have HSH := hid (fun i (hi : i < m.l.length) => And.intro (hm.row.sets i hi).1.open (And.intro (hm.row.sets i hi).2.1.open (hm.row.sets i hi).2.2.open))
  obtain ⟨p1, c1v, rfl, _⟩ := k1.open
  obtain ⟨p2, c2v, rfl, _⟩ := k2.open
  obtain ⟨p, cap, rfl, hcap, hmx, _, hc⟩ := row_open hm.row
  unfold maxLen at hmx
  have HC := hid hc
  have y := hm.blk
  generalize m.l = l at *
  generalize (m.room : Int) = mr at *
  generalize (m.hand : Int) = mh at *
  clear hc hm k1 k2
  have e2 := heap_cell y 2
  simp only [List.getElem?_toArray, List.getElem?_cons_succ, List.getElem?_cons_zero] at e2
  have ga := lt_of_heap y
  go_enter Try.func54, Try.ntmps54
  go_upto_region 2 with fail
  go_loopw [7, 8, 14] (fun _ _ i wr => ∃ k : Nat, k ≤ l.length ∧ i = .int .i64 k ∧ Hid (∀ j, j < k → hit s v (at_ l j) = false) ∧ Nw w wr) (fun _ _ i _ => l.length - (intOf i).toNat)
  case atStart => exact ⟨0, Nat.zero_le _, rfl, hid (fun j hj => by omega), Nw.refl _⟩
  case round =>
    obtain ⟨k, hk, rfl, hno, hn⟩ := hrel
    by_cases hlt : k < l.length
    · have hdk : decide (k < l.length) = true := decide_eq_true hlt
      obtain ⟨g, rfl, c0, c1, c2, c3, c4⟩ := HC.out k hlt
      replace c0 := hn.cell c0
      replace c1 := hn.cell c1
      replace c2 := hn.cell c2
      replace c3 := hn.cell c3
      replace c4 := hn.cell c4
      have gg := World.block_lt_of_cell? wr _ c0
      simp only at gg
      have HS1 := hid (HSS.out k hlt)
      have HS2 := hid (HSV.out k hlt)
      obtain ⟨⟨q1, d1, e1, _⟩, ⟨q2, d2, e2', _⟩, q3, d3, e3', _⟩ := HSH.out k hlt
      have HY := hid (fun (h : hit s v (at_ l k) = true) => fnd_eq hlt h hno.out)
      have HN := hid (fun (h : hit s v (at_ l k) = false) => show ∀ j, j < k + 1 → hit s v (at_ l j) = false from fun j hj => by
        by_cases e : j = k
        · rw [e]; exact h
        · exact hno.out j (by omega))
      have HH := hid (show hit s v (at_ l k) = (decide ((at_ l k).s = trim s) && decide ((at_ l k).v = trim v)) from Bool.decide_and _ _)
      generalize f k = z at *
      obtain ⟨z1, z2, z3⟩ := z
      dsimp only at c0 c1 c2 HS1 HS2 e1 e2' e3'
      subst e1
      subst e2'
      subst e3'
      generalize hit s v (at_ l k) = r at *
      generalize at_ l k = n at *
      obtain ⟨ns, nv, nx, ne, nk⟩ := n
      dsimp only at c0 c1 c2 c3 c4 HS1 HS2 HH
      generalize decide (ns = trim s) = b1 at *
      generalize decide (nv = trim v) = b2 at *
      go_upto_region 4 with fail
      obtain ⟨x0, x1, x2, x3, x4, hz, hnA⟩ := box5 wr (.slice q1 ns.length d1) (.slice q2 nv.length d2) (.slice q3 nx.length d3) (.bool ne) (.bool nk) 87
      generalize wr.alloc (.cells #[.slice q1 ns.length d1, .slice q2 nv.length d2, .slice q3 nx.length d3, .bool ne, .bool nk] 87) = w0 at *
      have hn0 := hn.trans hnA
      clear c0 c1 c2 c3 c4 hnA hn e2 y x2 x3 x4 HC HSS HSV HSH
      generalize wr.heap.size = g8 at *
      cases b1 with
      | false =>
        refine wp_region_stairs (by kernel_rfl) (by kernel_rfl) (by kernel_rfl) ?_
        iterate 3
          refine Stairs.is ?_ ?_ ?_
          rotate_left 1
          · intro x wR hR hd K hK
            simp only [Act.put, List.setIfInBounds_toArray, List.set_cons_zero, List.set_cons_succ, Nat.reduceAdd, List.length_nil, List.length_cons, List.nil_append, List.cons_append, Say.ok] at hK ⊢
            clear hd
            change Hid _ at hK
            obtain ⟨hcR, hfR, hzR⟩ := nwc hR
            first | (refine wanted_yes ?_ ?_; rfl) | (refine wanted_no ?_ ?_; rfl)
            go_wp2_with (first | (go_at_call_of 27 (Value.slice p1 s.length c1v); refine (HT1.out _ (hn0.trans (by repeat (first | assumption | exact Nw.refl _ | refine Nw.alloc ?_ _ | refine Nw.drew ?_ | refine Nw.drewN2 ?_ _ | (refine Nw.trans ?_ (by assumption)))))).mono ?_; rintro e w5 ⟨v5, rfl, hs5, hf5, hn5⟩) | (go_at_call 27; refine (HT2.out _ (hn0.trans (by repeat (first | assumption | exact Nw.refl _ | refine Nw.alloc ?_ _ | refine Nw.drew ?_ | refine Nw.drewN2 ?_ _ | (refine Nw.trans ?_ (by assumption)))))).mono ?_; rintro e w5 ⟨v5, rfl, hs5, hf5, hn5⟩) | (go_at_call_of 26 (Value.slice q1 ns.length d1); refine (HS1.out _ (hn0.trans (by repeat (first | assumption | exact Nw.refl _ | refine Nw.alloc ?_ _ | refine Nw.drew ?_ | refine Nw.drewN2 ?_ _ | (refine Nw.trans ?_ (by assumption))))) _ (by first | exact hd | exact hd.1 | exact hd.2 | exact hd.2.1 | exact hd.2.2 | exact hd.2.2.1 | exact hd.2.2.2 | (trace_state; done))).mono ?_; rintro e w5 ⟨rfl, hn5⟩) | (go_at_call 26; refine (HS2.out _ (hn0.trans (by repeat (first | assumption | exact Nw.refl _ | refine Nw.alloc ?_ _ | refine Nw.drew ?_ | refine Nw.drewN2 ?_ _ | (refine Nw.trans ?_ (by assumption))))) _ (by first | exact hd | exact hd.1 | exact hd.2 | exact hd.2.1 | exact hd.2.2 | exact hd.2.2.1 | exact hd.2.2.2 | (trace_state; done))).mono ?_; rintro e w5 ⟨rfl, hn5⟩))
            all_goals (refine hK.out _ _ ?_ ?_ <;> first | (solve | (repeat (first | assumption | exact Nw.refl _ | refine Nw.alloc ?_ _ | refine Nw.drew ?_ | refine Nw.drewN2 ?_ _ | (refine Nw.trans ?_ (by assumption))))) | exact rfl)
          try simp only [Act.put, List.setIfInBounds_toArray, List.set_cons_zero, List.set_cons_succ, Nat.reduceAdd, List.length_nil, List.length_cons, List.nil_append, List.cons_append]
        iterate 1
          refine Stairs.that (SetS (trim s)) (by first | assumption | simp) ?_ ?_
          · intro x wR hR hd K hK
            simp only [Act.put, List.setIfInBounds_toArray, List.set_cons_zero, List.set_cons_succ, Nat.reduceAdd, List.length_nil, List.length_cons, List.nil_append, List.cons_append, Say.ok] at hK ⊢
            clear hd
            change Hid _ at hK
            obtain ⟨hcR, hfR, hzR⟩ := nwc hR
            first | (refine wanted_yes ?_ ?_; rfl) | (refine wanted_no ?_ ?_; rfl)
            go_wp2_with (first | (go_at_call_of 27 (Value.slice p1 s.length c1v); refine (HT1.out _ (hn0.trans (by repeat (first | assumption | exact Nw.refl _ | refine Nw.alloc ?_ _ | refine Nw.drew ?_ | refine Nw.drewN2 ?_ _ | (refine Nw.trans ?_ (by assumption)))))).mono ?_; rintro e w5 ⟨v5, rfl, hs5, hf5, hn5⟩) | (go_at_call 27; refine (HT2.out _ (hn0.trans (by repeat (first | assumption | exact Nw.refl _ | refine Nw.alloc ?_ _ | refine Nw.drew ?_ | refine Nw.drewN2 ?_ _ | (refine Nw.trans ?_ (by assumption)))))).mono ?_; rintro e w5 ⟨v5, rfl, hs5, hf5, hn5⟩) | (go_at_call_of 26 (Value.slice q1 ns.length d1); refine (HS1.out _ (hn0.trans (by repeat (first | assumption | exact Nw.refl _ | refine Nw.alloc ?_ _ | refine Nw.drew ?_ | refine Nw.drewN2 ?_ _ | (refine Nw.trans ?_ (by assumption))))) _ (by first | exact hd | exact hd.1 | exact hd.2 | exact hd.2.1 | exact hd.2.2 | exact hd.2.2.1 | exact hd.2.2.2 | (trace_state; done))).mono ?_; rintro e w5 ⟨rfl, hn5⟩) | (go_at_call 26; refine (HS2.out _ (hn0.trans (by repeat (first | assumption | exact Nw.refl _ | refine Nw.alloc ?_ _ | refine Nw.drew ?_ | refine Nw.drewN2 ?_ _ | (refine Nw.trans ?_ (by assumption))))) _ (by first | exact hd | exact hd.1 | exact hd.2 | exact hd.2.1 | exact hd.2.2 | exact hd.2.2.1 | exact hd.2.2.2 | (trace_state; done))).mono ?_; rintro e w5 ⟨rfl, hn5⟩))
            all_goals (refine hK.out _ _ ?_ ?_ <;> first | (solve | (repeat (first | assumption | exact Nw.refl _ | refine Nw.alloc ?_ _ | refine Nw.drew ?_ | refine Nw.drewN2 ?_ _ | (refine Nw.trans ?_ (by assumption))))) | exact rfl)
          try simp only [Act.put, List.setIfInBounds_toArray, List.set_cons_zero, List.set_cons_succ, Nat.reduceAdd, List.length_nil, List.length_cons, List.nil_append, List.cons_append]
        iterate 8
          refine Stairs.is ?_ ?_ ?_
          rotate_left 1
          · intro x wR hR hd K hK
            simp only [Act.put, List.setIfInBounds_toArray, List.set_cons_zero, List.set_cons_succ, Nat.reduceAdd, List.length_nil, List.length_cons, List.nil_append, List.cons_append, Say.ok] at hK ⊢
            try simp [Region.binds, sayAt, List.getD_cons_zero, List.getD_cons_succ, Say.ok, Vl] at hd
            change Hid _ at hK
            obtain ⟨hcR, hfR, hzR⟩ := nwc hR
            first | (refine wanted_yes ?_ ?_; rfl) | (refine wanted_no ?_ ?_; rfl)
            go_wp2_with (first | (go_at_call_of 27 (Value.slice p1 s.length c1v); refine (HT1.out _ (hn0.trans (by repeat (first | assumption | exact Nw.refl _ | refine Nw.alloc ?_ _ | refine Nw.drew ?_ | refine Nw.drewN2 ?_ _ | (refine Nw.trans ?_ (by assumption)))))).mono ?_; rintro e w5 ⟨v5, rfl, hs5, hf5, hn5⟩) | (go_at_call 27; refine (HT2.out _ (hn0.trans (by repeat (first | assumption | exact Nw.refl _ | refine Nw.alloc ?_ _ | refine Nw.drew ?_ | refine Nw.drewN2 ?_ _ | (refine Nw.trans ?_ (by assumption)))))).mono ?_; rintro e w5 ⟨v5, rfl, hs5, hf5, hn5⟩) | (go_at_call_of 26 (Value.slice q1 ns.length d1); refine (HS1.out _ (hn0.trans (by repeat (first | assumption | exact Nw.refl _ | refine Nw.alloc ?_ _ | refine Nw.drew ?_ | refine Nw.drewN2 ?_ _ | (refine Nw.trans ?_ (by assumption))))) _ (by first | exact hd | exact hd.1 | exact hd.2 | exact hd.2.1 | exact hd.2.2 | exact hd.2.2.1 | exact hd.2.2.2 | (trace_state; done))).mono ?_; rintro e w5 ⟨rfl, hn5⟩) | (go_at_call 26; refine (HS2.out _ (hn0.trans (by repeat (first | assumption | exact Nw.refl _ | refine Nw.alloc ?_ _ | refine Nw.drew ?_ | refine Nw.drewN2 ?_ _ | (refine Nw.trans ?_ (by assumption))))) _ (by first | exact hd | exact hd.1 | exact hd.2 | exact hd.2.1 | exact hd.2.2 | exact hd.2.2.1 | exact hd.2.2.2 | (trace_state; done))).mono ?_; rintro e w5 ⟨rfl, hn5⟩))
            all_goals (refine hK.out _ _ ?_ ?_ <;> first | (solve | (repeat (first | assumption | exact Nw.refl _ | refine Nw.alloc ?_ _ | refine Nw.drew ?_ | refine Nw.drewN2 ?_ _ | (refine Nw.trans ?_ (by assumption))))) | exact rfl)
          try simp only [Act.put, List.setIfInBounds_toArray, List.set_cons_zero, List.set_cons_succ, Nat.reduceAdd, List.length_nil, List.length_cons, List.nil_append, List.cons_append]
        refine Stairs.nil ?_
        intro x wR hR hx
        have h3 := hx 3 (by decide)
        simp only [sayAt, List.getD_cons_zero, List.getD_cons_succ, Say.ok, Vl] at h3
        clear hx
        obtain ⟨hcR, hfR, hzR⟩ := nwc hR
        have hnn := hn0.trans hR
        obtain rfl : r = false := HH.out
        go_wp2
        go_roundw
        case rel => exact ⟨k + 1, by omega, by go_num, hid (HN.out (by first | exact trivial | rfl)), hnn⟩
        case measure => (simp [intOf] <;> omega)
      | true =>
        refine wp_region_stairs (by kernel_rfl) (by kernel_rfl) (by kernel_rfl) ?_
        iterate 3
          refine Stairs.is ?_ ?_ ?_
          rotate_left 1
          · intro x wR hR hd K hK
            simp only [Act.put, List.setIfInBounds_toArray, List.set_cons_zero, List.set_cons_succ, Nat.reduceAdd, List.length_nil, List.length_cons, List.nil_append, List.cons_append, Say.ok] at hK ⊢
            clear hd
            change Hid _ at hK
            obtain ⟨hcR, hfR, hzR⟩ := nwc hR
            first | (refine wanted_yes ?_ ?_; rfl) | (refine wanted_no ?_ ?_; rfl)
            go_wp2_with (first | (go_at_call_of 27 (Value.slice p1 s.length c1v); refine (HT1.out _ (hn0.trans (by repeat (first | assumption | exact Nw.refl _ | refine Nw.alloc ?_ _ | refine Nw.drew ?_ | refine Nw.drewN2 ?_ _ | (refine Nw.trans ?_ (by assumption)))))).mono ?_; rintro e w5 ⟨v5, rfl, hs5, hf5, hn5⟩) | (go_at_call 27; refine (HT2.out _ (hn0.trans (by repeat (first | assumption | exact Nw.refl _ | refine Nw.alloc ?_ _ | refine Nw.drew ?_ | refine Nw.drewN2 ?_ _ | (refine Nw.trans ?_ (by assumption)))))).mono ?_; rintro e w5 ⟨v5, rfl, hs5, hf5, hn5⟩) | (go_at_call_of 26 (Value.slice q1 ns.length d1); refine (HS1.out _ (hn0.trans (by repeat (first | assumption | exact Nw.refl _ | refine Nw.alloc ?_ _ | refine Nw.drew ?_ | refine Nw.drewN2 ?_ _ | (refine Nw.trans ?_ (by assumption))))) _ (by first | exact hd | exact hd.1 | exact hd.2 | exact hd.2.1 | exact hd.2.2 | exact hd.2.2.1 | exact hd.2.2.2 | (trace_state; done))).mono ?_; rintro e w5 ⟨rfl, hn5⟩) | (go_at_call 26; refine (HS2.out _ (hn0.trans (by repeat (first | assumption | exact Nw.refl _ | refine Nw.alloc ?_ _ | refine Nw.drew ?_ | refine Nw.drewN2 ?_ _ | (refine Nw.trans ?_ (by assumption))))) _ (by first | exact hd | exact hd.1 | exact hd.2 | exact hd.2.1 | exact hd.2.2 | exact hd.2.2.1 | exact hd.2.2.2 | (trace_state; done))).mono ?_; rintro e w5 ⟨rfl, hn5⟩))
            all_goals (refine hK.out _ _ ?_ ?_ <;> first | (solve | (repeat (first | assumption | exact Nw.refl _ | refine Nw.alloc ?_ _ | refine Nw.drew ?_ | refine Nw.drewN2 ?_ _ | (refine Nw.trans ?_ (by assumption))))) | exact rfl)
          try simp only [Act.put, List.setIfInBounds_toArray, List.set_cons_zero, List.set_cons_succ, Nat.reduceAdd, List.length_nil, List.length_cons, List.nil_append, List.cons_append]
        iterate 1
          refine Stairs.that (SetS (trim s)) (by first | assumption | simp) ?_ ?_
          · intro x wR hR hd K hK
            simp only [Act.put, List.setIfInBounds_toArray, List.set_cons_zero, List.set_cons_succ, Nat.reduceAdd, List.length_nil, List.length_cons, List.nil_append, List.cons_append, Say.ok] at hK ⊢
            clear hd
            change Hid _ at hK
            obtain ⟨hcR, hfR, hzR⟩ := nwc hR
            first | (refine wanted_yes ?_ ?_; rfl) | (refine wanted_no ?_ ?_; rfl)
            go_wp2_with (first | (go_at_call_of 27 (Value.slice p1 s.length c1v); refine (HT1.out _ (hn0.trans (by repeat (first | assumption | exact Nw.refl _ | refine Nw.alloc ?_ _ | refine Nw.drew ?_ | refine Nw.drewN2 ?_ _ | (refine Nw.trans ?_ (by assumption)))))).mono ?_; rintro e w5 ⟨v5, rfl, hs5, hf5, hn5⟩) | (go_at_call 27; refine (HT2.out _ (hn0.trans (by repeat (first | assumption | exact Nw.refl _ | refine Nw.alloc ?_ _ | refine Nw.drew ?_ | refine Nw.drewN2 ?_ _ | (refine Nw.trans ?_ (by assumption)))))).mono ?_; rintro e w5 ⟨v5, rfl, hs5, hf5, hn5⟩) | (go_at_call_of 26 (Value.slice q1 ns.length d1); refine (HS1.out _ (hn0.trans (by repeat (first | assumption | exact Nw.refl _ | refine Nw.alloc ?_ _ | refine Nw.drew ?_ | refine Nw.drewN2 ?_ _ | (refine Nw.trans ?_ (by assumption))))) _ (by first | exact hd | exact hd.1 | exact hd.2 | exact hd.2.1 | exact hd.2.2 | exact hd.2.2.1 | exact hd.2.2.2 | (trace_state; done))).mono ?_; rintro e w5 ⟨rfl, hn5⟩) | (go_at_call 26; refine (HS2.out _ (hn0.trans (by repeat (first | assumption | exact Nw.refl _ | refine Nw.alloc ?_ _ | refine Nw.drew ?_ | refine Nw.drewN2 ?_ _ | (refine Nw.trans ?_ (by assumption))))) _ (by first | exact hd | exact hd.1 | exact hd.2 | exact hd.2.1 | exact hd.2.2 | exact hd.2.2.1 | exact hd.2.2.2 | (trace_state; done))).mono ?_; rintro e w5 ⟨rfl, hn5⟩))
            all_goals (refine hK.out _ _ ?_ ?_ <;> first | (solve | (repeat (first | assumption | exact Nw.refl _ | refine Nw.alloc ?_ _ | refine Nw.drew ?_ | refine Nw.drewN2 ?_ _ | (refine Nw.trans ?_ (by assumption))))) | exact rfl)
          try simp only [Act.put, List.setIfInBounds_toArray, List.set_cons_zero, List.set_cons_succ, Nat.reduceAdd, List.length_nil, List.length_cons, List.nil_append, List.cons_append]
        iterate 5
          refine Stairs.is ?_ ?_ ?_
          rotate_left 1
          · intro x wR hR hd K hK
            simp only [Act.put, List.setIfInBounds_toArray, List.set_cons_zero, List.set_cons_succ, Nat.reduceAdd, List.length_nil, List.length_cons, List.nil_append, List.cons_append, Say.ok] at hK ⊢
            try simp [Region.binds, sayAt, List.getD_cons_zero, List.getD_cons_succ, Say.ok, Vl] at hd
            change Hid _ at hK
            obtain ⟨hcR, hfR, hzR⟩ := nwc hR
            first | (refine wanted_yes ?_ ?_; rfl) | (refine wanted_no ?_ ?_; rfl)
            go_wp2_with (first | (go_at_call_of 27 (Value.slice p1 s.length c1v); refine (HT1.out _ (hn0.trans (by repeat (first | assumption | exact Nw.refl _ | refine Nw.alloc ?_ _ | refine Nw.drew ?_ | refine Nw.drewN2 ?_ _ | (refine Nw.trans ?_ (by assumption)))))).mono ?_; rintro e w5 ⟨v5, rfl, hs5, hf5, hn5⟩) | (go_at_call 27; refine (HT2.out _ (hn0.trans (by repeat (first | assumption | exact Nw.refl _ | refine Nw.alloc ?_ _ | refine Nw.drew ?_ | refine Nw.drewN2 ?_ _ | (refine Nw.trans ?_ (by assumption)))))).mono ?_; rintro e w5 ⟨v5, rfl, hs5, hf5, hn5⟩) | (go_at_call_of 26 (Value.slice q1 ns.length d1); refine (HS1.out _ (hn0.trans (by repeat (first | assumption | exact Nw.refl _ | refine Nw.alloc ?_ _ | refine Nw.drew ?_ | refine Nw.drewN2 ?_ _ | (refine Nw.trans ?_ (by assumption))))) _ (by first | exact hd | exact hd.1 | exact hd.2 | exact hd.2.1 | exact hd.2.2 | exact hd.2.2.1 | exact hd.2.2.2 | (trace_state; done))).mono ?_; rintro e w5 ⟨rfl, hn5⟩) | (go_at_call 26; refine (HS2.out _ (hn0.trans (by repeat (first | assumption | exact Nw.refl _ | refine Nw.alloc ?_ _ | refine Nw.drew ?_ | refine Nw.drewN2 ?_ _ | (refine Nw.trans ?_ (by assumption))))) _ (by first | exact hd | exact hd.1 | exact hd.2 | exact hd.2.1 | exact hd.2.2 | exact hd.2.2.1 | exact hd.2.2.2 | (trace_state; done))).mono ?_; rintro e w5 ⟨rfl, hn5⟩))
            all_goals (refine hK.out _ _ ?_ ?_ <;> first | (solve | (repeat (first | assumption | exact Nw.refl _ | refine Nw.alloc ?_ _ | refine Nw.drew ?_ | refine Nw.drewN2 ?_ _ | (refine Nw.trans ?_ (by assumption))))) | exact rfl)
          try simp only [Act.put, List.setIfInBounds_toArray, List.set_cons_zero, List.set_cons_succ, Nat.reduceAdd, List.length_nil, List.length_cons, List.nil_append, List.cons_append]
        iterate 1
          refine Stairs.that (SetS (trim v)) (by first | assumption | simp) ?_ ?_
          · intro x wR hR hd K hK
            simp only [Act.put, List.setIfInBounds_toArray, List.set_cons_zero, List.set_cons_succ, Nat.reduceAdd, List.length_nil, List.length_cons, List.nil_append, List.cons_append, Say.ok] at hK ⊢
            try simp [Region.binds, sayAt, List.getD_cons_zero, List.getD_cons_succ, Say.ok, Vl] at hd
            change Hid _ at hK
            obtain ⟨hcR, hfR, hzR⟩ := nwc hR
            first | (refine wanted_yes ?_ ?_; rfl) | (refine wanted_no ?_ ?_; rfl)
            go_wp2_with (first | (go_at_call_of 27 (Value.slice p1 s.length c1v); refine (HT1.out _ (hn0.trans (by repeat (first | assumption | exact Nw.refl _ | refine Nw.alloc ?_ _ | refine Nw.drew ?_ | refine Nw.drewN2 ?_ _ | (refine Nw.trans ?_ (by assumption)))))).mono ?_; rintro e w5 ⟨v5, rfl, hs5, hf5, hn5⟩) | (go_at_call 27; refine (HT2.out _ (hn0.trans (by repeat (first | assumption | exact Nw.refl _ | refine Nw.alloc ?_ _ | refine Nw.drew ?_ | refine Nw.drewN2 ?_ _ | (refine Nw.trans ?_ (by assumption)))))).mono ?_; rintro e w5 ⟨v5, rfl, hs5, hf5, hn5⟩) | (go_at_call_of 26 (Value.slice q1 ns.length d1); refine (HS1.out _ (hn0.trans (by repeat (first | assumption | exact Nw.refl _ | refine Nw.alloc ?_ _ | refine Nw.drew ?_ | refine Nw.drewN2 ?_ _ | (refine Nw.trans ?_ (by assumption))))) _ (by first | exact hd | exact hd.1 | exact hd.2 | exact hd.2.1 | exact hd.2.2 | exact hd.2.2.1 | exact hd.2.2.2 | (trace_state; done))).mono ?_; rintro e w5 ⟨rfl, hn5⟩) | (go_at_call 26; refine (HS2.out _ (hn0.trans (by repeat (first | assumption | exact Nw.refl _ | refine Nw.alloc ?_ _ | refine Nw.drew ?_ | refine Nw.drewN2 ?_ _ | (refine Nw.trans ?_ (by assumption))))) _ (by first | exact hd | exact hd.1 | exact hd.2 | exact hd.2.1 | exact hd.2.2 | exact hd.2.2.1 | exact hd.2.2.2 | (trace_state; done))).mono ?_; rintro e w5 ⟨rfl, hn5⟩))
            all_goals (refine hK.out _ _ ?_ ?_ <;> first | (solve | (repeat (first | assumption | exact Nw.refl _ | refine Nw.alloc ?_ _ | refine Nw.drew ?_ | refine Nw.drewN2 ?_ _ | (refine Nw.trans ?_ (by assumption))))) | exact rfl)
          try simp only [Act.put, List.setIfInBounds_toArray, List.set_cons_zero, List.set_cons_succ, Nat.reduceAdd, List.length_nil, List.length_cons, List.nil_append, List.cons_append]
        iterate 2
          refine Stairs.is ?_ ?_ ?_
          rotate_left 1
          · intro x wR hR hd K hK
            simp only [Act.put, List.setIfInBounds_toArray, List.set_cons_zero, List.set_cons_succ, Nat.reduceAdd, List.length_nil, List.length_cons, List.nil_append, List.cons_append, Say.ok] at hK ⊢
            try simp [Region.binds, sayAt, List.getD_cons_zero, List.getD_cons_succ, Say.ok, Vl] at hd
            change Hid _ at hK
            obtain ⟨hcR, hfR, hzR⟩ := nwc hR
            first | (refine wanted_yes ?_ ?_; rfl) | (refine wanted_no ?_ ?_; rfl)
            go_wp2_with (first | (go_at_call_of 27 (Value.slice p1 s.length c1v); refine (HT1.out _ (hn0.trans (by repeat (first | assumption | exact Nw.refl _ | refine Nw.alloc ?_ _ | refine Nw.drew ?_ | refine Nw.drewN2 ?_ _ | (refine Nw.trans ?_ (by assumption)))))).mono ?_; rintro e w5 ⟨v5, rfl, hs5, hf5, hn5⟩) | (go_at_call 27; refine (HT2.out _ (hn0.trans (by repeat (first | assumption | exact Nw.refl _ | refine Nw.alloc ?_ _ | refine Nw.drew ?_ | refine Nw.drewN2 ?_ _ | (refine Nw.trans ?_ (by assumption)))))).mono ?_; rintro e w5 ⟨v5, rfl, hs5, hf5, hn5⟩) | (go_at_call_of 26 (Value.slice q1 ns.length d1); refine (HS1.out _ (hn0.trans (by repeat (first | assumption | exact Nw.refl _ | refine Nw.alloc ?_ _ | refine Nw.drew ?_ | refine Nw.drewN2 ?_ _ | (refine Nw.trans ?_ (by assumption))))) _ (by first | exact hd | exact hd.1 | exact hd.2 | exact hd.2.1 | exact hd.2.2 | exact hd.2.2.1 | exact hd.2.2.2 | (trace_state; done))).mono ?_; rintro e w5 ⟨rfl, hn5⟩) | (go_at_call 26; refine (HS2.out _ (hn0.trans (by repeat (first | assumption | exact Nw.refl _ | refine Nw.alloc ?_ _ | refine Nw.drew ?_ | refine Nw.drewN2 ?_ _ | (refine Nw.trans ?_ (by assumption))))) _ (by first | exact hd | exact hd.1 | exact hd.2 | exact hd.2.1 | exact hd.2.2 | exact hd.2.2.1 | exact hd.2.2.2 | (trace_state; done))).mono ?_; rintro e w5 ⟨rfl, hn5⟩))
            all_goals (refine hK.out _ _ ?_ ?_ <;> first | (solve | (repeat (first | assumption | exact Nw.refl _ | refine Nw.alloc ?_ _ | refine Nw.drew ?_ | refine Nw.drewN2 ?_ _ | (refine Nw.trans ?_ (by assumption))))) | exact rfl)
          try simp only [Act.put, List.setIfInBounds_toArray, List.set_cons_zero, List.set_cons_succ, Nat.reduceAdd, List.length_nil, List.length_cons, List.nil_append, List.cons_append]
        refine Stairs.nil ?_
        intro x wR hR hx
        have h3 := hx 3 (by decide)
        simp only [sayAt, List.getD_cons_zero, List.getD_cons_succ, Say.ok, Vl] at h3
        have h9 := hx 9 (by decide)
        simp only [sayAt, List.getD_cons_zero, List.getD_cons_succ, Say.ok, Vl] at h9
        clear hx
        obtain ⟨hcR, hfR, hzR⟩ := nwc hR
        have hnn := hn0.trans hR
        cases b2 with
        | false =>
          obtain rfl : r = false := HH.out
          go_wp2
          go_roundw
          case rel => exact ⟨k + 1, by omega, by go_num, hid (HN.out (by first | exact trivial | rfl)), hnn⟩
          case measure => (simp [intOf] <;> omega)
        | true =>
          obtain rfl : r = true := HH.out
          go_wp2
          go_ret
          exact Gives.i (by rw [HY.out (by first | exact trivial | rfl), plc, if_pos hlt]) hnn
    · obtain rfl : k = l.length := by omega
      have hdk : decide (l.length < l.length) = false := decide_eq_false (by omega)
      have hF := hid (fnd_none hno.out)
      clear hno
      go_wp2
      go_ret
      exact Gives.i (by rw [hF.out, plc, if_neg (by omega)]) hn
end Mm
end Go.Proofs.Ythellicimicieaa
