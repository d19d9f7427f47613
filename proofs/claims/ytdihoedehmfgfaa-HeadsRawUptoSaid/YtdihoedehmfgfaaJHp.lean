/- Joined texts.
Two pools on one log, the program's and the reference's, in memory side by side. No condition but lengths.
The law's did: one call on both pools. No condition but lengths.
The law's did: Open, Clone. No condition but lengths.
The law's did: Next. No condition but lengths.
The law's did: Seek. No condition but lengths.
The law's did: Close. No condition but lengths.
The law's did. No condition but lengths.
The law's plays: what is asked of both pools between the calls. No condition but lengths.
-/
import Derived.Test.YtdihoedehmfgfaaJHz
import Derived.Test.YtdihoedehmfgfaaJHk
import Derived.Test.YtdihoedehmfgfaaJTa
import Derived.Deep.RegionLaw
set_option linter.unusedSimpArgs false
set_option linter.unusedVariables false
namespace Go.Proofs.Ytdihoedehmfgfaa
open Go.ChangeShapes Go.WideShapes Go.ChangeAt Go.RowKit
namespace Hp
open Go.Proofs.Ytdihoedehmfgfaa.Rec (none_ get i64s_open)
open Go.Proofs.Ytdihoedehmfgfaa.Tr (T Es tm ids lt_alloc)
open Go.Proofs.Ytdihoedehmfgfaa.Lg (EvIn)
/-- The blocks that the reference's pool is made of. -/
def KK (q : RCf) (vo va : Value) (k : Nat) : Prop := (q.B ≤ k ∧ k < q.w1.heap.size) ∨ RS q vo va k
/-- Both pools; X: blocks of the law's own that are kept. -/
def DP (W : World) (c : Cf) (q : RCf) (X : Nat → Prop) (hs : List (Option HS)) (pk : Int) (N : Nat) (ks : List (Option Nat)) (pr : Int) (vo va : Value) (ats : List Int) (w : World) : Prop :=
  HSq W (fun k => KK q vo va k ∨ X k) c hs pk N w ∧ RI q w ks vo va ats pr ∧ ∀ k, X k → ¬ RS q vo va k ∧ k < w.heap.size
section
variable {W w w' : World} {c : Cf} {q : RCf} {X : Nat → Prop} {hs hs' : List (Option HS)} {pk pk' pr : Int} {N : Nat} {ks : List (Option Nat)} {vo va : Value} {ats : List Int}
theorem DP.nw (h : DP W c q X hs pk N ks pr vo va ats w) (hn : Nw w w') : DP W c q X hs pk N ks pr vo va ats w' := ⟨h.1.nw hn, h.2.1.nw hn, fun k z => ⟨(h.2.2 k z).1, Nat.lt_of_lt_of_le (h.2.2 k z).2 hn.size⟩⟩
theorem DP.base (h : DP W c q X hs pk N ks pr vo va ats w) : Nw W w := h.1.base
theorem DP.more {M : Nat} (h : DP W c q X hs pk N ks pr vo va ats w) (hm : N ≤ M) : DP W c q X hs pk M ks pr vo va ats w := ⟨h.1.more hm, h.2⟩
theorem DP.less {Y : Nat → Prop} (h : DP W c q X hs pk N ks pr vo va ats w) (hy : ∀ k, Y k → X k) : DP W c q Y hs pk N ks pr vo va ats w :=
  ⟨h.1.less (fun k z => z.elim Or.inl (fun y => Or.inr (hy k y))), h.2.1, fun k z => h.2.2 k (hy k z)⟩
/-- A new block is kept besides. -/
theorem DP.keep (h : DP W c q X hs pk N ks pr vo va ats w) (hn : Nw w w') (g : Nat) (hg : w.heap.size ≤ g) (hg2 : g < w'.heap.size) : DP W c q (fun k => X k ∨ k = g) hs pk N ks pr vo va ats w' := by
  refine ⟨(h.1.keep hn g hg hg2).less (fun k z => ?_), h.2.1.nw hn, fun k z => ?_⟩
  · rcases z with z | z | z
    · exact Or.inl (Or.inl z)
    · exact Or.inl (Or.inr z)
    · exact Or.inr z
  · rcases z with z | rfl
    · exact ⟨(h.2.2 k z).1, Nat.lt_of_lt_of_le (h.2.2 k z).2 hn.size⟩
    · exact ⟨fun y => by have := (h.2.1.j.lt k y).2; omega, hg2⟩
theorem DP.turned {M : Nat} (h : DP W c q X hs pk N ks pr vo va ats w) (h2 : HSq W (fun k => KK q vo va k ∨ X k) c hs' pk' M w' ∧ Mods (fun k => ¬ (KK q vo va k ∨ X k)) w w') : DP W c q X hs' pk' M ks pr vo va ats w' ∧ Mods (fun k => ¬ X k) w w' :=
  ⟨⟨h2.1, h.2.1.mods h2.2 (fun k h1 h3 z => z (Or.inl (Or.inl ⟨h1, h3⟩))) (fun k hk z => z (Or.inl (Or.inr hk))), fun k z => ⟨(h.2.2 k z).1, Nat.lt_of_lt_of_le (h.2.2 k z).2 h2.2.size⟩⟩, h2.2.mono (fun k z y => z (Or.inr y))⟩
theorem DP.open (h : DP W c q X hs pk N ks pr vo va ats w) (hl : hs.length ≤ 90000) {id er : Int} (he : openP c.size hs pk (hs0 c.first) = ((hs', pk'), (id, er))) :
    Calls Try.prog 26 #[.pointer (some ⟨c.a, 0, none⟩)] w fun e w' => e = .returned (.tuple #[.int .i64 id, .int .i64 er]) ∧ DP W c q X hs' pk' N ks pr vo va ats w' ∧ Mods (fun k => ¬ X k) w w' := by
  have hD := h
  obtain ⟨⟨P, vh, rs, n, h1, rfl, h3, h4, h5, h6, h7⟩, hr⟩ := h
  refine (open_c h1 (by rw [← sts_length]; exact hl)).mono ?_
  rintro e w1 ⟨rfl, hp⟩
  rw [he] at hp ⊢
  exact ⟨rfl, hD.turned (HSq.po (M := N) h4 h5 h6 h7 (by
    obtain ⟨P', vh', rs', n', a1, a2, a3, a4, a5, a6⟩ := hp
    exact ⟨P', vh', rs', n', a1, a2, a3, a4, by omega, a6⟩))⟩
theorem DP.clone (h : DP W c q X hs pk N ks pr vo va ats w) (hl : hs.length ≤ 90000) {j id er : Int} (he : cloneP c.size hs pk j = ((hs', pk'), (id, er))) :
    Calls Try.prog 28 #[.pointer (some ⟨c.a, 0, none⟩), .int .i64 j] w fun e w' => e = .returned (.tuple #[.int .i64 id, .int .i64 er]) ∧ DP W c q X hs' pk' N ks pr vo va ats w' ∧ Mods (fun k => ¬ X k) w w' := by
  have hD := h
  obtain ⟨⟨P, vh, rs, n, h1, rfl, h3, h4, h5, h6, h7⟩, hr⟩ := h
  refine (clone_c h1 j (by rw [← sts_length]; exact hl)).mono ?_
  rintro e w1 ⟨rfl, hp⟩
  rw [he] at hp ⊢
  exact ⟨rfl, hD.turned (HSq.po (M := N) h4 h5 h6 h7 (by
    obtain ⟨P', vh', rs', n', a1, a2, a3, a4, a5, a6⟩ := hp
    exact ⟨P', vh', rs', n', a1, a2, a3, a4, by omega, a6⟩))⟩
theorem DP.close (h : DP W c q X hs pk N ks pr vo va ats w) {j : Int} {x : Bool} (he : closeP hs j = (hs', x)) :
    Calls Try.prog 27 #[.pointer (some ⟨c.a, 0, none⟩), .int .i64 j] w fun e w' => e = .returned (.bool x) ∧ DP W c q X hs' pk N ks pr vo va ats w' ∧ Mods (fun k => ¬ X k) w w' := by
  have hD := h
  obtain ⟨⟨P, vh, rs, n, h1, rfl, h3, h4, h5, h6, h7⟩, hr⟩ := h
  refine (close_c h1 j).mono ?_
  rintro e w1 ⟨rfl, hp⟩
  rw [he] at hp ⊢
  exact ⟨rfl, hD.turned (HSq.po (M := N) h4 h5 h6 h7 (by
    obtain ⟨P', vh', rs', n', a1, a2, a3, a4, a5, a6⟩ := hp
    exact ⟨P', vh', rs', n', a1, a2, a3, a4, by omega, a6⟩))⟩
theorem DP.next (h : DP W c q X hs pk N ks pr vo va ats w) (hl : hs.length ≤ 90000) (hN : N ≤ 1000000000000) {id t er : Int} {l : List Int} (he : nextP c.b c.r c.nm.length hs pk id = ((hs', pk'), ((t, l), er))) :
    Calls Try.prog 36 #[.pointer (some ⟨c.a, 0, none⟩), .int .i64 id] w fun e w' => ∃ v, e = .returned (.tuple #[.agg #[.int .u64 t, v], .int .i64 er]) ∧ Own w' w.heap.size 3 v (i64s l) ∧ DP W c q X hs' pk' (N + 100) ks pr vo va ats w' ∧ Mods (fun k => ¬ X k) w w' := by
  refine (HSq.nextO h.1 hl hN id he).mono ?_
  rintro e w1 ⟨v, rfl, hsl, hq⟩
  exact ⟨v, rfl, hsl, h.turned hq⟩
theorem DP.seek (h : DP W c q X hs pk N ks pr vo va ats w) (hl : hs.length ≤ 90000) (hN : N + 100 * (c.b.length + 2) ≤ 1000000000000) {id k er : Int} (hk : k ≤ 9223372036854775807) (he : seekP c.b c.r c.nm.length c.first hs pk id k = ((hs', pk'), er)) :
    Calls Try.prog 37 #[.pointer (some ⟨c.a, 0, none⟩), .int .i64 id, .int .i64 k] w fun e w' => e = .returned (.int .i64 er) ∧ DP W c q X hs' pk' (N + 100 * (c.b.length + 2)) ks pr vo va ats w' ∧ Mods (fun k => ¬ X k) w w' := by
  refine (HSq.seek h.1 hl hN id k hk he).mono ?_
  rintro e w1 ⟨rfl, hq⟩
  exact ⟨rfl, h.turned hq⟩
/-- The program's pool stays where the reference's blocks turn. -/
theorem HSq.turn {K K' S : Nat → Prop} (h : HSq W K c hs pk N w) (hm : Mods S w w') (hS : ∀ k, S k → K k ∧ c.s < k) (hT : ∀ k, S k → ∃ cs t, w.heap[k]? = some (.cells cs t (0, 0)) ∧ t ≠ 9) (hK : ∀ k, K' k → (K k ∨ w.heap.size ≤ k) ∧ k < w'.heap.size) : HSq W K' c hs pk N w' := by
  obtain ⟨P, vh, rs, n, h1, h2, h3, h4, h5, h6, h7⟩ := h
  refine ⟨P, vh, rs, n, h1.mods hm (fun k z => ⟨(hS k z).2, (h7 k (hS k z).1).1⟩) (fun k hk z => ?_), h2, h3, h4, h5, h6.ofMods hm (fun k z => Nat.le_trans h5 (Nat.le_of_lt (hS k z).2)), fun k z => ?_⟩
  · obtain ⟨_, q1⟩ := row_block h1.nms hk
    obtain ⟨_, t, q2, q3⟩ := hT k z
    exact type_ne q2 q1 q3 rfl
  · obtain ⟨z1, z2⟩ := hK k z
    rcases z1 with z1 | z1
    · exact ⟨(h7 k z1).1, (h7 k z1).2.1, z2⟩
    · exact ⟨fun y => by have := (h1.low k y).2; omega, fun y => by have := h1.src.lt; omega, z2⟩
/-- A call of the reference's. -/
theorem DP.ref {ks' : List (Option Nat)} {pr' : Int} (h : DP W c q X hs pk N ks pr vo va ats w) (hlow : c.s < q.B) (hB : q.B ≤ q.w1.heap.size) (hr : RO q vo va w ks' pr' w') : (∃ vo' va' ats', DP W c q X hs pk N ks' pr' vo' va' ats' w') ∧ Mods (fun k => ¬ X k) w w' := by
  obtain ⟨vo', va', ats', h1, h2, h3⟩ := hr
  refine ⟨⟨vo', va', ats', h.1.turn h2 (fun k z => ⟨Or.inl (Or.inr z), by have := (h.2.1.j.lt k z).1; omega⟩) (fun k z => ?_) (fun k z => ?_), h1, fun k z => ⟨fun y => ?_, Nat.lt_of_lt_of_le (h.2.2 k z).2 h2.size⟩⟩, h2.mono (fun k z y => (h.2.2 k y).1 z)⟩
  · rcases z with rfl | z | z
    · exact ⟨_, _, h.2.1.j.blk, by decide⟩
    · obtain ⟨_, q1⟩ := row_block h.2.1.j.op z
      exact ⟨_, _, q1, by decide⟩
    · obtain ⟨_, q1⟩ := row_block h.2.1.j.at_ z
      exact ⟨_, _, q1, by decide⟩
  · rcases z with (z | z) | z
    · exact ⟨Or.inl (Or.inl (Or.inl z)), Nat.lt_of_lt_of_le z.2 h1.j.fz.size⟩
    · refine ⟨?_, (h1.j.lt k z).2⟩
      rcases h3 k z with y | y
      · exact Or.inl (Or.inl (Or.inr y))
      · exact Or.inr y
    · exact ⟨Or.inl (Or.inr z), Nat.lt_of_lt_of_le (h.2.2 k z).2 h2.size⟩
  · rcases h3 k y with x | x
    · exact (h.2.2 k z).1 x
    · have := (h.2.2 k z).2; omega
end
/-! ### The two side by side, plain -/
def hsOf (es : Es) (pl : Nat → Nat) (ks : List (Option Nat)) : List (Option HS) := ks.map (Option.map (stA es pl))
section
variable {es : Es} {pl : Nat → Nat} {ks : List (Option Nat)}
theorem hsOf_len (es : Es) (pl : Nat → Nat) (ks : List (Option Nat)) : (hsOf es pl ks).length = ks.length := by simp [hsOf]
theorem hsOf_cnt (es : Es) (pl : Nat → Nat) (ks : List (Option Nat)) : cnt (hsOf es pl ks) = rcnt ks := by
  unfold cnt rcnt hsOf
  rw [List.countP_map]
  congr 1
  funext x
  cases x <;> rfl
theorem hsOf_cells (es : Es) (pl : Nat → Nat) (ks : List (Option Nat)) : cells (hsOf es pl ks) = rcells es ks := by
  unfold cells rcells hsOf
  rw [List.map_map]
  congr 1
  refine List.map_congr_left fun x _ => ?_
  cases x with
  | none => rfl
  | some k =>
    show 3 + (stA es pl k).ids.length = 3 + if k = 0 then 0 else (ids es (k - 1)).length
    cases k with
    | zero => rfl
    | succ k => rw [stA_succ, if_neg (by omega), Nat.add_sub_cancel]
theorem hsOf_fnd (es : Es) (pl : Nat → Nat) (ks : List (Option Nat)) (id : Int) : fnd (hsOf es pl ks) id = (fnd ks id).map (stA es pl) := by
  unfold fnd hsOf
  split
  · rw [List.getElem?_map]
    cases ks[id.toNat]? with
    | none => rfl
    | some x => cases x <;> rfl
  · rfl
theorem hsOf_put (es : Es) (pl : Nat → Nat) (ks : List (Option Nat)) (k : Nat) : put (hsOf es pl ks) (stA es pl k) = hsOf es pl (put ks k) := (put_map _ ks k).symm
theorem hsOf_free (es : Es) (pl : Nat → Nat) (ks : List (Option Nat)) : free (hsOf es pl ks) = free ks := free_map _ ks
theorem hsOf_set (es : Es) (pl : Nat → Nat) (ks : List (Option Nat)) (i : Nat) (x : Option Nat) : (hsOf es pl ks).set i (x.map (stA es pl)) = hsOf es pl (ks.set i x) := by
  unfold hsOf
  rw [List.map_set]
theorem open_two {size pk : Int} (hc : (rcnt ks : Int) ≤ size) (k : Nat) :
    openP size (hsOf es pl ks) pk (stA es pl k) = ((hsOf es pl (rnewP size es ks pk k).1.1, (rnewP size es ks pk k).1.2), (rnewP size es ks pk k).2) := by
  unfold openP rnewP
  rw [hsOf_cnt, hsOf_put, hsOf_cells, hsOf_free]
  by_cases h : (rcnt ks : Int) = size
  · rw [if_pos (by omega), if_pos h]
  · rw [if_neg (by omega), if_neg h]
theorem clone_two {size pk : Int} (hc : (rcnt ks : Int) ≤ size) (id : Int) :
    cloneP size (hsOf es pl ks) pk id = ((hsOf es pl (rcloneP size es ks pk id).1.1, (rcloneP size es ks pk id).1.2), (rcloneP size es ks pk id).2) := by
  unfold cloneP rcloneP
  rw [hsOf_fnd]
  cases fnd ks id with
  | none => rfl
  | some k => exact open_two hc k
theorem close_two (id : Int) : closeP (hsOf es pl ks) id = (hsOf es pl (rcloseP ks id).1, (rcloseP ks id).2) := by
  unfold closeP rcloseP
  rw [hsOf_fnd]
  cases fnd ks id with
  | none => rfl
  | some k => exact congrArg (·, true) (hsOf_set es pl ks _ none)
theorem next_two {b : List UInt8} {r : Nat} {p E pk : Int} (hl : LogD b r p es pl E) (hk : ∀ (i k : Nat), ks[i]? = some (some k) → k ≤ es.length) (id : Int) :
    nextP b r p (hsOf es pl ks) pk id = ((hsOf es pl (rnextP es E ks pk id).1.1, (rnextP es E ks pk id).1.2), (rnextP es E ks pk id).2) := by
  unfold nextP rnextP
  rw [hsOf_fnd]
  cases hx : fnd ks id with
  | none => rfl
  | some k =>
    obtain ⟨i, rfl, hi, hki⟩ := rfnd_mem hx
    have hke := hk i k hki
    dsimp only [Option.map]
    by_cases h : k = es.length
    · subst h
      rw [hl.stop, if_pos hl.ne, if_pos rfl]
    · rw [hl.step k (by omega), if_neg (fun z => z rfl), if_neg h]
      dsimp only
      rw [show some (stA es pl (k + 1)) = (some (k + 1)).map (stA es pl) from rfl, hsOf_set, hsOf_cells, stA_succ]
theorem seek_two {b : List UInt8} {r : Nat} {p E pk first : Int} (hl : LogD b r p es pl E) (hf : first = (pl 0 : Int)) (id k : Int) :
    seekP b r p first (hsOf es pl ks) pk id k = ((hsOf es pl (rseekP es E ks pk id k).1.1, (rseekP es E ks pk id k).1.2), (rseekP es E ks pk id k).2) := by
  unfold seekP rseekP
  rw [hsOf_fnd]
  cases fnd ks id with
  | none => rfl
  | some z =>
    dsimp only [Option.map]
    by_cases hk : k < 0
    · rw [if_pos hk, if_pos hk]
    · rw [if_neg hk, if_neg hk, hf, show hs0 (pl 0 : Int) = stA es pl 0 from rfl]
      by_cases h : (es.length : Int) < k
      · rw [hl.walk_end k.toNat (by omega), if_pos hl.ne, if_pos h]
      · rw [hl.walk k.toNat (by omega), if_neg (fun z => z rfl), if_neg h]
        dsimp only
        rw [show some (stA es pl k.toNat) = (some k.toNat).map (stA es pl) from rfl, hsOf_set, hsOf_cells]
end
end Hp
end Go.Proofs.Ytdihoedehmfgfaa
namespace Go.Proofs.Ytdihoedehmfgfaa
open Go.ChangeShapes Go.WideShapes Go.ChangeAt Go.RowKit
namespace Hp
open Go.Proofs.Ytdihoedehmfgfaa.Rec (none_ get i64s_open)
open Go.Proofs.Ytdihoedehmfgfaa.Tr (T Es tm ids lt_alloc box2 same_c)
open Go.Proofs.Ytdihoedehmfgfaa.Lg (EvIn)
/-- What does not change between the calls. -/
structure DX (c : Cf) (q : RCf) (pl : Nat → Nat) : Prop where
  log : LogD c.b c.r c.nm.length q.es pl q.E
  f0 : c.first = (pl 0 : Int)
  sz : c.size = q.size
  few : Few q.es
  bl : c.b.length ≤ 500000000
  low : c.s < q.B
  mid : q.B ≤ q.w1.heap.size
/-- Both pools between two calls. -/
def DI (W : World) (c : Cf) (q : RCf) (X : Nat → Prop) (pl : Nat → Nat) (N L : Nat) (ks : List (Option Nat)) (pk : Int) (w : World) : Prop :=
  ∃ vo va ats, DP W c q X (hsOf q.es pl ks) pk N ks pk vo va ats w ∧ (rcells q.es ks : Int) ≤ pk ∧ (rcnt ks : Int) ≤ q.size ∧ ks.length ≤ L
def stepK (es : Es) (E size : Int) (ks : List (Option Nat)) (pk : Int) (m id k : Int) : List (Option Nat) × Int :=
  if m = 0 then (rnewP size es ks pk 0).1 else if m = 1 then (rcloneP size es ks pk id).1 else if m = 2 then (rnextP es E ks pk id).1 else if m = 3 then (rseekP es E ks pk id k).1 else ((rcloseP ks id).1, pk)
theorem rcnt_set (ks : List (Option Nat)) (i : Nat) (x : Option Nat) (h : i < ks.length) : rcnt (ks.set i x) + (if (ks[i]).isSome then 1 else 0) = rcnt ks + (if x.isSome then 1 else 0) := by
  unfold rcnt
  rw [List.countP_set h]
  have : (if (ks[i]).isSome = true then 1 else 0) ≤ ks.countP Option.isSome := by
    split
    · rename_i hs
      exact List.countP_pos_iff.2 ⟨ks[i], List.getElem_mem _, hs⟩
    · exact Nat.zero_le _
  omega
theorem rcnt_put (ks : List (Option Nat)) (k : Nat) : rcnt (put ks k) = rcnt ks + 1 := by
  unfold put
  split
  · rename_i h
    have h2 := free_is ks h
    have := rcnt_set ks (free ks) (some k) h
    have e : ks[free ks] = none := by
      rw [List.getElem?_eq_getElem h] at h2
      exact Option.some.inj h2
    rw [e] at this
    simpa using this
  · unfold rcnt
    rw [List.countP_append]; rfl
theorem rcells_drop (es : Es) : ∀ (ks : List (Option Nat)) (i : Nat), rcells es (ks.set i none) ≤ rcells es ks
  | [], i => Nat.le_refl _
  | x :: r, 0 => by
    have e1 : rcells es (x :: r) = rcellOf es x + rcells es r := by simp [rcells]
    have e2 : rcells es ((x :: r).set 0 none) = rcells es r := by simp [rcells, rcellOf]
    omega
  | x :: r, i + 1 => by
    have := rcells_drop es r i
    have e1 : rcells es (x :: r) = rcellOf es x + rcells es r := by simp [rcells]
    have e2 : rcells es ((x :: r).set (i + 1) none) = rcellOf es x + rcells es (r.set i none) := by simp [rcells]
    omega
section
variable {es : Es} {E size pk : Int} {ks : List (Option Nat)}
/-- What a step keeps. -/
def Kept (es : Es) (size : Int) (L : Nat) (X : List (Option Nat) × Int) : Prop := (rcells es X.1 : Int) ≤ X.2 ∧ (rcnt X.1 : Int) ≤ size ∧ X.1.length ≤ L
theorem kept_new {L : Nat} (h : Kept es size L (ks, pk)) (k : Nat) : Kept es size (L + 1) (rnewP size es ks pk k).1 := by
  obtain ⟨h1, h2, h3⟩ := h
  dsimp only at h1 h2 h3
  unfold rnewP
  split
  · exact ⟨h1, h2, by dsimp only; omega⟩
  · refine ⟨?_, ?_, ?_⟩
    · dsimp only; omega
    · dsimp only; rw [rcnt_put]; omega
    · have := put_len ks k; dsimp only; omega
theorem kept_clone {L : Nat} (h : Kept es size L (ks, pk)) (id : Int) : Kept es size (L + 1) (rcloneP size es ks pk id).1 := by
  unfold rcloneP
  split
  · exact ⟨h.1, h.2.1, by have := h.2.2; dsimp only at this ⊢; omega⟩
  · exact kept_new h _
theorem rcnt_move {i k0 : Nat} (h : ks[i]? = some (some k0)) (k : Nat) : rcnt (ks.set i (some k)) = rcnt ks := by
  obtain ⟨hi, e⟩ := List.getElem?_eq_some_iff.1 h
  have := rcnt_set ks i (some k) hi
  rw [e] at this
  simpa using this
theorem kept_next {L : Nat} (h : Kept es size L (ks, pk)) (id : Int) : Kept es size (L + 1) (rnextP es E ks pk id).1 := by
  obtain ⟨h1, h2, h3⟩ := h
  dsimp only at h1 h2 h3
  unfold rnextP
  cases hx : fnd ks id with
  | none => exact ⟨h1, h2, by dsimp only; omega⟩
  | some k =>
    obtain ⟨i, rfl, hi, hki⟩ := rfnd_mem hx
    dsimp only
    split
    · exact ⟨h1, h2, by dsimp only; omega⟩
    · refine ⟨by dsimp only; omega, by dsimp only; rw [Int.toNat_natCast, rcnt_move hki]; exact h2, by dsimp only; rw [List.length_set]; omega⟩
theorem kept_seek {L : Nat} (h : Kept es size L (ks, pk)) (id k : Int) : Kept es size (L + 1) (rseekP es E ks pk id k).1 := by
  obtain ⟨h1, h2, h3⟩ := h
  dsimp only at h1 h2 h3
  unfold rseekP
  cases hx : fnd ks id with
  | none => exact ⟨h1, h2, by dsimp only; omega⟩
  | some k =>
    obtain ⟨i, rfl, hi, hki⟩ := rfnd_mem hx
    dsimp only
    split
    · exact ⟨h1, h2, by dsimp only; omega⟩
    · split
      · exact ⟨h1, h2, by dsimp only; omega⟩
      · refine ⟨by dsimp only; omega, by dsimp only; rw [Int.toNat_natCast, rcnt_move hki]; exact h2, by dsimp only; rw [List.length_set]; omega⟩
theorem kept_close {L : Nat} (h : Kept es size L (ks, pk)) (id : Int) : Kept es size (L + 1) ((rcloseP ks id).1, pk) := by
  obtain ⟨h1, h2, h3⟩ := h
  dsimp only at h1 h2 h3
  unfold rcloseP
  cases hx : fnd ks id with
  | none => exact ⟨h1, h2, by simp; omega⟩
  | some k =>
    obtain ⟨i, rfl, hi, hki⟩ := rfnd_mem hx
    have h4 := rcells_drop es ks i
    have h5 := rcnt_set ks i none hi
    simp only [Option.isSome_some, if_true, Int.toNat_natCast]
    refine ⟨by dsimp only; omega, ?_, by dsimp only; rw [List.length_set]; omega⟩
    dsimp only
    simp only [Option.isSome_none, Bool.false_eq_true, if_false, Nat.add_zero] at h5
    split at h5 <;> omega
end
theorem tmod5 (a : Int) (h : 0 ≤ a) : a.tmod 5 = a % 5 := Int.tmod_eq_emod_of_nonneg h
def ActV (x : Ha) : Value := .agg #[.int .u8 x.m, .int .i64 x.id, .int .i64 x.k]
section
variable {W w : World} {c : Cf} {q : RCf} {X : Nat → Prop} {pl : Nat → Nat} {N L : Nat} {ks : List (Option Nat)} {pk : Int}
end
end Hp
end Go.Proofs.Ytdihoedehmfgfaa
namespace Go.Proofs.Ytdihoedehmfgfaa
open Go.ChangeShapes Go.WideShapes Go.ChangeAt Go.RowKit
namespace Hp
open Go.Proofs.Ytdihoedehmfgfaa.Rec (none_ get i64s_open)
open Go.Proofs.Ytdihoedehmfgfaa.Tr (T Es tm ids lt_alloc box2 same_c)
open Go.Proofs.Ytdihoedehmfgfaa.Lg (EvIn)
section
variable {W w : World} {c : Cf} {q : RCf} {X : Nat → Prop} {pl : Nat → Nat} {N L : Nat} {ks : List (Option Nat)} {pk : Int}
set_option maxRecDepth 20000 in
set_option maxHeartbeats 1600000 in
theorem did0 (hx : DX c q pl) (h : DI W c q X pl N L ks pk w) (hL : L ≤ 80000) (hN : N + 100 * (c.b.length + 2) + 100 ≤ 1000000000000) (x : Ha) (hxo : HaOk x) (hr : x.m % 5 = 0) :
    Calls Try.prog 68 #[.pointer (some ⟨c.a, 0, none⟩), .pointer (some ⟨q.b, 0, none⟩), ActV x] w
      fun e w' => e = .returned (.bool true) ∧ DI W c q X pl (N + 100 * (c.b.length + 2) + 100) (L + 1) (stepK q.es q.E q.size ks pk (x.m % 5) x.id x.k).1 (stepK q.es q.E q.size ks pk (x.m % 5) x.id x.k).2 w' ∧ Mods (fun k => ¬ X k) w w' := by
  obtain ⟨m, id, k⟩ := x
  obtain ⟨hm, hidb, hk⟩ := hxo
  dsimp only at hm hidb hk ⊢
  unfold ActV
  dsimp only
  obtain ⟨vo, va, ats, hd, g1, g2, g3⟩ := h
  have HKP := hid (show Kept q.es q.size L (ks, pk) from ⟨g1, g2, g3⟩)
  have hlen : (hsOf q.es pl ks).length ≤ 90000 := by rw [hsOf_len]; omega
  have hl2 : ks.length ≤ 90000 := by omega
  have HX := hid hx
  have HFT := hid hd.2.1.fit
  -- the call's own block
  have hnA := (Nw.refl w).alloc (.cells #[.int .u8 m, .int .i64 id, .int .i64 k] 72)
  have y := heap_new w (.cells #[.int .u8 m, .int .i64 id, .int .i64 k] 72)
  have HDA := hid (hd.keep hnA w.heap.size (Nat.le_refl _) (lt_alloc _ _))
  clear hd
  obtain ⟨gA, hgA⟩ : ∃ gA, gA = w.heap.size := ⟨_, rfl⟩
  rw [hr]
  have hr2 : m.tmod 5 = 0 := by rw [tmod5 _ hm.1]; exact hr
  have he : openP c.size (hsOf q.es pl ks) pk (hs0 c.first) = ((hsOf q.es pl (rnewP q.size q.es ks pk 0).1.1, (rnewP q.size q.es ks pk 0).1.2), (rnewP q.size q.es ks pk 0).2) := by
    rw [HX.out.sz, HX.out.f0]; exact open_two g2 0
  have HK1 := hid (kept_new HKP.out 0)
  have HST := hid (show stepK q.es q.E q.size ks pk 0 id k = (rnewP q.size q.es ks pk 0).1 from if_pos rfl)
  have HRN := hid (fun w' (hd' : DP W c q (fun k => X k ∨ k = w.heap.size) (hsOf q.es pl (rnewP q.size q.es ks pk 0).1.1) (rnewP q.size q.es ks pk 0).1.2 N ks pk vo va ats w') => show Calls Try.prog 92 #[.pointer (some ⟨q.b, 0, none⟩), .int .i64 0] w' (RNewO q vo va w' (rnewP q.size q.es ks pk 0)) from rnew_c hd'.2.1 HX.out.few hl2 0 (Nat.zero_le _))
  unfold RNewO at HRN
  obtain ⟨⟨⟨ks1, pk1⟩, ⟨i1, e1⟩⟩, hXX⟩ : ∃ Y, rnewP q.size q.es ks pk 0 = Y := ⟨_, rfl⟩
  rw [hXX] at he HK1 HST HRN
  dsimp only at he HK1 HST HRN
  have HO := hid (fun w' hn => (HDA.out.nw (w' := w') hn).open hlen he)
  have HY := hid y
  clear he hXX y hgA hx g1 g2 g3
  go_enter Try.func68, Try.ntmps68
  go_wp2_with (first
    | (go_at_call 26; refine (HO.out _ (by repeat (first | assumption | exact Nw.refl _ | refine Nw.alloc ?_ _ | refine Nw.drew ?_ | refine Nw.drewN2 ?_ _ | (refine Nw.trans ?_ (by assumption))))).mono ?_; rintro e w1 ⟨rfl, hd1, hm1⟩; have yA := hm1.heap HY.out (fun z => z (Or.inr rfl)); have cA0 := heap_cell yA 0; have cA1 := heap_cell yA 1; have cA2 := heap_cell yA 2; have gA1 := lt_of_heap yA; simp only [List.getElem?_toArray, List.getElem?_cons_succ, List.getElem?_cons_zero] at cA0 cA1 cA2)
    | (go_at_call 92; refine (HRN.out _ hd1).mono ?_; rintro e w2 ⟨rfl, hro⟩)
    | fail)
  go_ret
  obtain ⟨⟨vo', va', ats', hd3⟩, hm3⟩ := DP.ref hd1 HX.out.low HX.out.mid hro
  rw [HST.out]
  first
    | exact ⟨rfl, ⟨vo', va', ats', (hd3.less (fun k z => Or.inl z)).more (by omega), HK1.out⟩, ((hnA.mods _).trans (hm1.mono (fun k z y => z (Or.inl y)))).trans (hm3.mono (fun k z y => z (Or.inl y)))⟩
    | exact ⟨rfl, ⟨vo', va', ats', (hd3.less (fun k z => Or.inl z)).more (by omega), HK1.out⟩, ((hnA.drew.mods _).trans (hm1.mono (fun k z y => z (Or.inl y)))).trans (hm3.mono (fun k z y => z (Or.inl y)))⟩
set_option maxRecDepth 20000 in
set_option maxHeartbeats 1600000 in
theorem did1 (hx : DX c q pl) (h : DI W c q X pl N L ks pk w) (hL : L ≤ 80000) (hN : N + 100 * (c.b.length + 2) + 100 ≤ 1000000000000) (x : Ha) (hxo : HaOk x) (hr : x.m % 5 = 1) :
    Calls Try.prog 68 #[.pointer (some ⟨c.a, 0, none⟩), .pointer (some ⟨q.b, 0, none⟩), ActV x] w
      fun e w' => e = .returned (.bool true) ∧ DI W c q X pl (N + 100 * (c.b.length + 2) + 100) (L + 1) (stepK q.es q.E q.size ks pk (x.m % 5) x.id x.k).1 (stepK q.es q.E q.size ks pk (x.m % 5) x.id x.k).2 w' ∧ Mods (fun k => ¬ X k) w w' := by
  obtain ⟨m, id, k⟩ := x
  obtain ⟨hm, hidb, hk⟩ := hxo
  dsimp only at hm hidb hk ⊢
  unfold ActV
  dsimp only
  obtain ⟨vo, va, ats, hd, g1, g2, g3⟩ := h
  have HKP := hid (show Kept q.es q.size L (ks, pk) from ⟨g1, g2, g3⟩)
  have hlen : (hsOf q.es pl ks).length ≤ 90000 := by rw [hsOf_len]; omega
  have hl2 : ks.length ≤ 90000 := by omega
  have HX := hid hx
  have HFT := hid hd.2.1.fit
  -- the call's own block
  have hnA := (Nw.refl w).alloc (.cells #[.int .u8 m, .int .i64 id, .int .i64 k] 72)
  have y := heap_new w (.cells #[.int .u8 m, .int .i64 id, .int .i64 k] 72)
  have HDA := hid (hd.keep hnA w.heap.size (Nat.le_refl _) (lt_alloc _ _))
  clear hd
  obtain ⟨gA, hgA⟩ : ∃ gA, gA = w.heap.size := ⟨_, rfl⟩
  rw [hr]
  have hr2 : m.tmod 5 = 1 := by rw [tmod5 _ hm.1]; exact hr
  have he : cloneP c.size (hsOf q.es pl ks) pk id = ((hsOf q.es pl (rcloneP q.size q.es ks pk id).1.1, (rcloneP q.size q.es ks pk id).1.2), (rcloneP q.size q.es ks pk id).2) := by
    rw [HX.out.sz]; exact clone_two g2 id
  have HK1 := hid (kept_clone HKP.out id)
  have HST := hid (show stepK q.es q.E q.size ks pk 1 id k = (rcloneP q.size q.es ks pk id).1 from rfl)
  have HRN := hid (fun w' (hd' : DP W c q (fun k => X k ∨ k = w.heap.size) (hsOf q.es pl (rcloneP q.size q.es ks pk id).1.1) (rcloneP q.size q.es ks pk id).1.2 N ks pk vo va ats w') => rclone_c hd'.2.1 HX.out.few hl2 id)
  unfold RNewO at HRN
  obtain ⟨⟨⟨ks1, pk1⟩, ⟨i1, e1⟩⟩, hXX⟩ : ∃ Y, rcloneP q.size q.es ks pk id = Y := ⟨_, rfl⟩
  rw [hXX] at he HK1 HST HRN
  dsimp only at he HK1 HST HRN
  have HO := hid (fun w' hn => (HDA.out.nw (w' := w') hn).clone hlen he)
  have HY := hid y
  clear he hXX y hgA hx g1 g2 g3
  go_enter Try.func68, Try.ntmps68
  go_wp2_with (first
    | (go_at_call 28; refine (HO.out _ (by repeat (first | assumption | exact Nw.refl _ | refine Nw.alloc ?_ _ | refine Nw.drew ?_ | refine Nw.drewN2 ?_ _ | (refine Nw.trans ?_ (by assumption))))).mono ?_; rintro e w1 ⟨rfl, hd1, hm1⟩; have yA := hm1.heap HY.out (fun z => z (Or.inr rfl)); have cA0 := heap_cell yA 0; have cA1 := heap_cell yA 1; have cA2 := heap_cell yA 2; have gA1 := lt_of_heap yA; simp only [List.getElem?_toArray, List.getElem?_cons_succ, List.getElem?_cons_zero] at cA0 cA1 cA2)
    | (go_at_call 93; refine (HRN.out _ hd1).mono ?_; rintro e w2 ⟨rfl, hro⟩)
    | fail)
  go_ret
  obtain ⟨⟨vo', va', ats', hd3⟩, hm3⟩ := DP.ref hd1 HX.out.low HX.out.mid hro
  rw [HST.out]
  first
    | exact ⟨rfl, ⟨vo', va', ats', (hd3.less (fun k z => Or.inl z)).more (by omega), HK1.out⟩, ((hnA.mods _).trans (hm1.mono (fun k z y => z (Or.inl y)))).trans (hm3.mono (fun k z y => z (Or.inl y)))⟩
    | exact ⟨rfl, ⟨vo', va', ats', (hd3.less (fun k z => Or.inl z)).more (by omega), HK1.out⟩, ((hnA.drew.mods _).trans (hm1.mono (fun k z y => z (Or.inl y)))).trans (hm3.mono (fun k z y => z (Or.inl y)))⟩
end
end Hp
end Go.Proofs.Ytdihoedehmfgfaa
namespace Go.Proofs.Ytdihoedehmfgfaa
open Go.ChangeShapes Go.WideShapes Go.ChangeAt Go.RowKit
namespace Hp
open Go.Proofs.Ytdihoedehmfgfaa.Rec (none_ get i64s_open)
open Go.Proofs.Ytdihoedehmfgfaa.Tr (T Es tm ids lt_alloc box2 same_c)
open Go.Proofs.Ytdihoedehmfgfaa.Lg (EvIn)
section
variable {W w : World} {c : Cf} {q : RCf} {X : Nat → Prop} {pl : Nat → Nat} {N L : Nat} {ks : List (Option Nat)} {pk : Int}
set_option maxRecDepth 20000 in
set_option maxHeartbeats 1600000 in
theorem did2 (hx : DX c q pl) (h : DI W c q X pl N L ks pk w) (hL : L ≤ 80000) (hN : N + 100 * (c.b.length + 2) + 100 ≤ 1000000000000) (x : Ha) (hxo : HaOk x) (hr : x.m % 5 = 2) :
    Calls Try.prog 68 #[.pointer (some ⟨c.a, 0, none⟩), .pointer (some ⟨q.b, 0, none⟩), ActV x] w
      fun e w' => e = .returned (.bool true) ∧ DI W c q X pl (N + 100 * (c.b.length + 2) + 100) (L + 1) (stepK q.es q.E q.size ks pk (x.m % 5) x.id x.k).1 (stepK q.es q.E q.size ks pk (x.m % 5) x.id x.k).2 w' ∧ Mods (fun k => ¬ X k) w w' := by
  obtain ⟨m, id, k⟩ := x
  obtain ⟨hm, hidb, hk⟩ := hxo
  dsimp only at hm hidb hk ⊢
  unfold ActV
  dsimp only
  obtain ⟨vo, va, ats, hd, g1, g2, g3⟩ := h
  have HKP := hid (show Kept q.es q.size L (ks, pk) from ⟨g1, g2, g3⟩)
  have hlen : (hsOf q.es pl ks).length ≤ 90000 := by rw [hsOf_len]; omega
  have hl2 : ks.length ≤ 90000 := by omega
  have HX := hid hx
  have HFT := hid hd.2.1.fit
  -- the call's own block
  have hnA := (Nw.refl w).alloc (.cells #[.int .u8 m, .int .i64 id, .int .i64 k] 72)
  have y := heap_new w (.cells #[.int .u8 m, .int .i64 id, .int .i64 k] 72)
  have HDA := hid (hd.keep hnA w.heap.size (Nat.le_refl _) (lt_alloc _ _))
  clear hd
  obtain ⟨gA, hgA⟩ : ∃ gA, gA = w.heap.size := ⟨_, rfl⟩
  rw [hr]
  have hr2 : m.tmod 5 = 2 := by rw [tmod5 _ hm.1]; exact hr
  have he := next_two (es := q.es) (ks := ks) (pk := pk) HX.out.log (fun i k h => (HFT.out i k h).2) id
  have HK1 := hid (kept_next (E := q.E) HKP.out id)
  have HST := hid (show stepK q.es q.E q.size ks pk 2 id k = (rnextP q.es q.E ks pk id).1 from rfl)
  have HRN := hid (fun w' (hd' : DP W c q (fun k => X k ∨ k = w.heap.size) (hsOf q.es pl (rnextP q.es q.E ks pk id).1.1) (rnextP q.es q.E ks pk id).1.2 (N + 100) ks pk vo va ats w') => rnext_c hd'.2.1 HX.out.few hl2 id)
  unfold RNxO at HRN
  obtain ⟨⟨⟨ks1, pk1⟩, ⟨⟨t1, l1⟩, e1⟩⟩, hXX⟩ : ∃ Y, rnextP q.es q.E ks pk id = Y := ⟨_, rfl⟩
  rw [hXX] at he HK1 HST HRN
  dsimp only at he HK1 HST HRN
  have HO := hid (fun w' hn => (HDA.out.nw (w' := w') hn).next hlen (by omega) he)
  have HLT := hid (fun k (z : RS q vo va k) => (HDA.out.2.1.j.lt k z).2)
  have HY := hid y
  clear he hXX y hgA hx g1 g2 g3
  go_enter Try.func68, Try.ntmps68
  go_upto_region 12 with (first
    | (go_at_call 36; refine (HO.out _ (by repeat (first | assumption | exact Nw.refl _ | refine Nw.alloc ?_ _ | refine Nw.drew ?_ | refine Nw.drewN2 ?_ _ | (refine Nw.trans ?_ (by assumption))))).mono ?_; rintro e w1 ⟨v1, rfl, ho1, hd1, hm1⟩; have yA := hm1.heap HY.out (fun z => z (Or.inr rfl)); have cA0 := heap_cell yA 0; have cA1 := heap_cell yA 1; have cA2 := heap_cell yA 2; have gA1 := lt_of_heap yA; simp only [List.getElem?_toArray, List.getElem?_cons_succ, List.getElem?_cons_zero] at cA0 cA1 cA2; obtain ⟨p1, c1, rfl, _⟩ := i64s_open ho1.sl)
    | fail)
  have yB := heap_new w1 (.cells #[.int .u64 t1, .slice p1 l1.length c1] 38)
  have hnB := (Nw.refl w1).alloc (.cells #[.int .u64 t1, .slice p1 l1.length c1] 38)
  have hd2 := hd1.nw hnB
  have hgB := hm1.size
  have HO1 := hid (ho1.nw hnB)
  have yA2 := hnB.heap yA
  have HM1 := hid (((hnA.mods _).trans (hm1.mono (fun k z y => z (Or.inl y)))).nw hnB)
  clear cA0 cA1 cA2 gA1 hd1 hm1 ho1 yA HO
  generalize w1.alloc (.cells #[.int .u64 t1, .slice p1 l1.length c1] 38) = w2 at *
  generalize w1.heap.size = gB at *
  have cA0 := heap_cell yA2 0
  have cA1 := heap_cell yA2 1
  have gA1 := lt_of_heap yA2
  simp only [List.getElem?_toArray, List.getElem?_cons_succ, List.getElem?_cons_zero] at cA0 cA1
  go_upto_region 13 with (first
    | (go_at_call 94; refine (HRN.out _ hd2).mono ?_; rintro e w3 ⟨v2, rfl, hs2, hro⟩; obtain ⟨p2, c2, rfl, _⟩ := i64s_open hs2)
    | fail)
  have HRO := hid hro
  obtain ⟨_, _, _, _, hm3, _⟩ := hro
  have yB3 := hm3.heap yB (fun z => by have := HLT.out _ z; omega)
  have HO3 := hid (HO1.out.modsR hm3 (fun k hk z => by have := HLT.out k z; have := HO1.out.lt k hk; omega))
  have yC := heap_new w3 (.cells #[.int .u64 t1, .slice p2 l1.length c2] 38)
  have hnC := (Nw.refl w3).alloc (.cells #[.int .u64 t1, .slice p2 l1.length c2] 38)
  have yB4 := hnC.heap yB3
  have HSA := hid (fun w' (hn : Nw (w3.alloc (.cells #[.int .u64 t1, .slice p2 l1.length c2] 38)) w') => show Calls Try.prog 24 #[.agg #[.int .u64 t1, .slice p1 l1.length c1], .agg #[.int .u64 t1, .slice p2 l1.length c2]] w' (Gives (.bool true) w') by
    have := same_c _ _ t1 t1 l1 l1 w' (HO3.out.sl.nw (hnC.trans hn)) (hs2.nw (hnC.trans hn))
    rwa [decide_eq_true ⟨rfl, rfl⟩] at this)
  have HNC := hid hnC
  clear yB yB3 hs2 hm3 hnC cA0 cA1 gA1 yA2 hgB
  generalize w3.alloc (.cells #[.int .u64 t1, .slice p2 l1.length c2] 38) = w4 at *
  generalize w3.heap.size = gC at *
  have cB0 := heap_cell yB4 0
  have cB1 := heap_cell yB4 1
  have gB1 := lt_of_heap yB4
  have cC0 := heap_cell yC 0
  have cC1 := heap_cell yC 1
  have gC1 := lt_of_heap yC
  simp only [List.getElem?_toArray, List.getElem?_cons_succ, List.getElem?_cons_zero] at cB0 cB1 cC0 cC1
  have HD2 := hid hd2
  clear yB4 yC hd2 hnA hlen hl2
  go_wp2_with (first
    | (go_at_call 24; refine (HSA.out _ (by repeat (first | assumption | exact Nw.refl _ | refine Nw.alloc ?_ _ | refine Nw.drew ?_ | refine Nw.drewN2 ?_ _ | (refine Nw.trans ?_ (by assumption))))).mono ?_; rintro e w5 ⟨rfl, hn5⟩)
    | fail)
  go_ret
  obtain ⟨⟨vo', va', ats', hd3⟩, hm3⟩ := DP.ref HD2.out HX.out.low HX.out.mid HRO.out
  rw [HST.out]
  have hnE := HNC.out.trans hn5
  exact ⟨rfl, ⟨vo', va', ats', ((hd3.nw hnE).less (fun k z => Or.inl z)).more (by omega), HK1.out⟩, (HM1.out.trans (hm3.mono (fun k z y => z (Or.inl y)))).nw hnE⟩
end
end Hp
end Go.Proofs.Ytdihoedehmfgfaa
namespace Go.Proofs.Ytdihoedehmfgfaa
open Go.ChangeShapes Go.WideShapes Go.ChangeAt Go.RowKit
namespace Hp
open Go.Proofs.Ytdihoedehmfgfaa.Rec (none_ get i64s_open)
open Go.Proofs.Ytdihoedehmfgfaa.Tr (T Es tm ids lt_alloc box2 same_c)
open Go.Proofs.Ytdihoedehmfgfaa.Lg (EvIn)
section
variable {W w : World} {c : Cf} {q : RCf} {X : Nat → Prop} {pl : Nat → Nat} {N L : Nat} {ks : List (Option Nat)} {pk : Int}
set_option maxRecDepth 20000 in
set_option maxHeartbeats 1600000 in
theorem did3 (hx : DX c q pl) (h : DI W c q X pl N L ks pk w) (hL : L ≤ 80000) (hN : N + 100 * (c.b.length + 2) + 100 ≤ 1000000000000) (x : Ha) (hxo : HaOk x) (hr : x.m % 5 = 3) :
    Calls Try.prog 68 #[.pointer (some ⟨c.a, 0, none⟩), .pointer (some ⟨q.b, 0, none⟩), ActV x] w
      fun e w' => e = .returned (.bool true) ∧ DI W c q X pl (N + 100 * (c.b.length + 2) + 100) (L + 1) (stepK q.es q.E q.size ks pk (x.m % 5) x.id x.k).1 (stepK q.es q.E q.size ks pk (x.m % 5) x.id x.k).2 w' ∧ Mods (fun k => ¬ X k) w w' := by
  obtain ⟨m, id, k⟩ := x
  obtain ⟨hm, hidb, hk⟩ := hxo
  dsimp only at hm hidb hk ⊢
  unfold ActV
  dsimp only
  obtain ⟨vo, va, ats, hd, g1, g2, g3⟩ := h
  have HKP := hid (show Kept q.es q.size L (ks, pk) from ⟨g1, g2, g3⟩)
  have hlen : (hsOf q.es pl ks).length ≤ 90000 := by rw [hsOf_len]; omega
  have hl2 : ks.length ≤ 90000 := by omega
  have HX := hid hx
  have HFT := hid hd.2.1.fit
  -- the call's own block
  have hnA := (Nw.refl w).alloc (.cells #[.int .u8 m, .int .i64 id, .int .i64 k] 72)
  have y := heap_new w (.cells #[.int .u8 m, .int .i64 id, .int .i64 k] 72)
  have HDA := hid (hd.keep hnA w.heap.size (Nat.le_refl _) (lt_alloc _ _))
  clear hd
  obtain ⟨gA, hgA⟩ : ∃ gA, gA = w.heap.size := ⟨_, rfl⟩
  rw [hr]
  have hr2 : m.tmod 5 = 3 := by rw [tmod5 _ hm.1]; exact hr
  have he := seek_two (es := q.es) (ks := ks) (pk := pk) HX.out.log HX.out.f0 id k
  have HK1 := hid (kept_seek (E := q.E) HKP.out id k)
  have HST := hid (show stepK q.es q.E q.size ks pk 3 id k = (rseekP q.es q.E ks pk id k).1 from rfl)
  have HRN := hid (fun w' (hd' : DP W c q (fun k => X k ∨ k = w.heap.size) (hsOf q.es pl (rseekP q.es q.E ks pk id k).1.1) (rseekP q.es q.E ks pk id k).1.2 (N + 100 * (c.b.length + 2)) ks pk vo va ats w') => rseek_c hd'.2.1 HX.out.few hl2 id k)
  obtain ⟨⟨⟨ks1, pk1⟩, e1⟩, hXX⟩ : ∃ Y, rseekP q.es q.E ks pk id k = Y := ⟨_, rfl⟩
  rw [hXX] at he HK1 HST HRN
  dsimp only at he HK1 HST HRN
  have HO := hid (fun w' hn => (HDA.out.nw (w' := w') hn).seek hlen (by omega) hk.2 he)
  have HY := hid y
  clear he hXX y hgA hx g1 g2 g3
  go_enter Try.func68, Try.ntmps68
  go_upto_region 15 with fail
  go_region_law (first
    | (go_simp; go_at_call 37; refine (HO.out _ (by repeat (first | assumption | exact Nw.refl _ | refine Nw.alloc ?_ _ | refine Nw.drew ?_ | refine Nw.drewN2 ?_ _ | (refine Nw.trans ?_ (by assumption))))).mono ?_; rintro e w1 ⟨rfl, hd1, hm1⟩; have yA := hm1.heap HY.out (fun z => z (Or.inr rfl)); have cA0 := heap_cell yA 0; have cA1 := heap_cell yA 1; have cA2 := heap_cell yA 2; have gA1 := lt_of_heap yA; simp only [List.getElem?_toArray, List.getElem?_cons_succ, List.getElem?_cons_zero] at cA0 cA1 cA2)
    | (go_simp; go_at_call 95; refine (HRN.out _ hd1).mono ?_; rintro e w2 ⟨rfl, hro⟩)
    | fail)
  all_goals
    go_wp2
    go_ret
    obtain ⟨⟨vo', va', ats', hd3⟩, hm3⟩ := DP.ref hd1 HX.out.low HX.out.mid hro
    rw [HST.out]
    first
      | exact ⟨rfl, ⟨vo', va', ats', (hd3.less (fun k z => Or.inl z)).more (by omega), HK1.out⟩, ((hnA.mods _).trans (hm1.mono (fun k z y => z (Or.inl y)))).trans (hm3.mono (fun k z y => z (Or.inl y)))⟩
      | exact ⟨rfl, ⟨vo', va', ats', (hd3.less (fun k z => Or.inl z)).more (by omega), HK1.out⟩, ((hnA.drew.mods _).trans (hm1.mono (fun k z y => z (Or.inl y)))).trans (hm3.mono (fun k z y => z (Or.inl y)))⟩
end
end Hp
end Go.Proofs.Ytdihoedehmfgfaa
namespace Go.Proofs.Ytdihoedehmfgfaa
open Go.ChangeShapes Go.WideShapes Go.ChangeAt Go.RowKit
namespace Hp
open Go.Proofs.Ytdihoedehmfgfaa.Rec (none_ get i64s_open)
open Go.Proofs.Ytdihoedehmfgfaa.Tr (T Es tm ids lt_alloc box2 same_c)
open Go.Proofs.Ytdihoedehmfgfaa.Lg (EvIn)
section
variable {W w : World} {c : Cf} {q : RCf} {X : Nat → Prop} {pl : Nat → Nat} {N L : Nat} {ks : List (Option Nat)} {pk : Int}
set_option maxRecDepth 20000 in
set_option maxHeartbeats 1600000 in
theorem did4 (hx : DX c q pl) (h : DI W c q X pl N L ks pk w) (hL : L ≤ 80000) (hN : N + 100 * (c.b.length + 2) + 100 ≤ 1000000000000) (x : Ha) (hxo : HaOk x) (hr : x.m % 5 = 4) :
    Calls Try.prog 68 #[.pointer (some ⟨c.a, 0, none⟩), .pointer (some ⟨q.b, 0, none⟩), ActV x] w
      fun e w' => e = .returned (.bool true) ∧ DI W c q X pl (N + 100 * (c.b.length + 2) + 100) (L + 1) (stepK q.es q.E q.size ks pk (x.m % 5) x.id x.k).1 (stepK q.es q.E q.size ks pk (x.m % 5) x.id x.k).2 w' ∧ Mods (fun k => ¬ X k) w w' := by
  obtain ⟨m, id, k⟩ := x
  obtain ⟨hm, hidb, hk⟩ := hxo
  dsimp only at hm hidb hk ⊢
  unfold ActV
  dsimp only
  obtain ⟨vo, va, ats, hd, g1, g2, g3⟩ := h
  have HKP := hid (show Kept q.es q.size L (ks, pk) from ⟨g1, g2, g3⟩)
  have hlen : (hsOf q.es pl ks).length ≤ 90000 := by rw [hsOf_len]; omega
  have hl2 : ks.length ≤ 90000 := by omega
  have HX := hid hx
  have HFT := hid hd.2.1.fit
  -- the call's own block
  have hnA := (Nw.refl w).alloc (.cells #[.int .u8 m, .int .i64 id, .int .i64 k] 72)
  have y := heap_new w (.cells #[.int .u8 m, .int .i64 id, .int .i64 k] 72)
  have HDA := hid (hd.keep hnA w.heap.size (Nat.le_refl _) (lt_alloc _ _))
  clear hd
  obtain ⟨gA, hgA⟩ : ∃ gA, gA = w.heap.size := ⟨_, rfl⟩
  rw [hr]
  have hr2 : m.tmod 5 = 4 := by rw [tmod5 _ hm.1]; exact hr
  have he := close_two (es := q.es) (pl := pl) (ks := ks) id
  have HK1 := hid (kept_close (es := q.es) HKP.out id)
  have HST := hid (show stepK q.es q.E q.size ks pk 4 id k = ((rcloseP ks id).1, pk) from rfl)
  have HRN := hid (fun w' (hd' : DP W c q (fun k => X k ∨ k = w.heap.size) (hsOf q.es pl (rcloseP ks id).1) pk N ks pk vo va ats w') => rclose_c hd'.2.1 id)
  obtain ⟨⟨ks1, e1⟩, hXX⟩ : ∃ Y, rcloseP ks id = Y := ⟨_, rfl⟩
  rw [hXX] at he HK1 HST HRN
  dsimp only at he HK1 HST HRN
  have HO := hid (fun w' hn => (HDA.out.nw (w' := w') hn).close he)
  have HY := hid y
  clear he hXX y hgA hx g1 g2 g3
  go_enter Try.func68, Try.ntmps68
  go_upto_region 16 with fail
  go_region_law (first
    | (go_simp; go_at_call 27; refine (HO.out _ (by repeat (first | assumption | exact Nw.refl _ | refine Nw.alloc ?_ _ | refine Nw.drew ?_ | refine Nw.drewN2 ?_ _ | (refine Nw.trans ?_ (by assumption))))).mono ?_; rintro e w1 ⟨rfl, hd1, hm1⟩; have yA := hm1.heap HY.out (fun z => z (Or.inr rfl)); have cA0 := heap_cell yA 0; have cA1 := heap_cell yA 1; have cA2 := heap_cell yA 2; have gA1 := lt_of_heap yA; simp only [List.getElem?_toArray, List.getElem?_cons_succ, List.getElem?_cons_zero] at cA0 cA1 cA2)
    | (go_simp; go_at_call 96; refine (HRN.out _ hd1).mono ?_; rintro e w2 ⟨rfl, hro⟩)
    | fail)
  all_goals
    go_wp2
    go_ret
    obtain ⟨⟨vo', va', ats', hd3⟩, hm3⟩ := DP.ref hd1 HX.out.low HX.out.mid hro
    rw [HST.out]
    first
      | exact ⟨rfl, ⟨vo', va', ats', (hd3.less (fun k z => Or.inl z)).more (by omega), HK1.out⟩, ((hnA.mods _).trans (hm1.mono (fun k z y => z (Or.inl y)))).trans (hm3.mono (fun k z y => z (Or.inl y)))⟩
      | exact ⟨rfl, ⟨vo', va', ats', (hd3.less (fun k z => Or.inl z)).more (by omega), HK1.out⟩, ((hnA.drew.mods _).trans (hm1.mono (fun k z y => z (Or.inl y)))).trans (hm3.mono (fun k z y => z (Or.inl y)))⟩
end
end Hp
end Go.Proofs.Ytdihoedehmfgfaa
namespace Go.Proofs.Ytdihoedehmfgfaa
open Go.ChangeShapes Go.WideShapes Go.ChangeAt Go.RowKit
namespace Hp
open Go.Proofs.Ytdihoedehmfgfaa.Rec (none_ get i64s_open)
open Go.Proofs.Ytdihoedehmfgfaa.Tr (T Es tm ids lt_alloc box2 same_c)
open Go.Proofs.Ytdihoedehmfgfaa.Lg (EvIn)
section
variable {W w : World} {c : Cf} {q : RCf} {X : Nat → Prop} {pl : Nat → Nat} {N L : Nat} {ks : List (Option Nat)} {pk : Int}
theorem did_c (hx : DX c q pl) (h : DI W c q X pl N L ks pk w) (hL : L ≤ 80000) (hN : N + 100 * (c.b.length + 2) + 100 ≤ 1000000000000) (x : Ha) (hxo : HaOk x) :
    Calls Try.prog 68 #[.pointer (some ⟨c.a, 0, none⟩), .pointer (some ⟨q.b, 0, none⟩), ActV x] w
      fun e w' => e = .returned (.bool true) ∧ DI W c q X pl (N + 100 * (c.b.length + 2) + 100) (L + 1) (stepK q.es q.E q.size ks pk (x.m % 5) x.id x.k).1 (stepK q.es q.E q.size ks pk (x.m % 5) x.id x.k).2 w' ∧ Mods (fun k => ¬ X k) w w' := by
  have hr5 : x.m % 5 = 0 ∨ x.m % 5 = 1 ∨ x.m % 5 = 2 ∨ x.m % 5 = 3 ∨ x.m % 5 = 4 := by have := hxo.m; omega
  rcases hr5 with hr | hr | hr | hr | hr
  · exact did0 hx h hL hN x hxo hr
  · exact did1 hx h hL hN x hxo hr
  · exact did2 hx h hL hN x hxo hr
  · exact did3 hx h hL hN x hxo hr
  · exact did4 hx h hL hN x hxo hr
end
end Hp
end Go.Proofs.Ytdihoedehmfgfaa
namespace Go.Proofs.Ytdihoedehmfgfaa
open Go.ChangeShapes Go.WideShapes Go.ChangeAt Go.RowKit
namespace Hp
open Go.Proofs.Ytdihoedehmfgfaa.Rec (none_ get i64s_open)
open Go.Proofs.Ytdihoedehmfgfaa.Sc (miss)
open Go.Proofs.Ytdihoedehmfgfaa.Src (rt rt_le)
open Go.Proofs.Ytdihoedehmfgfaa.Tr (T Es tm ids lt_alloc eqs_c)
open Go.Proofs.Ytdihoedehmfgfaa.Lg (headR EvIn)
section
variable {W w w' : World} {c : Cf} {q : RCf} {X : Nat → Prop} {pl : Nat → Nat} {N L : Nat} {ks : List (Option Nat)} {pk : Int}
theorem DI.nw (h : DI W c q X pl N L ks pk w) (hn : Nw w w') : DI W c q X pl N L ks pk w' := by
  obtain ⟨vo, va, ats, h1, h2⟩ := h
  exact ⟨vo, va, ats, h1.nw hn, h2⟩
theorem DI.base (h : DI W c q X pl N L ks pk w) : Nw W w := by
  obtain ⟨vo, va, ats, h1, h2⟩ := h
  exact h1.base
theorem DI.less {Y : Nat → Prop} (h : DI W c q X pl N L ks pk w) (hy : ∀ k, Y k → X k) : DI W c q Y pl N L ks pk w := by
  obtain ⟨vo, va, ats, h1, h2⟩ := h
  exact ⟨vo, va, ats, h1.less hy, h2⟩
theorem DI.more {M : Nat} (h : DI W c q X pl N L ks pk w) (hm : N ≤ M) : DI W c q X pl M L ks pk w := by
  obtain ⟨vo, va, ats, h1, h2⟩ := h
  exact ⟨vo, va, ats, h1.more hm, h2⟩
theorem DI.keep (h : DI W c q (fun _ => False) pl N L ks pk w) (hn : Nw w w') (g : Nat) (hg : w.heap.size ≤ g) (hg2 : g < w'.heap.size) : DI W c q (fun k => k = g) pl N L ks pk w' := by
  obtain ⟨vo, va, ats, h1, h2⟩ := h
  exact ⟨vo, va, ats, (h1.keep hn g hg hg2).less (fun k z => Or.inr z), h2⟩
theorem DI.count (h : DI W c q X pl N L ks pk w) {m : Int} (hm : (rcnt ks : Int) = m) : Calls Try.prog 29 #[.pointer (some ⟨c.a, 0, none⟩)] w fun e w' => e = .returned (.int .i64 m) ∧ w = w' := by
  obtain ⟨vo, va, ats, h1, h2⟩ := h
  exact h1.1.st.count (by rw [hsOf_cnt]; exact hm)
theorem DI.rcount (h : DI W c q X pl N L ks pk w) {m : Int} (hm : (rcnt ks : Int) = m) : Calls Try.prog 69 #[.pointer (some ⟨q.b, 0, none⟩)] w fun e w' => e = .returned (.int .i64 m) ∧ w = w' := by
  obtain ⟨vo, va, ats, h1, h2⟩ := h
  subst hm
  exact rcount_c h1.2.1
theorem DI.cells (h : DI W c q X pl N L ks pk w) (hL : L ≤ 80000) {m : Int} (hm : (rcells q.es ks : Int) = m) : Calls Try.prog 30 #[.pointer (some ⟨c.a, 0, none⟩)] w fun e w' => e = .returned (.int .i64 m) ∧ w = w' := by
  obtain ⟨vo, va, ats, h1, h2, h3, h4⟩ := h
  exact h1.1.st.cells (by rw [hsOf_len]; omega) (by rw [hsOf_cells]; exact hm)
theorem Nw.ofOne {b : Nat} {o : Obj} (h : Mods (· = b) w w') (h1 : w.heap[b]? = some o) (h2 : w'.heap[b]? = some o) : Nw w w' := by
  refine ⟨h.os, h.tape, h.output, h.size, fun k hk => ?_⟩
  by_cases hb : k = b
  · rw [hb, h1, h2]
  · exact h.block k hk hb
theorem DI.rcells (h : DI W c q X pl N L ks pk w) (hf : Few q.es) (hL : L ≤ 80000) {m : Int} (hm : (rcells q.es ks : Int) = m) : Calls Try.prog 70 #[.pointer (some ⟨q.b, 0, none⟩)] w fun e w' => e = .returned (.int .i64 m) ∧ Nw w w' := by
  obtain ⟨vo, va, ats, h1, h2, h3, h4⟩ := h
  subst hm
  refine (rcells_c h1.2.1 hf (by omega)).mono ?_
  rintro e w1 ⟨rfl, hri, hm⟩
  rw [show max pk (Hp.rcells q.es ks : Int) = pk by omega] at hri
  exact ⟨rfl, Nw.ofOne hm h1.2.1.j.blk hri.j.blk⟩
theorem DI.peaks (h : DI W c q X pl N L ks pk w) : Calls Try.prog 32 #[.pointer (some ⟨c.a, 0, none⟩)] w fun e w' => e = .returned (.int .i64 pk) ∧ w = w' := by
  obtain ⟨vo, va, ats, h1, h2⟩ := h
  exact h1.1.st.peaks
theorem DI.idx (h : DI W c q X pl N L ks pk w) (id : Int) : Calls Try.prog 31 #[.pointer (some ⟨c.a, 0, none⟩), .int .i64 id] w fun e w' => e = .returned (.tuple #[.int .i64 ((fnd ks id).elim 0 (fun k => (k : Int))), .bool (fnd ks id).isSome]) ∧ w = w' := by
  obtain ⟨vo, va, ats, h1, h2⟩ := h
  have := h1.1.st.idx id
  rw [hsOf_fnd] at this
  cases hx : fnd ks id with
  | none => rw [hx] at this; exact this
  | some k =>
    rw [hx] at this
    dsimp only [Option.map, Option.elim, Option.isSome] at this ⊢
    rw [stA_idx] at this
    exact this
theorem DI.has (h : DI W c q X pl N L ks pk w) (id : Int) : Calls Try.prog 71 #[.pointer (some ⟨q.b, 0, none⟩), .int .i64 id] w fun e w' => e = .returned (.bool (fnd ks id).isSome) ∧ w = w' := by
  obtain ⟨vo, va, ats, h1, h2⟩ := h
  exact has_c h1.2.1 id
/-- Where the reference's heads stand, in memory. -/
theorem DI.ats (h : DI W c q X pl N L ks pk w) : ∃ vn ve vo va ats, w.heap[q.b]? = some (.cells #[vn, ve, .int .i64 q.E, .int .i64 q.size, vo, va, .int .i64 pk] 121 (0, 0)) ∧ Sl w va (i64s ats) ∧ ats.length = ks.length ∧ ∀ (i k : Nat), ks[i]? = some (some k) → ats[i]? = some (k : Int) := by
  obtain ⟨vo, va, ats, h1, h2⟩ := h
  exact ⟨_, _, _, _, ats, h1.2.1.j.blk, h1.2.1.j.at_.sl, h1.2.1.len, fun i k hx => (h1.2.1.fit i k hx).1⟩
/-- Both pools are new. -/
theorem two_made {w1 w2 : World} (hh : HSt W c [] 0 2000 w1) (hq : RI q w2 [] (.slice none 0 0) (.slice none 0 0) [] 0) (hB : w1.heap.size ≤ q.B) (hm : q.B ≤ q.w1.heap.size) (hn : Nw w1 w2) (hs : 0 ≤ q.size) : DI W c q (fun _ => False) pl 2000 0 [] 0 w2 ∧ c.s < q.B := by
  obtain ⟨P, vh, rs, n, h1, h2, h3, h4, h5, h6⟩ := hh
  have hlt := h1.src.lt
  have hw2 := hq.j.fz.size
  refine ⟨⟨_, _, _, ⟨⟨P, vh, rs, n, h1.nw hn, h2, h3, h4, h5, h6.trans hn, fun k z => ?_⟩, hq, fun k z => z.elim⟩, ?_, hs, Nat.le_refl _⟩, by omega⟩
  · rcases z with (z | z) | z
    · exact ⟨fun y => by have := (h1.low k y).2; omega, by omega, by omega⟩
    · have := hq.j.lt k z
      exact ⟨fun y => by have := (h1.low k y).2; omega, by omega, this.2⟩
    · exact z.elim
  · exact Int.le_refl _
end
end Hp
end Go.Proofs.Ytdihoedehmfgfaa
