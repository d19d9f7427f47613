/- The contracts of the law's tells, great and awake. No condition but lengths. -/
import Derived.Test.YtdihoedehmfgfaaTrJ
set_option linter.unusedSimpArgs false
set_option linter.unusedVariables false
namespace Go.Proofs.Ytdihoedehmfgfaa
open Go.ChangeShapes Go.WideShapes Go.ChangeAt Go.RowKit
namespace Tr
open Go.Proofs.Ytdihoedehmfgfaa.Lx (isIn nameB strs_open strs_cell contains_c)
open Go.Proofs.Ytdihoedehmfgfaa.Rec (rises i64s_open i64_cell)
def ReadsT (t : T) : Says := fun w v => TrR w v t
/-! ### great -/
def greatB (t : T) : Bool := decide (200 < t.names.length) || (decide (200 < t.evs.length) || (List.range t.evs.length).any fun i => decide (200 < (ids t.evs i).length))
def greatP (t : T) : Int := if greatB t = true then 1 else 0
theorem great_at {t : T} {k : Nat} (h : k < t.evs.length) (h2 : 200 < (ids t.evs k).length) : greatP t = 1 := by
  unfold greatP
  rw [if_pos]
  unfold greatB
  rw [List.any_eq_true.2 ⟨k, List.mem_range.2 h, decide_eq_true h2⟩]
  simp
theorem great_no {t : T} (h1 : ¬ 200 < t.names.length) (h2 : ¬ 200 < t.evs.length) (h3 : ∀ j, j < t.evs.length → (ids t.evs j).length ≤ 200) : greatP t = 0 := by
  unfold greatP
  rw [if_neg]
  unfold greatB
  rw [decide_eq_false h1, decide_eq_false h2]
  simp only [Bool.false_or, List.any_eq_true, List.mem_range, decide_eq_true_eq, not_exists, not_and]
  intro j hj
  have := h3 j hj
  omega
/-! ### awake -/
def aw : T := ⟨[⟨#[112]⟩, ⟨#[113]⟩], [(3, [1])]⟩
theorem aw_small : Small aw := by
  refine ⟨by decide, by decide, fun i hi => ?_, fun s hs => ?_⟩
  · match i, hi with
    | 0, _ => decide
  · simp only [aw, List.mem_cons, List.not_mem_nil, or_false] at hs
    rcases hs with rfl | rfl <;> decide
theorem size_alloc (w : World) (o : Obj) : (w.alloc o).heap.size = w.heap.size + 1 := by
  show (w.heap.push _).size = _
  rw [Array.size_push]
theorem aw_reads (w : World) : Sl ((((w.alloc (.cells #[.string ⟨#[112]⟩, .string ⟨#[113]⟩] 9)).alloc (.cells #[.int .i64 1] 3)).alloc (.cells #[.int .u64 3, .slice (some ⟨w.heap.size + 1, 0, none⟩) 1 1] 38)).alloc (.cells #[.slice (some ⟨w.heap.size, 0, none⟩) 2 2, .slice (some ⟨w.heap.size + 1 + 1, 0, none⟩) 1 1] 34)) (.slice (some ⟨w.heap.size, 0, none⟩) 2 2) (Lx.strs aw.names) ∧
    Evs ((((w.alloc (.cells #[.string ⟨#[112]⟩, .string ⟨#[113]⟩] 9)).alloc (.cells #[.int .i64 1] 3)).alloc (.cells #[.int .u64 3, .slice (some ⟨w.heap.size + 1, 0, none⟩) 1 1] 38)).alloc (.cells #[.slice (some ⟨w.heap.size, 0, none⟩) 2 2, .slice (some ⟨w.heap.size + 1 + 1, 0, none⟩) 1 1] 34)) (.slice (some ⟨w.heap.size + 1 + 1, 0, none⟩) 1 1) aw.evs ∧
    Nw w ((((w.alloc (.cells #[.string ⟨#[112]⟩, .string ⟨#[113]⟩] 9)).alloc (.cells #[.int .i64 1] 3)).alloc (.cells #[.int .u64 3, .slice (some ⟨w.heap.size + 1, 0, none⟩) 1 1] 38)).alloc (.cells #[.slice (some ⟨w.heap.size, 0, none⟩) 2 2, .slice (some ⟨w.heap.size + 1 + 1, 0, none⟩) 1 1] 34)) ∧
    ((((w.alloc (.cells #[.string ⟨#[112]⟩, .string ⟨#[113]⟩] 9)).alloc (.cells #[.int .i64 1] 3)).alloc (.cells #[.int .u64 3, .slice (some ⟨w.heap.size + 1, 0, none⟩) 1 1] 38)).alloc (.cells #[.slice (some ⟨w.heap.size, 0, none⟩) 2 2, .slice (some ⟨w.heap.size + 1 + 1, 0, none⟩) 1 1] 34)).cell? ⟨w.heap.size + 1 + 1 + 1, 0, none⟩ = some (.slice (some ⟨w.heap.size, 0, none⟩) 2 2) ∧
    ((((w.alloc (.cells #[.string ⟨#[112]⟩, .string ⟨#[113]⟩] 9)).alloc (.cells #[.int .i64 1] 3)).alloc (.cells #[.int .u64 3, .slice (some ⟨w.heap.size + 1, 0, none⟩) 1 1] 38)).alloc (.cells #[.slice (some ⟨w.heap.size, 0, none⟩) 2 2, .slice (some ⟨w.heap.size + 1 + 1, 0, none⟩) 1 1] 34)).cell? ⟨w.heap.size + 1 + 1 + 1, 1, none⟩ = some (.slice (some ⟨w.heap.size + 1 + 1, 0, none⟩) 1 1) := by
  have s1 := Sl.newAt w (Lx.strs aw.names) 9 (0, 0) w.heap.size 2 rfl rfl (by decide)
  have z1 := size_alloc w (.cells #[.string ⟨#[112]⟩, .string ⟨#[113]⟩] 9)
  change Sl (w.alloc (.cells #[.string ⟨#[112]⟩, .string ⟨#[113]⟩] 9)) _ _ at s1
  have n1 := (Nw.refl w).alloc (.cells #[.string ⟨#[112]⟩, .string ⟨#[113]⟩] 9)
  generalize w.alloc (.cells #[.string ⟨#[112]⟩, .string ⟨#[113]⟩] 9) = w1 at *
  have s2 := Sl.newAt w1 [.int .i64 1] 3 (0, 0) (w.heap.size + 1) 1 z1.symm rfl (by decide)
  change Sl (w1.alloc (.cells #[.int .i64 1] 3)) _ _ at s2
  have z2 := size_alloc w1 (.cells #[.int .i64 1] 3)
  have n2 := (Nw.refl w1).alloc (.cells #[.int .i64 1] 3)
  generalize w1.alloc (.cells #[.int .i64 1] 3) = w2 at *
  rw [z1] at z2
  have b3 := box2 w2 (.int .u64 3) (.slice (some ⟨w.heap.size + 1, 0, none⟩) 1 1) 38
  have z3 := size_alloc w2 (.cells #[.int .u64 3, .slice (some ⟨w.heap.size + 1, 0, none⟩) 1 1] 38)
  have n3 := (Nw.refl w2).alloc (.cells #[.int .u64 3, .slice (some ⟨w.heap.size + 1, 0, none⟩) 1 1] 38)
  generalize w2.alloc (.cells #[.int .u64 3, .slice (some ⟨w.heap.size + 1, 0, none⟩) 1 1] 38) = w3 at *
  rw [z2] at z3 b3
  have b4 := box2 w3 (.slice (some ⟨w.heap.size, 0, none⟩) 2 2) (.slice (some ⟨w.heap.size + 1 + 1, 0, none⟩) 1 1) 34
  have n4 := (Nw.refl w3).alloc (.cells #[.slice (some ⟨w.heap.size, 0, none⟩) 2 2, .slice (some ⟨w.heap.size + 1 + 1, 0, none⟩) 1 1] 34)
  generalize w3.alloc (.cells #[.slice (some ⟨w.heap.size, 0, none⟩) 2 2, .slice (some ⟨w.heap.size + 1 + 1, 0, none⟩) 1 1] 34) = w4 at *
  rw [z3] at b4
  refine ⟨s1.nw (n2.trans (n3.trans n4)), ⟨_, _, rfl, by decide, by decide, (fun h => by cases h), fun i hi => ?_⟩, n1.trans (n2.trans (n3.trans n4)), b4.1, b4.2⟩
  match i, hi with
  | 0, _ => exact ⟨_, 0, _, rfl, n4.cell b3.1, n4.cell b3.2, s2.nw (n3.trans n4)⟩
end Tr
end Go.Proofs.Ytdihoedehmfgfaa
