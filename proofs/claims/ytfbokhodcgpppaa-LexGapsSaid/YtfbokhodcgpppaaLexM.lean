/- A name's tokens; LexNames walked. No condition but lengths. -/
import Derived.Test.YtfbokhodcgpppaaLexL
namespace Go.Proofs.Ytfbokhodcgpppaa
open Go.ChangeShapes Go.WideShapes Go.ChangeAt Go.RowKit
namespace Lx
theorem sm_not_blank {x : UInt8} (h : sm x = true) : ¬ (x = 32 ∨ x = 10) := by
  rintro (rfl | rfl) <;> exact absurd h (by decide)
/-- A name is one word, whole. -/
theorem name_lex (bs : List UInt8) (h : nameB bs = true) : lexP bs = ([⟨1, bs, 0, 0⟩, ⟨0, [], 0, bs.length⟩], 0, 0) := by
  unfold nameB at h
  simp only [Bool.and_eq_true, decide_eq_true_eq] at h
  obtain ⟨h0, h16, hs, hf, _⟩ := h
  obtain ⟨x, r, rfl⟩ : ∃ x r, bs = x :: r := by
    cases bs with
    | nil => simp at h0
    | cons x r => exact ⟨x, r, rfl⟩
  have hx : (x :: r)[0]? = some x := rfl
  have hs' : sm x = true := hs
  have ht : tokAt (x :: r) 0 x = some (⟨1, x :: r, 0, 0⟩, (x :: r).length) := by
    unfold tokAt
    rw [if_pos hs', hf, if_neg (by omega)]
    simp [cut]
  unfold lexP
  rw [if_neg (by omega), go_tok (x :: r) _ 0 _ [] x _ hx (sm_not_blank hs') ht]
  rw [show (x :: r).length = r.length + 1 from rfl, go_end (x :: r) r.length _ _ (by simp)]
  simp
set_option maxRecDepth 20000 in
set_option maxHeartbeats 1600000 in
theorem names_walk (s : ByteArray) (w : World) (hb : s.data.toList.length ≤ 1000000000) : Calls Try.prog 8 #[.string s] w fun e w' => e = .returned (.bool true) ∧ Nw w w' := by
  obtain ⟨bs, rfl⟩ : ∃ bs : List UInt8, s = ⟨bs.toArray⟩ := ⟨s.data.toList, by simp⟩
  have hbl : bs.length ≤ 1000000000 := by simpa using hb
  have h1 := fun w => lex_c bs w hbl
  have hn1 := fun w => name_c bs w hbl
  have hn2 := fun w => rname_c bs w hbl
  have hnl := name_lex bs
  generalize lexP bs = R at *
  cases hnb : nameB bs with
  | false =>
    rw [hnb] at hn1 hn2
    have H1 := hid h1
    have HN1 := hid hn1
    have HN2 := hid hn2
    clear h1 hn1 hn2 hnl hnb hb
    go_enter Try.func8, Try.ntmps8
    go_wp2_with (first
      | (go_at_call 15; refine (H1.out _).mono ?_; rintro e w1 ⟨v1, rfl, hown1, hn1⟩; clear hown1)
      | (go_at_call 23; refine (HN1.out _).mono ?_; rintro e w2 ⟨rfl, hn2⟩)
      | (go_at_call 24; refine (HN2.out _).mono ?_; rintro e w3 ⟨rfl, hn3⟩)
      | (go_at_call 13; refine (awake_c _).mono ?_; rintro e w4 ⟨rfl, hn4⟩)
      | fail)
    go_ret
    exact ⟨rfl, (by repeat (first | assumption | exact Nw.refl _ | refine Nw.alloc ?_ _ | refine Nw.drew ?_ | refine Nw.drewN2 ?_ _ | (refine Nw.trans ?_ (by assumption))))⟩
  | true =>
    obtain rfl := hnl hnb
    rw [hnb] at hn1 hn2
    have H1 := hid h1
    have HN1 := hid hn1
    have HN2 := hid hn2
    clear h1 hn1 hn2 hnl hnb hb
    go_enter Try.func8, Try.ntmps8
    go_wp2_with (first
      | (go_at_call 15; refine (H1.out _).mono ?_; rintro e w1 ⟨v1, rfl, hown1, hn1⟩; obtain ⟨g, cap, rfl, hcap, hmx, hc⟩ := ts_open (TS.own hown1) (by simp); have c0 : w1.cell? ⟨g, 0, none⟩ = some (.int .i64 1) := hc 0 _ rfl 0 (by decide); have c1 : w1.cell? ⟨g, 1, none⟩ = some (.string ⟨bs.toArray⟩) := hc 0 _ rfl 1 (by decide); have c2 : w1.cell? ⟨g, 2, none⟩ = some (.int .i64 0) := hc 0 _ rfl 2 (by decide); have c3 : w1.cell? ⟨g, 3, none⟩ = some (.int .i64 0) := hc 0 _ rfl 3 (by decide); have hgl : g < w1.heap.size := World.block_lt_of_cell? w1 _ c3; clear hc hown1; dsimp only [List.length_cons, List.length_nil] at hcap ⊢)
      | (go_at_call 23; refine (HN1.out _).mono ?_; rintro e w2 ⟨rfl, hn2⟩; try (have d0 := hn2.cell c0; have d1 := hn2.cell c1; have d2 := hn2.cell c2; have d3 := hn2.cell c3; have hgl2 : g < w2.heap.size := World.block_lt_of_cell? w2 _ d3))
      | (go_at_call 24; refine (HN2.out _).mono ?_; rintro e w3 ⟨rfl, hn3⟩)
      | (go_at_call 13; refine (awake_c _).mono ?_; rintro e w4 ⟨rfl, hn4⟩)
      | fail)
    go_ret
    exact ⟨rfl, (by repeat (first | assumption | exact Nw.refl _ | refine Nw.alloc ?_ _ | refine Nw.drew ?_ | refine Nw.drewN2 ?_ _ | (refine Nw.trans ?_ (by assumption))))⟩
end Lx
end Go.Proofs.Ytfbokhodcgpppaa
