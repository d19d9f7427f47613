/- The contract of layer 4's awake; LexTexts walked. No condition but lengths. -/
import Derived.Test.YtfbokhodcgpppaaDoorLexK
namespace Go.Proofs.YtfbokhodcgpppaaDoor
open Go.ChangeShapes Go.WideShapes Go.ChangeAt Go.RowKit
namespace Lx
theorem aw1_len : (lexP [97, 45, 62, 98]).1.length = 4 := by decide +kernel
theorem aw1_err : (lexP [97, 45, 62, 98]).2 = (0, 0) := by decide +kernel
theorem aw1_tok : ((lexP [97, 45, 62, 98]).1[1]?).map (fun t => (t.at_, t.text)) = some (1, [45, 62]) := by decide +kernel
theorem aw2_err : (lexP [97, 32, 45, 32, 98]).2 = (2, 2) := by decide +kernel
theorem ts_open {w : World} {v : Value} {l : List Tk} (h : TS w v l) (h0 : 0 < l.length) : ∃ g cap, v = .slice (some ⟨g, 0, none⟩) l.length cap ∧ l.length ≤ cap ∧ cap ≤ maxLen ∧ ∀ (i : Nat) (t : Tk), l[i]? = some t → ∀ j, j < 4 → w.cell? ⟨g, i * 4 + j, none⟩ = (tkv t)[j]? := by
  rcases h with ⟨rfl, _⟩ | h
  · simp at h0
  · exact h
set_option maxRecDepth 20000 in
set_option maxHeartbeats 1600000 in
theorem awake_c (w : World) : Calls Tryd.prog 6 #[] w (Gives (.bool true) w) := by
  have h1 := fun w => lex_c [97, 45, 62, 98] w (by decide)
  have h2 := fun w => lex_c [97, 32, 45, 32, 98] w (by decide)
  have e1 := aw1_len
  have e2 := aw1_err
  have e3 := aw1_tok
  have e4 := aw2_err
  generalize lexP [97, 45, 62, 98] = R1 at *
  generalize lexP [97, 32, 45, 32, 98] = R2 at *
  obtain ⟨l1, k1, z1⟩ := R1
  obtain ⟨l2, k2, z2⟩ := R2
  dsimp only at e1 e2 e3 e4
  obtain ⟨rfl, rfl⟩ := Prod.mk.inj e2
  obtain ⟨rfl, rfl⟩ := Prod.mk.inj e4
  obtain ⟨t, ht, et⟩ := Option.map_eq_some_iff.1 e3
  obtain ⟨ea, eb⟩ := Prod.mk.inj et
  have H1 := hid h1
  have H2 := hid h2
  have HE := hid e1
  have HT := hid ht
  clear h1 h2 e1 e2 e3 e4 ht et
  go_enter Tryd.func6, Tryd.ntmps6
  go_upto_region 2 with (first
    | (go_at_call 5; refine (H1.out _).mono ?_; rintro e w1 ⟨v1, rfl, hown1, hn1⟩; obtain ⟨g, cap, rfl, hcap, hmx, hc⟩ := ts_open (TS.own hown1) (by rw [HE.out]; decide))
    | fail)
  try dsimp only at hown1 hcap hc ⊢
  rw [HE.out] at hcap ⊢
  have q3 : w1.cell? ⟨g, 7, none⟩ = some (.int .i64 1) := by
    have := hc 1 t HT.out 3 (by decide)
    rw [this]
    show some (Value.int .i64 (t.at_ : Int)) = _
    rw [ea]; rfl
  have q1 : w1.cell? ⟨g, 5, none⟩ = some (.string ⟨#[45, 62]⟩) := by
    have := hc 1 t HT.out 1 (by decide)
    rw [this]
    show some (Value.string ⟨t.text.toArray⟩) = _
    rw [eb]
  have hgl : g < w1.heap.size := World.block_lt_of_cell? w1 _ q3
  clear hc hown1
  go_wp2_with (first
    | (go_at_call 5; refine (H2.out _).mono ?_; rintro e w2 ⟨v2, rfl, hown2, hn2⟩; have p3 := hn2.cell q3; have p1 := hn2.cell q1; have hgl2 : g < w2.heap.size := World.block_lt_of_cell? w2 _ p3; dsimp only)
    | fail)
  go_ret
  exact Gives.b rfl (by repeat (first | assumption | exact Nw.refl _ | refine Nw.alloc ?_ _ | refine Nw.drew ?_ | refine Nw.drewN2 ?_ _ | (refine Nw.trans ?_ (by assumption))))
end Lx
end Go.Proofs.YtfbokhodcgpppaaDoor
