/- An append that tells which block it turned; a row by its own block, in worlds where other blocks turned. No condition. -/
import Derived.Test.YtdihoedehmfgfaaAppB
import Derived.Maps.AppendAt
set_option linter.unusedSimpArgs false
set_option linter.unusedVariables false
namespace Go.Proofs.Ytdihoedehmfgfaa
open Go.ChangeShapes Go.WideShapes Go.ChangeAt Go.RowKit
/-- 's = append(s, x...)', s owned from some block on; which block it turns is told. -/
theorem app1g {P : Program} {w : World} {ops : Array Oper} {rest : List Oper} {o : Oper} {a : Act} {Q : Exit → Act → World → Prop} (hgd : o.guard = none) (s x : Operand) (t : TypeId) (ho : o.op = .call { callee := .builtin .append, args := #[s, x], argTypes := #[t, t] })
    (e : TypeId) (z : Value) (bytes : Nat) (ht : P.underlying t = some (.slice e)) (hinfo : (P.info? e).map (fun i => (i.zero, i.size, i.bytes)) = some (some z, 1, bytes)) (hz : z.cells.size = 1) (hby : bytes ≤ 128)
    {B : Nat} (hB : B ≤ w.heap.size) {v : Value} {xs : List Value} (hown : Own w B e v xs) (hs : a.eval s = v) {u : Value} {news : List Value} (hu : Sl w u news) (hx : a.eval x = u) (h1 : ∀ u ∈ news, u.oneCell' = true)
    (h : ∀ v' w', Own w' B e v' (xs ++ news) → w.grownBy w' v.ownBlock → (v'.ownBlock = v.ownBlock ∨ v'.ownBlock = some w.heap.size) → wpList P ops Q rest (a.put o.dst v') w')
    (h63 : xs.length + news.length ≤ 1099511627776) : wpList P ops Q (o :: rest) a w := by
  obtain ⟨i, hi, hz0, hz1, hz2⟩ := info_parts hinfo
  obtain ⟨p, cap, rfl, hcap, hmx, hnone, hc⟩ := hu
  cases p with
  | none =>
    obtain rfl := hnone rfl
    obtain rfl : news = [] := by cases news with | nil => rfl | cons y r => simp at hcap
    refine wpList_append_own_none hgd s x t ho B e i 1 ht hi v xs.length xs hs hown hx ?_
    exact h v w (by simpa using hown) (World.grownBy.refl _ _) (Or.inl rfl)
  | some ad =>
    refine wpList_append_own_at (w := w) hgd s x t ho B e i z 1 bytes ht hi hz0 hz1 hz2 hz (by decide) v xs.length xs hs hown ad news.length cap news hx (by simp) (fun j y hj => ?_) h1 (by unfold maxLen; omega) ?_ hB (fun v' w' h2 h3 _ h5 => h v' w' (by simpa [Own] using h2) h3 h5)
    · obtain ⟨hjl, rfl⟩ := List.getElem?_eq_some_iff.1 hj
      obtain ⟨b, off, e1, hcell⟩ := hc j hjl
      cases e1
      rw [addr_add]; exact hcell
    · have := Nat.mul_le_mul h63 hby; omega
theorem Mods.grownIn {S : Nat → Prop} {a b c : World} {row : Option Nat} (h : Mods S a b) (hg : b.grownBy c row) (hr : ∀ k, row = some k → S k ∨ a.heap.size ≤ k) : Mods S a c :=
  ⟨hg.os.trans h.os, hg.tape.trans h.tape, hg.output.trans h.output, Nat.le_trans h.size hg.size, fun k hk hs => (hg.block k (Nat.lt_of_lt_of_le hk h.size) (fun e => by
    rcases hr k e.symm with q | q
    · exact hs q
    · omega)).trans (h.block k hk hs)⟩
theorem Own.modsR {S : Nat → Prop} {w w' : World} {B : Nat} {e : TypeId} {v : Value} {xs : List Value} (h : Own w B e v xs) (hm : Mods S w w') (hs : ∀ k, v.ownBlock = some k → ¬ S k) : Own w' B e v xs := by
  obtain ⟨h1, h2⟩ := h
  refine ⟨h1, ?_⟩
  rcases h2 with h2 | ⟨g, cap, cur, hv, hg, hh, r⟩
  · exact Or.inl h2
  · exact Or.inr ⟨g, cap, cur, hv, hg, hm.heap hh (hs g (by rw [hv]; rfl)), r⟩
end Go.Proofs.Ytdihoedehmfgfaa
