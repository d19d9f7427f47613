/- Layer 12, plain: headers and records of a log of which only a front can be read. No program in sight. -/
import Derived.Test.YtdihoedehmfgfaaJSa
set_option linter.unusedSimpArgs false
set_option linter.unusedVariables false
namespace Go.Proofs.Ytdihoedehmfgfaa
open Go.ChangeShapes Go.WideShapes Go.ChangeAt Go.RowKit
namespace Sc
open Go.Proofs.Ytdihoedehmfgfaa.Rec (rises get none_ rec_ rec_len)
open Go.Proofs.Ytdihoedehmfgfaa.Tr (T Es tm ids namesP)
open Go.Proofs.Ytdihoedehmfgfaa.Lg (Hd noHd headR headL headE head_same rgo sz cutS headerP recsX mark str)
theorem rgo_m (b : List UInt8) {m m' : Int} (h0 : m ≠ 0) : ∀ (n i : Nat) (acc l : List ByteArray) (j : Nat), rgo b m n i acc = ((l, j), 0) → rgo b m' n i acc = ((l, j), 0)
  | 0, i, acc, l, j, h => h
  | n + 1, i, acc, l, j, h => by
    unfold Lg.rgo at h ⊢
    split at h
    · exact absurd (congrArg Prod.snd h) h0
    split at h
    · exact absurd (congrArg Prod.snd h) (show ¬ ((5 : Int) = 0) by decide)
    split at h
    · exact absurd (congrArg Prod.snd h) h0
    split at h
    · exact absurd (congrArg Prod.snd h) (show ¬ ((5 : Int) = 0) by decide)
    rename_i h1 h2 h3 h4
    rw [if_neg h1, if_neg h2, if_neg h3, if_neg h4]
    exact rgo_m b h0 n _ _ _ _ h
theorem sz_take {b : List UInt8} {k i : Nat} (h : i < k) : sz (b.take k) i = sz b i := by
  unfold Lg.sz
  simp only [List.getD_eq_getElem?_getD]
  rw [List.getElem?_take_of_lt h]
theorem cutS_take {b : List UInt8} {k i n : Nat} (h : i + n ≤ k) : cutS (b.take k) i n = cutS b i n := by
  unfold Lg.cutS
  rw [List.drop_take, List.take_take, Nat.min_eq_left (by omega)]
theorem rgo_pre (b : List UInt8) (m : Int) (k : Nat) (hk : k ≤ b.length) : ∀ (n i : Nat) (acc : List ByteArray), rgo (b.take k) m n i acc = rgo b m n i acc ∨ rgo (b.take k) m n i acc = (([], 0), m)
  | 0, i, acc => Or.inl rfl
  | n + 1, i, acc => by
    have hl : (b.take k).length = k := by rw [List.length_take]; omega
    unfold Lg.rgo
    rw [hl]
    by_cases h1 : k ≤ i
    · exact Or.inr (by rw [if_pos h1])
    · rw [if_neg h1, if_neg (show ¬ b.length ≤ i by omega), sz_take (by omega)]
      by_cases h2 : sz b i < 1 ∨ 16 < sz b i
      · exact Or.inl (by rw [if_pos h2, if_pos h2])
      · rw [if_neg h2, if_neg h2]
        by_cases h3 : k < i + 1 + sz b i
        · exact Or.inr (by rw [if_pos h3])
        · rw [if_neg h3, if_neg (show ¬ b.length < i + 1 + sz b i by omega), cutS_take (by omega)]
          split
          · exact Or.inl rfl
          · exact rgo_pre b m k hk n _ _
theorem headR_inv {b : List UInt8} {l : List ByteArray} {i : Int} (h : headR b 5 = (l, i, 0)) : ∃ j : Nat, i = (j : Int) + 4 ∧ j + 4 ≤ b.length ∧ 5 ≤ b.length ∧ b.take 4 = Lg.mark ∧ sz b 4 ≤ 64 ∧ rgo b 5 (sz b 4) 5 [] = ((l, j), 0) ∧ headE b l j = (l, i, 0) := by
  unfold Lg.headR at h
  split at h
  · cases h
  split at h
  · cases h
  rename_i h5 hm
  obtain ⟨l', j, e, hg⟩ : ∃ l' j e, rgo b 5 (sz b 4) 5 [] = ((l', j), e) := ⟨_, _, _, rfl⟩
  rw [hg] at h
  dsimp only at h
  split at h
  · rename_i he
    exact absurd (congrArg (fun x : Hd => x.2.2) h) he
  split at h
  · cases h
  rename_i he hj
  have he0 : e = 0 := by omega
  subst he0
  have h2 := h
  unfold Lg.headE at h2
  split at h2
  · simp only [Prod.mk.injEq, and_true] at h2
    obtain ⟨rfl, rfl⟩ := h2
    refine ⟨j, rfl, by omega, by omega, ?_, by omega, hg, h⟩
    by_cases q : b.take 4 = Lg.mark
    · exact q
    · exact absurd (Or.inl q) hm
  · cases h2
/-- A right header is so, whatever the error for what is missing. -/
theorem headR_of {b : List UInt8} {l : List ByteArray} {i m : Int} (h : headR b 5 = (l, i, 0)) : headR b m = (l, i, 0) := by
  obtain ⟨j, rfl, h1, h2, h3, h4, h5, h6⟩ := headR_inv h
  unfold Lg.headR
  rw [if_neg (by omega), if_neg (by rintro (q | q); exact q h3; omega), rgo_m b (by decide) _ _ _ _ _ h5]
  dsimp only
  rw [if_neg (by decide), if_neg (by omega)]
  exact h6
/-- A front of a right header lacks something. -/
theorem headR_pre {b : List UInt8} {l : List ByteArray} {i m : Int} {k : Nat} (hm : m ≠ 0) (h : headR b 5 = (l, i, 0)) (hk : (k : Int) < i) : headR (b.take k) m = noHd m := by
  obtain ⟨j, rfl, h1, h2, h3, h4, h5, h6⟩ := headR_inv h
  have hl : (b.take k).length = k := by rw [List.length_take]; omega
  unfold Lg.headR
  rw [hl]
  by_cases hk5 : k < 5
  · rw [if_pos hk5]
  · rw [if_neg hk5, sz_take (by omega), List.take_take, Nat.min_eq_left (by omega), if_neg (by rintro (q | q); exact q h3; omega)]
    rcases rgo_pre b m k (by omega) (sz b 4) 5 [] with e | e
    · rw [e, rgo_m b (by decide) _ _ _ _ _ h5]
      dsimp only
      rw [if_neg (by decide), if_pos (by omega)]
    · rw [e]
      dsimp only
      rw [if_pos hm]
/-! ### Records of a right log -/
/-- Where a record begins. -/
def place (l : List ByteArray) (es : Es) (j : Nat) : Nat := (headerP l).length + (recsX (es.take j)).length
theorem place_step {l : List ByteArray} {es : Es} {j : Nat} (h : j < es.length) : place l es (j + 1) = place l es j + (14 + (ids es j).length) := by
  unfold place
  rw [Lg.recsX_step h]
  omega
theorem place_drop {l : List ByteArray} {es : Es} {j : Nat} (h : j < es.length) : (headerP l ++ recsX es).drop (place l es j) = rec_ (tm es j) (ids es j) ++ recsX (es.drop (j + 1)) := by
  unfold place
  rw [← List.drop_drop, List.drop_left' rfl, Lg.recsX_at h, List.drop_left' rfl]
theorem place_le {l : List ByteArray} {es : Es} {j : Nat} (h : j < es.length) : place l es (j + 1) ≤ (headerP l ++ recsX es).length := by
  have h1 := congrArg List.length (place_drop (l := l) h)
  have h2 : (rec_ (tm es j) (ids es j) ++ recsX (es.drop (j + 1))).length = 14 + (ids es j).length + (recsX (es.drop (j + 1))).length := by rw [List.length_append, rec_len]
  rw [List.length_drop, h2] at h1
  rw [place_step h]
  omega
/-- A record that can be read whole. -/
theorem rec_in {l : List ByteArray} {es : Es} {j k : Nat} {p : Int} (hf : Lg.Fine p [] es) (h0 : 0 ≤ p) (h1 : p ≤ 64) (h : j < es.length) (hk : place l es (j + 1) ≤ k) :
    recP (headerP l ++ recsX es) k (place l es j : Int) p = ((tm es j, ids es j), ((place l es (j + 1) : Nat) : Int), 0) := by
  have hle := place_le (l := l) h
  have hst := place_step (l := l) h
  have hfj := hf j (Nat.zero_le _) h
  rw [Lg.eOk_iff] at hfj
  have hd := place_drop (l := l) h
  unfold recP
  rw [if_neg (by omega), if_neg (by omega), Int.toNat_natCast, Nat.min_eq_left (by omega), List.drop_take, hd]
  rw [show k - place l es j = (rec_ (tm es j) (ids es j)).length + (k - place l es (j + 1)) by rw [rec_len]; omega, List.take_append, List.take_of_length_le (by omega), Nat.add_sub_cancel_left]
  rw [Lg.get_whole _ h0 h1 hfj.2.1 hfj.2.2 hfj.1.1]
  dsimp only
  rw [if_neg (by omega), if_neg (by omega), hst]
  congr 2
/-- A record that can't. -/
theorem rec_out {l : List ByteArray} {es : Es} {j k : Nat} {p : Int} (hf : Lg.Fine p [] es) (h0 : 0 ≤ p) (h1 : p ≤ 64) (h : j < es.length) (hk : k < place l es (j + 1)) (hkb : k < (headerP l ++ recsX es).length) :
    recP (headerP l ++ recsX es) k (place l es j : Int) p = none_ 10 := by
  have hle := place_le (l := l) h
  have hst := place_step (l := l) h
  have hfj := hf j (Nat.zero_le _) h
  rw [Lg.eOk_iff] at hfj
  have hd := place_drop (l := l) h
  have hg : get (((headerP l ++ recsX es).take k).drop (min (place l es j) k)) p = none_ 13 ∨ get (((headerP l ++ recsX es).take k).drop (min (place l es j) k)) p = none_ 7 := by
    by_cases hjk : place l es j ≤ k
    · rw [Nat.min_eq_left hjk, List.drop_take, hd, List.take_append_of_le_length (by rw [rec_len]; omega), Lg.get_short (k - place l es j) h0 h1 hfj.1.1 (by omega)]
      split
      · exact Or.inl rfl
      · exact Or.inr rfl
    · rw [Nat.min_eq_right (by omega), List.drop_take, Nat.sub_self, List.take_zero]
      exact Or.inl rfl
  unfold recP
  rw [if_neg (by omega), if_neg (by omega), Int.toNat_natCast]
  rcases hg with e | e
  · rw [e]
    exact if_pos ⟨hkb, Or.inl rfl⟩
  · rw [e]
    exact if_pos ⟨hkb, Or.inr rfl⟩
end Sc
end Go.Proofs.Ytdihoedehmfgfaa
