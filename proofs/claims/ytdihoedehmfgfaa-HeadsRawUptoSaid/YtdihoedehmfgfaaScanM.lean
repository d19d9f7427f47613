/- What is told of any bytes, record by record: plain. No condition. -/
import Derived.Test.YtdihoedehmfgfaaLogF
import Derived.Test.YtdihoedehmfgfaaLogH
import Derived.Test.YtdihoedehmfgfaaJSa
set_option linter.unusedSimpArgs false
set_option linter.unusedVariables false
namespace Go.Proofs.Ytdihoedehmfgfaa
open Go.ChangeShapes Go.WideShapes Go.ChangeAt Go.RowKit
namespace Hp
open Go.Proofs.Ytdihoedehmfgfaa.Rec (none_ get rec_ rec_len)
open Go.Proofs.Ytdihoedehmfgfaa.Sc (recP)
open Go.Proofs.Ytdihoedehmfgfaa.Tr (T Es tm ids)
open Go.Proofs.Ytdihoedehmfgfaa.Lg (recs headerP recsX headR headL headE head_same recsP)
theorem tm_left (a b : Es) (j : Nat) (h : j < a.length) : tm (a ++ b) j = tm a j := by
  unfold Tr.tm; rw [List.getD_eq_getElem?_getD, List.getD_eq_getElem?_getD, List.getElem?_append_left h]
theorem ids_left (a b : Es) (j : Nat) (h : j < a.length) : ids (a ++ b) j = ids a j := by
  unfold Tr.ids; rw [List.getD_eq_getElem?_getD, List.getD_eq_getElem?_getD, List.getElem?_append_left h]
theorem tm_last (a : Es) (x : Int × List Int) : tm (a ++ [x]) a.length = x.1 := by
  unfold Tr.tm; rw [List.getD_eq_getElem?_getD, List.getElem?_append_right (Nat.le_refl _), Nat.sub_self]; rfl
theorem ids_last (a : Es) (x : Int × List Int) : ids (a ++ [x]) a.length = x.2 := by
  unfold Tr.ids; rw [List.getD_eq_getElem?_getD, List.getElem?_append_right (Nat.le_refl _), Nat.sub_self]; rfl
/-- What holds of a record that is told. -/
def Told (b : List UInt8) (p : Int) (es : Es) (q : Nat → Nat) (j : Nat) : Prop :=
  (j = 0 ∨ ¬ tm es j < tm es (j - 1)) ∧ get (b.drop (q j)) p = ((tm es j, ids es j), ((14 + (ids es j).length : Nat) : Int), 0) ∧ q (j + 1) = q j + (14 + (ids es j).length) ∧ q (j + 1) ≤ b.length
def Ends (b : List UInt8) (p : Int) (es : Es) (i : Nat) (e : Int) : Prop :=
  ∃ x n g, get (b.drop i) p = (x, n, g) ∧ ((g ≠ 0 ∧ e = g) ∨ (g = 0 ∧ e = 8 ∧ 0 < es.length ∧ x.1 < tm es (es.length - 1)))
theorem recs_told (b : List UInt8) (p : Int) (h0 : 0 ≤ p) (h1 : p ≤ 64) : ∀ (f i : Nat) (es0 es : Es) (e : Int), recs b p f i es0 = (es, e) → b.length + 1 ≤ i + f → i ≤ b.length →
    ∃ (new : Es) (q : Nat → Nat), es = es0 ++ new ∧ q es0.length = i ∧ (∀ j, es0.length ≤ j → j < es.length → Told b p es q j) ∧ q es.length ≤ b.length ∧ Ends b p es (q es.length) e
  | 0, i, es0, es, e, _, hf, hi => by omega
  | f + 1, i, es0, es, e, h, hf, hi => by
    obtain ⟨x, n, g, hg⟩ : ∃ x n g, get (b.drop i) p = (x, n, g) := ⟨_, _, _, rfl⟩
    rw [recs, hg] at h
    dsimp only at h
    split at h
    · rename_i hne
      simp only [Prod.mk.injEq] at h
      obtain ⟨rfl, rfl⟩ := h
      exact ⟨[], fun _ => i, by simp, rfl, fun j hj1 hj2 => by omega, hi, x, n, g, hg, Or.inl ⟨hne, rfl⟩⟩
    · rename_i hne
      have hg0 : g = 0 := by omega
      subst hg0
      split at h
      · rename_i ht
        simp only [Prod.mk.injEq] at h
        obtain ⟨rfl, rfl⟩ := h
        exact ⟨[], fun _ => i, by simp, rfl, fun j hj1 hj2 => by omega, hi, x, n, 0, hg, Or.inr ⟨rfl, rfl, ht.1, ht.2⟩⟩
      · rename_i ht
        obtain ⟨rest, hb, hn, hr, ht0, ht1⟩ := Lg.get_inv h0 h1 hg
        have hlen := congrArg List.length hb
        rw [List.length_append, rec_len, List.length_drop] at hlen
        rw [hn, Int.toNat_natCast] at h
        obtain ⟨new, q, e1, e2, e3, e4, e5⟩ := recs_told b p h0 h1 f _ _ _ _ h (by omega) (by omega)
        rw [List.length_append, List.length_singleton] at e2 e3
        have hel : es.length = es0.length + 1 + new.length := by rw [e1, List.length_append, List.length_append, List.length_singleton]
        have etm : tm es es0.length = x.1 := by rw [e1, tm_left _ _ _ (by rw [List.length_append, List.length_singleton]; omega), tm_last]
        have eid : ids es es0.length = x.2 := by rw [e1, ids_left _ _ _ (by rw [List.length_append, List.length_singleton]; omega), ids_last]
        refine ⟨x :: new, fun j => if j = es0.length then i else q j, by rw [e1, List.append_assoc]; rfl, if_pos rfl, fun j hj1 hj2 => ?_, ?_, ?_⟩
        · by_cases hj : j = es0.length
          · subst hj
            refine ⟨?_, ?_, ?_, ?_⟩
            · rcases Nat.eq_zero_or_pos es0.length with z | z
              · exact Or.inl z
              · refine Or.inr (fun y => ht ⟨z, ?_⟩)
                rw [etm, e1, List.append_assoc, tm_left _ _ _ (by omega)] at y
                exact y
            · dsimp only
              rw [if_pos rfl, hg, etm, eid, hn]
            · dsimp only
              rw [if_neg (by omega), if_pos rfl, e2, eid]
            · dsimp only
              rw [if_neg (by omega), e2]
              omega
          · obtain ⟨a1, a2, a3, a4⟩ := e3 j (by omega) hj2
            refine ⟨a1, ?_, ?_, ?_⟩
            · dsimp only
              rw [if_neg hj]; exact a2
            · dsimp only
              rw [if_neg (by omega), if_neg hj]; exact a3
            · dsimp only
              rw [if_neg (by omega)]; exact a4
        · dsimp only
          rw [if_neg (by omega)]; exact e4
        · dsimp only
          rw [if_neg (by omega)]; exact e5
/-- The errors of a record that can't be told. -/
theorem get_errs {b : List UInt8} {p : Int} {x : Int × List Int} {n g : Int} (h : get b p = (x, n, g)) : g = 0 ∨ g = 13 ∨ g = 7 ∨ g = 2 ∨ g = 6 ∨ g = 9 := by
  have hg : (get b p).2.2 = g := by rw [h]
  rw [← hg]
  unfold Rec.get
  split
  · exact Or.inr (Or.inl rfl)
  split
  · exact Or.inr (Or.inr (Or.inl rfl))
  split
  · exact Or.inr (Or.inr (Or.inr (Or.inl rfl)))
  split
  · exact Or.inr (Or.inr (Or.inl rfl))
  split
  · exact Or.inr (Or.inr (Or.inr (Or.inr (Or.inl rfl))))
  split
  · exact Or.inl rfl
  · exact Or.inr (Or.inr (Or.inr (Or.inr (Or.inr rfl))))
/-- What is told behind the last record: g; the error that log's Decode tells: f. -/
def Last (b : List UInt8) (p : Int) (es : Es) (i : Nat) (f : Int) : Prop :=
  ∃ t xl n g, recP b b.length (i : Int) p = ((t, xl), n, g) ∧ ((g = 13 ∧ f = 13) ∨ (f = g ∧ (g = 7 ∨ g = 2 ∨ g = 6 ∨ g = 9)) ∨ (g = 0 ∧ f = 8 ∧ 0 < es.length ∧ t < tm es (es.length - 1)))
theorem whole_told {b : List UInt8} {l : List ByteArray} {i : Int} {es : Es} {f : Int} (hh : headR b 5 = (l, i, 0)) (hr : recsP b l i.toNat = (es, f)) :
    ∃ q : Nat → Nat, i = (q 0 : Nat) ∧ l.length ≤ 64 ∧ (∀ j, j < es.length → recP b b.length (q j : Int) l.length = ((tm es j, ids es j), ((q (j + 1) : Nat) : Int), 0) ∧ q j + 14 ≤ q (j + 1) ∧ q (j + 1) ≤ b.length) ∧ q es.length ≤ b.length ∧ es.length ≤ b.length ∧ Last b l.length es (q es.length) f := by
  rw [head_same] at hh
  obtain ⟨n, rfl, h9, hnb, hnm⟩ := Lg.head_ok b l i hh
  have hl64 := Lg.names_le hnm
  rw [Int.toNat_natCast] at hr
  obtain ⟨new, q, e1, e2, e3, e4, x, n2, g, hg, hend⟩ := recs_told b l.length (by omega) (by omega) _ _ _ _ _ hr (by omega) hnb
  rw [List.length_nil] at e2 e3
  have hgrow : ∀ j, j ≤ es.length → j ≤ q j := by
    intro j
    induction j with
    | zero => intro _; omega
    | succ j ih =>
      intro hj
      have h1 := ih (by omega)
      have h2 := (e3 j (Nat.zero_le _) (by omega)).2.2.1
      omega
  refine ⟨q, by rw [e2], hl64, fun j hj => ?_, e4, Nat.le_trans (hgrow _ (Nat.le_refl _)) e4, ?_⟩
  · obtain ⟨a1, a2, a3, a4⟩ := e3 j (Nat.zero_le _) hj
    refine ⟨?_, by omega, a4⟩
    unfold recP
    rw [if_neg (by omega), if_neg (by omega), Int.toNat_natCast, Nat.min_eq_left (by omega), List.take_of_length_le (Nat.le_refl _), a2]
    dsimp only
    rw [if_neg (by omega), if_neg (by omega), a3]
    congr 2
  · by_cases hb : b.length ≤ q es.length
    · have he : b.drop (q es.length) = [] := List.drop_eq_nil_of_le hb
      rw [he, Lg.get_nil] at hg
      have hg13 : g = 13 := (congrArg (fun x : Rec.Got => x.2.2) hg).symm
      refine ⟨0, [], 0, 13, ?_, Or.inl ⟨rfl, ?_⟩⟩
      · unfold recP
        rw [if_neg (by omega), if_pos (by omega)]
        rfl
      · rcases hend with ⟨_, h⟩ | ⟨h, _⟩
        · omega
        · omega
    · have hp : recP b b.length (q es.length : Int) l.length = if g ≠ 0 then none_ g else (x, (q es.length : Int) + n2, 0) := by
        unfold recP
        rw [if_neg (by omega), if_neg (by omega), Int.toNat_natCast, Nat.min_eq_left e4, List.take_of_length_le (Nat.le_refl _), hg]
        dsimp only
        rw [if_neg (by omega)]
      rcases hend with ⟨hne, rfl⟩ | ⟨rfl, rfl, h3, h4⟩
      · rw [if_pos hne] at hp
        refine ⟨0, [], 0, _, hp, ?_⟩
        rcases get_errs hg with h | h | h
        · exact absurd h hne
        · exact Or.inl ⟨h, h⟩
        · exact Or.inr (Or.inl ⟨rfl, h⟩)
      · rw [if_neg (by decide)] at hp
        obtain ⟨t, xl⟩ := x
        exact ⟨t, xl, _, 0, hp, Or.inr (Or.inr ⟨rfl, rfl, h3, h4⟩)⟩
/-- What log's Decode tells of bytes with a right header. -/
theorem dec_whole {b : List UInt8} {l : List ByteArray} {i : Int} {es : Es} {f : Int} (hh : headR b 5 = (l, i, 0)) (hr : recsP b l i.toNat = (es, f)) : Lg.decP b = ((⟨l, es⟩ : T), ((es.length : Int), if f = 13 then 0 else f)) := by
  rw [head_same] at hh
  unfold Lg.decP
  rw [hh]
  dsimp only
  rw [if_neg (by decide), hr]
/-- A header is right, or is none. -/
theorem head_two (b : List UInt8) : (headR b 5 = Lg.noHd 5 ∧ Lg.decP b = ((⟨[], []⟩ : T), ((0 : Int), (5 : Int)))) ∨ ∃ l i, headR b 5 = (l, i, 0) := by
  rw [head_same]
  rcases Lg.head_err b with h | h
  · exact Or.inl ⟨h, Lg.dec_no h (by decide)⟩
  · exact Or.inr ⟨(headL b).1, (headL b).2.1, by rw [← h]⟩
end Hp
end Go.Proofs.Ytdihoedehmfgfaa
