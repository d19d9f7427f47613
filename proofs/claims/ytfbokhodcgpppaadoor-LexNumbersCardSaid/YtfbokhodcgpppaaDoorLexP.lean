/- Texts of tokens with blanks between them, as they are read (plain). No program in sight. -/
import Derived.Test.YtfbokhodcgpppaaDoorLexM
namespace Go.Proofs.YtfbokhodcgpppaaDoor
open Go.RowKit
namespace Lx
def isBl (l : List UInt8) : Prop := ∀ x ∈ l, x = 32 ∨ x = 10
/-- A token by itself, and what it is read as. -/
def isW (t : List UInt8) : Bool := sm (t.getD 0 0) && t.all mo && decide (0 < t.length) && decide (t.length ≤ 16)
def isN (t : List UInt8) : Bool := t.all dg && decide (0 < t.length) && decide (t.length ≤ 4) && (!(t.getD 0 0 == 48) || decide (t.length = 1))
def isS (t : List UInt8) : Bool := decide (t.length = 1) && signs.contains (t.getD 0 0)
def good (t : List UInt8) : Bool := isW t || isN t || isS t || t == [45, 62]
def tkOf (t : List UInt8) (k : Nat) : Tk := if isW t = true then ⟨1, t, 0, k⟩ else if isN t = true then ⟨2, [], numOf t, k⟩ else ⟨3, t, 0, k⟩
theorem sign_not : ∀ x ∈ signs, sm x = false ∧ dg x = false := by decide +kernel
theorem blank_not {x : UInt8} (h : x = 32 ∨ x = 10) : mo x = false ∧ dg x = false := by rcases h with rfl | rfl <;> decide
theorem fin_run (P : UInt8 → Bool) (A t R : List UInt8) (b : UInt8) (ht : t.all P = true) (hb : P b = false) : fin P (A ++ (t ++ b :: R)) A.length = A.length + t.length := by
  unfold fin
  rw [List.drop_left, List.takeWhile_append_of_pos (by simpa using ht), List.takeWhile_cons, if_neg (by rw [hb]; decide)]
  simp
theorem cut_mid (A t R : List UInt8) : cut (A ++ (t ++ R)) A.length (A.length + t.length) = t := by
  unfold cut
  rw [List.drop_left, Nat.add_sub_cancel_left, List.take_left]
theorem good_pos (t : List UInt8) (h : good t = true) : 0 < t.length := by
  simp only [good, isW, isN, isS, Bool.or_eq_true, Bool.and_eq_true, decide_eq_true_eq, beq_iff_eq] at h
  rcases h with ((h | h) | h) | h
  · exact h.1.2
  · exact h.1.1.2
  · omega
  · rw [h]; decide
theorem sm_not_dg {x : UInt8} (h : dg x = true) : sm x = false := by
  unfold dg at h
  simp only [Bool.and_eq_true, decide_eq_true_eq] at h
  unfold sm
  rw [decide_eq_false (by omega), Bool.false_and]
theorem tok_good (A R : List UInt8) (x b : UInt8) (r : List UInt8) (hg : good (x :: r) = true) (hb : b = 32 ∨ b = 10) :
    tokAt (A ++ ((x :: r) ++ b :: R)) A.length x = some (tkOf (x :: r) A.length, (x :: r).length) ∧ ¬ (x = 32 ∨ x = 10) := by
  obtain ⟨hbm, hbd⟩ := blank_not hb
  have hk : (x :: r).getD 0 0 = x := rfl
  by_cases hw : isW (x :: r) = true
  · have h := hw
    simp only [isW, Bool.and_eq_true, decide_eq_true_eq, hk] at h
    obtain ⟨⟨⟨h1, h2⟩, h3⟩, h4⟩ := h
    refine ⟨?_, sm_not_blank h1⟩
    unfold tokAt tkOf
    rw [if_pos h1, if_pos hw, fin_run mo A (x :: r) R b h2 hbm, cut_mid, if_neg (by omega), Nat.add_sub_cancel_left]
  · by_cases hn : isN (x :: r) = true
    · have h := hn
      simp only [isN, Bool.and_eq_true, decide_eq_true_eq, hk] at h
      obtain ⟨⟨⟨h1, h2⟩, h3⟩, h4⟩ := h
      have hx : dg x = true := by simp only [List.all_cons, Bool.and_eq_true] at h1; exact h1.1
      have h5 : ¬ (x = 48 ∧ 1 < (x :: r).length) := by
        rintro ⟨rfl, h6⟩
        have h7 : r.length = 0 := by simpa using h4
        simp [h7] at h6
      refine ⟨?_, ?_⟩
      · unfold tokAt tkOf
        rw [if_neg (by rw [sm_not_dg hx]; decide), if_pos hx, if_neg hw, if_pos hn, fin_run dg A (x :: r) R b h1 hbd, cut_mid, Nat.add_sub_cancel_left, if_neg]
        rintro (h | h)
        · omega
        · exact h5 h
      · rintro (rfl | rfl) <;> exact absurd hx (by decide)
    · by_cases hs : isS (x :: r) = true
      · have h := hs
        simp only [isS, Bool.and_eq_true, decide_eq_true_eq, hk] at h
        obtain ⟨h1, h2⟩ := h
        have hin : x ∈ signs := by simpa using h2
        obtain ⟨e1, e2⟩ := sign_not x hin
        obtain rfl : r = [] := by simpa using h1
        refine ⟨?_, ?_⟩
        · unfold tokAt tkOf
          rw [if_neg (by rw [e1]; decide), if_neg (by rw [e2]; decide), if_pos hin, if_neg hw, if_neg hn]
          rfl
        · rintro (rfl | rfl) <;> exact absurd hin (by decide)
      · have he : x :: r = [45, 62] := by
          simp only [good, Bool.or_eq_true, beq_iff_eq] at hg
          rcases hg with ((h | h) | h) | h
          · exact absurd h hw
          · exact absurd h hn
          · exact absurd h hs
          · exact h
        obtain ⟨rfl, rfl⟩ := List.cons.inj he
        refine ⟨?_, by decide⟩
        unfold tokAt tkOf
        have hp : (A ++ ([45, 62] ++ b :: R))[A.length + 1]? = some 62 := by rw [List.getElem?_append_right (by omega), Nat.add_sub_cancel_left]; rfl
        rw [if_neg (by decide), if_neg (by decide), if_neg (by decide), if_pos ⟨rfl, hp⟩, if_neg hw, if_neg hn]
        rfl
theorem go_gap (G : List UInt8) : ∀ (A R : List UInt8) (f : Nat) (acc : List Tk), isBl G → lexGo (A ++ (G ++ R)) (G.length + f) A.length acc = lexGo (A ++ (G ++ R)) f (A.length + G.length) acc := by
  induction G with
  | nil => intro A R f acc _; simp
  | cons x r ih =>
    intro A R f acc h
    have hx : (A ++ ((x :: r) ++ R))[A.length]? = some x := by rw [List.getElem?_append_right (by omega), Nat.sub_self]; rfl
    have := ih (A ++ [x]) R f acc (fun y hy => h y (by simp [hy]))
    rw [show (x :: r).length + f = (r.length + f) + 1 by simp; omega, go_blank _ _ _ _ x hx (h x (by simp))]
    simp only [List.append_assoc, List.singleton_append, List.length_append, List.length_singleton, List.cons_append, List.nil_append, List.length_nil, Nat.zero_add, List.length_cons] at this ⊢
    rw [this]
    congr 1
    omega
/-- Pieces: blanks, a token, blanks (one at least). -/
structure Pc where
  a : List UInt8
  t : List UInt8
  b : List UInt8
def Pc.text (p : Pc) : List UInt8 := p.a ++ (p.t ++ p.b)
def Pc.ok (p : Pc) : Prop := isBl p.a ∧ good p.t = true ∧ isBl p.b ∧ 0 < p.b.length
def textOf (ps : List Pc) : List UInt8 := ps.flatMap Pc.text
def toksOf : Nat → List Pc → List Tk
  | _, [] => []
  | k, p :: r => tkOf p.t (k + p.a.length) :: toksOf (k + p.text.length) r
theorem lexgo_pieces (ps : List Pc) : ∀ (A : List UInt8) (f : Nat) (acc : List Tk), (∀ p ∈ ps, p.ok) → (textOf ps).length < f → lexGo (A ++ textOf ps) f A.length acc = (acc ++ toksOf A.length ps ++ [⟨0, [], 0, A.length + (textOf ps).length⟩], 0, 0) := by
  induction ps with
  | nil =>
    intro A f acc _ hf
    obtain ⟨f, rfl⟩ : ∃ f', f = f' + 1 := ⟨f - 1, by omega⟩
    rw [go_end _ _ _ _ (by simp [textOf])]
    simp [textOf, toksOf]
  | cons p r ih =>
    intro A f acc hok hf
    obtain ⟨ha, hg, hb, hb0⟩ := hok p (by simp)
    have et : textOf (p :: r) = p.a ++ (p.t ++ (p.b ++ textOf r)) := by simp [textOf, Pc.text]
    rw [et] at hf ⊢
    simp only [List.length_append] at hf
    obtain ⟨x, t, hxt⟩ : ∃ x t, p.t = x :: t := by
      have := good_pos _ hg
      cases h : p.t with
      | nil => rw [h] at this; simp at this
      | cons x t => exact ⟨x, t, rfl⟩
    obtain ⟨b, B, hbB⟩ : ∃ b B, p.b = b :: B := by
      cases h : p.b with
      | nil => rw [h] at hb0; simp at hb0
      | cons x t => exact ⟨x, t, rfl⟩
    have hbb : b = 32 ∨ b = 10 := hb b (by rw [hbB]; simp)
    obtain ⟨f, rfl⟩ : ∃ f', f = p.a.length + f' := ⟨f - p.a.length, by omega⟩
    rw [go_gap p.a A _ f acc ha]
    obtain ⟨f, rfl⟩ : ∃ f', f = f' + 1 := ⟨f - 1, by omega⟩
    rw [hxt] at hg
    obtain ⟨htk, hnb⟩ := tok_good (A ++ p.a) (B ++ textOf r) x b t hg hbb
    have htx : A ++ (p.a ++ (p.t ++ (p.b ++ textOf r))) = (A ++ p.a) ++ ((x :: t) ++ b :: (B ++ textOf r)) := by rw [hxt, hbB]; simp
    have hx : ((A ++ p.a) ++ ((x :: t) ++ b :: (B ++ textOf r)))[(A ++ p.a).length]? = some x := by rw [List.getElem?_append_right (by omega), Nat.sub_self]; rfl
    rw [htx, ← List.length_append, go_tok _ f _ _ acc x _ hx hnb htk]
    have htx2 : (A ++ p.a) ++ ((x :: t) ++ b :: (B ++ textOf r)) = (A ++ p.a ++ p.t) ++ (p.b ++ textOf r) := by rw [hxt, hbB]; simp
    rw [htx2, show (A ++ p.a).length + (x :: t).length = (A ++ p.a ++ p.t).length by rw [hxt]; simp [Nat.add_assoc]]
    obtain ⟨f, rfl⟩ : ∃ f', f = p.b.length + f' := ⟨f - p.b.length, by rw [hxt] at hf; simp at hf; omega⟩
    rw [go_gap p.b _ _ f _ hb]
    have h3 := ih (A ++ p.a ++ p.t ++ p.b) f (acc ++ [tkOf (x :: t) (A ++ p.a).length]) (fun q hq => hok q (by simp [hq])) (by rw [hxt] at hf; simp at hf; omega)
    rw [show (A ++ p.a ++ p.t) ++ (p.b ++ textOf r) = A ++ p.a ++ p.t ++ p.b ++ textOf r by simp, show (A ++ p.a ++ p.t).length + p.b.length = (A ++ p.a ++ p.t ++ p.b).length by simp; omega, h3]
    simp only [toksOf, Pc.text, hxt]
    simp [Nat.add_assoc, Nat.add_comm, Nat.add_left_comm]
theorem lex_pieces (ps : List Pc) (hok : ∀ p ∈ ps, p.ok) (hl : (textOf ps).length ≤ 2000) : lexP (textOf ps) = (toksOf 0 ps ++ [⟨0, [], 0, (textOf ps).length⟩], 0, 0) := by
  unfold lexP
  rw [if_neg (by omega)]
  have := lexgo_pieces ps [] ((textOf ps).length + 1) [] hok (by omega)
  simpa using this
theorem toksOf_len (ps : List Pc) : ∀ k, (toksOf k ps).length = ps.length := by
  induction ps with
  | nil => intro k; rfl
  | cons p r ih => intro k; simp [toksOf, ih]
theorem toksOf_at (ps : List Pc) : ∀ (k i : Nat) (p : Pc), ps[i]? = some p → (toksOf k ps)[i]? = some (tkOf p.t (k + (textOf (ps.take i)).length + p.a.length)) := by
  induction ps with
  | nil => intro k i p h; simp at h
  | cons q r ih =>
    intro k i p h
    cases i with
    | zero =>
      obtain rfl : q = p := by simpa using h
      simp [toksOf, textOf]
    | succ i =>
      have h' : r[i]? = some p := by simpa using h
      rw [toksOf, List.getElem?_cons_succ, ih _ i p h', List.take_succ_cons]
      simp only [textOf, List.flatMap_cons, List.length_append]
      congr 2
      omega
/-- Where a token stands in the text. -/
theorem textOf_cut (ps : List Pc) (i : Nat) (p : Pc) (h : ps[i]? = some p) : cut (textOf ps) ((textOf (ps.take i)).length + p.a.length) ((textOf (ps.take i)).length + p.a.length + p.t.length) = p.t ∧ (textOf (ps.take i)).length + p.a.length + p.t.length ≤ (textOf ps).length := by
  obtain ⟨hi, rfl⟩ := List.getElem?_eq_some_iff.1 h
  have e : textOf ps = (textOf (ps.take i) ++ ps[i].a) ++ (ps[i].t ++ (ps[i].b ++ textOf (ps.drop (i + 1)))) := by
    conv => lhs; rw [← List.take_append_drop i ps, List.drop_eq_getElem_cons hi]
    unfold textOf
    rw [List.flatMap_append, List.flatMap_cons]
    simp [Pc.text]
  rw [e, ← List.length_append, cut_mid]
  refine ⟨rfl, ?_⟩
  simp only [List.length_append]
  omega
theorem textOf_snoc (ps : List Pc) (p : Pc) : textOf (ps ++ [p]) = textOf ps ++ p.text := by simp [textOf]
end Lx
end Go.Proofs.YtfbokhodcgpppaaDoor
