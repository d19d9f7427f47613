/- Layer 10, plain: a log's bytes; what is read of bytes as a log. No program in sight. -/
import Derived.Test.YtdihoedehmfgfaaTrG
import Derived.Test.YtdihoedehmfgfaaSumGoes
set_option linter.unusedSimpArgs false
set_option linter.unusedVariables false
namespace Go.Proofs.Ytdihoedehmfgfaa
open Go.ChangeShapes Go.WideShapes Go.ChangeAt Go.RowKit
namespace Lg
open Go.Proofs.Ytdihoedehmfgfaa.Lx (isIn nameB strs)
open Go.Proofs.Ytdihoedehmfgfaa.Rec (rises rec_ get putE rec_len put_len)
open Go.Proofs.Ytdihoedehmfgfaa.Sum (byte put right)
open Go.Proofs.Ytdihoedehmfgfaa.Tr (T Es tm ids mayP namesP nmB nOk namesTo)
def mark : List UInt8 := [87, 71, 76, 1]
def nm (s : ByteArray) : List UInt8 := byte (s.size : Int) :: s.data.toList
def nms (l : List ByteArray) : List UInt8 := l.flatMap nm
def preX (n : Nat) : List UInt8 := [87, 71, 76, 1, byte (n : Int)]
def headX (l : List ByteArray) : List UInt8 := preX l.length ++ nms l
def headerP (l : List ByteArray) : List UInt8 := put (headX l)
def recsX (es : Es) : List UInt8 := es.flatMap fun e => rec_ e.1 e.2
def encP (t : T) : List UInt8 := if mayP t = true then headerP t.names ++ recsX t.evs else []
theorem nms_snoc (l : List ByteArray) (k : Nat) (h : k < l.length) : nms (l.take (k + 1)) = nms (l.take k) ++ nm (l.getD k ⟨#[]⟩) := by
  have e : l.take (k + 1) = l.take k ++ [l.getD k ⟨#[]⟩] := by
    rw [List.take_add_one, List.getElem?_eq_getElem h]
    simp [List.getD_eq_getElem?_getD, h]
  rw [e]
  simp only [nms, List.flatMap_append, List.flatMap_cons, List.flatMap_nil, List.append_nil]
theorem recs_snoc (es : Es) (k : Nat) (h : k < es.length) : recsX (es.take (k + 1)) = recsX (es.take k) ++ rec_ (tm es k) (ids es k) := by
  have e := Tr.take_snoc es k h
  rw [e]
  simp only [recsX, List.flatMap_append, List.flatMap_cons, List.flatMap_nil, List.append_nil]
theorem nm_len (s : ByteArray) : (nm s).length = s.size + 1 := by
  show s.data.toList.length + 1 = s.data.size + 1
  rw [Array.length_toList]
theorem nms_len (l : List ByteArray) (h : ∀ s ∈ l, s.size ≤ 16) : (nms l).length ≤ 17 * l.length := by
  induction l with
  | nil => simp [nms]
  | cons x r ih =>
    have h1 := ih fun s hs => h s (by simp [hs])
    have h2 := h x (by simp)
    have e : nms (x :: r) = nm x ++ nms r := rfl
    rw [e, List.length_append, nm_len, List.length_cons]
    omega
theorem head_len (l : List ByteArray) (h : ∀ s ∈ l, s.size ≤ 16) : (headX l).length ≤ 5 + 17 * l.length := by
  have := nms_len l h
  simp only [headX, preX, List.length_append, List.length_cons, List.length_nil]
  omega
theorem recs_len (es : Es) (h : ∀ i, i < es.length → (ids es i).length ≤ 64) : (recsX es).length ≤ 78 * es.length := by
  induction es with
  | nil => simp [recsX]
  | cons x r ih =>
    have h1 := ih fun i hi => by
      have := h (i + 1) (by simpa using hi)
      simpa [ids] using this
    have h2 := h 0 (by simp)
    have e : recsX (x :: r) = rec_ x.1 x.2 ++ recsX r := rfl
    have e2 : ids (x :: r) 0 = x.2 := rfl
    rw [e2] at h2
    rw [e, List.length_append, rec_len, List.length_cons]
    omega
theorem nm_small {s : ByteArray} (h : nmB s = true) : 0 < s.size ∧ s.size ≤ 16 := by
  unfold Tr.nmB Lx.nameB at h
  simp only [Bool.and_eq_true, decide_eq_true_eq] at h
  have e : s.data.toList.length = s.size := Array.length_toList
  omega
theorem names_get {l : List ByteArray} (h : namesP l = true) (i : Nat) (hi : i < l.length) : nmB (l.getD i ⟨#[]⟩) = true ∧ isIn (l.getD i ⟨#[]⟩) (l.take i) = false := by
  unfold Tr.namesP Tr.namesTo at h
  rw [Bool.and_eq_true, List.all_eq_true] at h
  have := h.2 i (List.mem_range.2 hi)
  unfold Tr.nOk at this
  simpa using this
theorem names_le {l : List ByteArray} (h : namesP l = true) : l.length ≤ 64 := by
  unfold Tr.namesP at h
  simp only [Bool.and_eq_true, decide_eq_true_eq] at h
  exact h.1
theorem names_small {l : List ByteArray} (h : namesP l = true) : ∀ s ∈ l, s.size ≤ 16 := by
  intro s hs
  obtain ⟨i, hi, rfl⟩ := List.getElem_of_mem hs
  have := (nm_small (names_get h i hi).1).2
  simpa [List.getD_eq_getElem?_getD, hi] using this
theorem may_names {t : T} (h : mayP t = true) : namesP t.names = true := by
  unfold Tr.mayP at h
  rw [Bool.and_eq_true] at h
  exact h.1
/-! ### What is read -/
abbrev Hd := List ByteArray × Int × Int
def noHd (e : Int) : Hd := ([], 0, e)
def str (l : List UInt8) : ByteArray := ⟨l.toArray⟩
/-- The size at a place. -/
def sz (b : List UInt8) (i : Nat) : Nat := (b.getD i 0).toNat
def cutS (b : List UInt8) (i n : Nat) : ByteArray := str ((b.drop i).take n)
/-- Names one behind the other, whatever they are. -/
def parse (b : List UInt8) : Nat → Nat → List ByteArray → Option (List ByteArray × Nat)
  | 0, i, acc => some (acc, i)
  | k + 1, i, acc => if b.length ≤ i + sz b i then none else parse b k (i + 1 + sz b i) (acc ++ [cutS b (i + 1) (sz b i)])
def headE (b : List UInt8) (l : List ByteArray) (i : Nat) : Hd := if (right (b.take (i + 4))).isSome = true then (l, (i : Int) + 4, 0) else noHd 5
def headL (b : List UInt8) : Hd :=
  if b.length < 5 then noHd 5 else if b.take 4 ≠ mark ∨ 64 < sz b 4 then noHd 5 else
  match parse b (sz b 4) 5 [] with
  | none => noHd 5
  | some (l, i) => if b.length < i + 4 ∨ namesP l = false then noHd 5 else headE b l i
/-- The same, as the document has it: with the error that what is missing has. -/
def rgo (b : List UInt8) (m : Int) : Nat → Nat → List ByteArray → (List ByteArray × Nat) × Int
  | 0, i, acc => ((acc, i), 0)
  | k + 1, i, acc => if b.length ≤ i then (([], 0), m) else if sz b i < 1 ∨ 16 < sz b i then (([], 0), 5) else if b.length < i + 1 + sz b i then (([], 0), m) else
    if nmB (cutS b (i + 1) (sz b i)) = false ∨ isIn (cutS b (i + 1) (sz b i)) acc = true then (([], 0), 5) else rgo b m k (i + 1 + sz b i) (acc ++ [cutS b (i + 1) (sz b i)])
def headR (b : List UInt8) (m : Int) : Hd :=
  if b.length < 5 then noHd m else if b.take 4 ≠ mark ∨ 64 < sz b 4 then noHd 5 else
  match rgo b m (sz b 4) 5 [] with
  | ((l, i), e) => if e ≠ 0 then noHd e else if b.length < i + 4 then noHd m else headE b l i
theorem sz_lt (b : List UInt8) (i : Nat) : sz b i < 256 := (b.getD i 0).toNat_lt
theorem cutS_size (b : List UInt8) (i n : Nat) : (cutS b i n).size ≤ n := by
  show ((b.drop i).take n).toArray.size ≤ n
  simp only [List.size_toArray, List.length_take]
  omega
theorem cutS_full (b : List UInt8) (i n : Nat) (h : i + n ≤ b.length) : (cutS b i n).size = n := by
  show ((b.drop i).take n).toArray.size = n
  simp only [List.size_toArray, List.length_take, List.length_drop]
  omega
/-- What is parsed goes on from what was there. -/
theorem parse_ext (b : List UInt8) : ∀ (k i : Nat) (acc l : List ByteArray) (j : Nat), parse b k i acc = some (l, j) → ∃ r, l = acc ++ r ∧ r.length = k
  | 0, i, acc, l, j, h => by
    simp only [parse, Option.some.injEq, Prod.mk.injEq] at h
    exact ⟨[], by simp [h.1], rfl⟩
  | k + 1, i, acc, l, j, h => by
    unfold parse at h
    split at h
    · cases h
    · obtain ⟨r, h1, h2⟩ := parse_ext b k _ _ _ _ h
      exact ⟨cutS b (i + 1) (sz b i) :: r, by simp [h1], by simp [h2]⟩
theorem names_app {acc r : List ByteArray} (h : namesP (acc ++ r) = true) : namesP acc = true := by
  have h64 := names_le h
  rw [List.length_append] at h64
  refine Tr.names_yes (by omega) ?_
  unfold Tr.namesTo
  rw [List.all_eq_true]
  intro i hi
  have hi2 := List.mem_range.1 hi
  have := names_get h i (by rw [List.length_append]; omega)
  unfold Tr.nOk
  have e1 : (acc ++ r).getD i ⟨#[]⟩ = acc.getD i ⟨#[]⟩ := by simp [List.getD_eq_getElem?_getD, List.getElem?_append_left hi2]
  have e2 : (acc ++ r).take i = acc.take i := by rw [List.take_append_of_le_length (by omega)]
  rw [e1, e2] at this
  rw [this.1, this.2]
  rfl
theorem names_bad {acc : List ByteArray} {s : ByteArray} {r : List ByteArray} (h : nmB s = false ∨ isIn s acc = true) : namesP (acc ++ [s] ++ r) = false := by
  cases hb : namesP (acc ++ [s] ++ r) with
  | false => rfl
  | true =>
    exfalso
    have := names_get (names_app hb) acc.length (by simp)
    simp [List.getD_eq_getElem?_getD] at this
    rcases h with h | h <;> simp_all
theorem names_more {acc : List ByteArray} {s : ByteArray} (ha : namesP acc = true) (h64 : acc.length < 64) (h1 : nmB s = true) (h2 : isIn s acc = false) : namesP (acc ++ [s]) = true := by
  refine Tr.names_yes (by simp; omega) ?_
  unfold Tr.namesTo
  rw [List.all_eq_true]
  intro i hi
  have hi2 := List.mem_range.1 hi
  rw [List.length_append, List.length_singleton] at hi2
  unfold Tr.nOk
  by_cases hlt : i < acc.length
  · have := names_get ha i hlt
    have e1 : (acc ++ [s]).getD i ⟨#[]⟩ = acc.getD i ⟨#[]⟩ := by simp [List.getD_eq_getElem?_getD, List.getElem?_append_left hlt]
    have e2 : (acc ++ [s]).take i = acc.take i := by rw [List.take_append_of_le_length (by omega)]
    rw [e1, e2, this.1, this.2]
    rfl
  · obtain rfl : i = acc.length := by omega
    have e1 : (acc ++ [s]).getD acc.length ⟨#[]⟩ = s := by simp [List.getD_eq_getElem?_getD]
    have e2 : (acc ++ [s]).take acc.length = acc := by simp
    rw [e1, e2, h1, h2]
    rfl
/-- Both ways to names agree. -/
theorem rgo_parse (b : List UInt8) : ∀ (k i : Nat) (acc : List ByteArray), namesP acc = true → acc.length + k ≤ 64 →
    (∃ l j, rgo b 5 k i acc = ((l, j), 0) ∧ parse b k i acc = some (l, j) ∧ namesP l = true) ∨ (rgo b 5 k i acc = (([], 0), 5) ∧ (parse b k i acc = none ∨ ∃ l j, parse b k i acc = some (l, j) ∧ namesP l = false))
  | 0, i, acc, ha, hk => Or.inl ⟨acc, i, rfl, rfl, ha⟩
  | k + 1, i, acc, ha, hk => by
    unfold rgo parse
    by_cases h1 : b.length ≤ i
    · exact Or.inr ⟨by rw [if_pos h1], Or.inl (by rw [if_pos (by omega)])⟩
    · rw [if_neg h1]
      by_cases h3 : b.length < i + 1 + sz b i
      · refine Or.inr ⟨?_, Or.inl (by rw [if_pos (by omega)])⟩
        by_cases h2 : sz b i < 1 ∨ 16 < sz b i
        · rw [if_pos h2]
        · rw [if_neg h2, if_pos h3]
      · rw [if_neg (show ¬ b.length ≤ i + sz b i by omega)]
        have hfull := cutS_full b (i + 1) (sz b i) (by omega)
        by_cases h4 : nmB (cutS b (i + 1) (sz b i)) = false ∨ isIn (cutS b (i + 1) (sz b i)) acc = true
        · refine Or.inr ⟨?_, ?_⟩
          · by_cases h2 : sz b i < 1 ∨ 16 < sz b i
            · rw [if_pos h2]
            · rw [if_neg h2, if_neg h3, if_pos h4]
          · cases hp : parse b k (i + 1 + sz b i) (acc ++ [cutS b (i + 1) (sz b i)]) with
            | none => exact Or.inl rfl
            | some x =>
              obtain ⟨l, j⟩ := x
              obtain ⟨r, e1, _⟩ := parse_ext b k _ _ _ _ hp
              exact Or.inr ⟨l, j, rfl, by rw [e1]; exact names_bad h4⟩
        · have h41 : nmB (cutS b (i + 1) (sz b i)) = true := by cases h : nmB (cutS b (i + 1) (sz b i)) with | true => rfl | false => exact absurd (Or.inl h) h4
          have h42 : isIn (cutS b (i + 1) (sz b i)) acc = false := by cases h : isIn (cutS b (i + 1) (sz b i)) acc with | false => rfl | true => exact absurd (Or.inr h) h4
          have hsm := nm_small h41
          rw [hfull] at hsm
          rw [if_neg (show ¬ (sz b i < 1 ∨ 16 < sz b i) by omega), if_neg h3, if_neg h4]
          exact rgo_parse b k _ _ (names_more ha (by omega) h41 h42) (by rw [List.length_append, List.length_singleton]; omega)
theorem head_same (b : List UInt8) : headR b 5 = headL b := by
  unfold headR headL
  by_cases h1 : b.length < 5
  · rw [if_pos h1, if_pos h1]
  · rw [if_neg h1, if_neg h1]
    by_cases h2 : b.take 4 ≠ mark ∨ 64 < sz b 4
    · rw [if_pos h2, if_pos h2]
    · rw [if_neg h2, if_neg h2]
      rcases rgo_parse b (sz b 4) 5 [] (by decide) (by rw [List.length_nil]; omega) with ⟨l, j, e1, e2, e3⟩ | ⟨e1, e2 | ⟨l, j, e2, e3⟩⟩
      · rw [e1, e2]
        simp only [ne_eq, not_true, if_false, e3]
        by_cases h5 : b.length < j + 4
        · rw [if_pos h5, if_pos (Or.inl h5)]
        · rw [if_neg h5, if_neg (by rintro (h | h); exact h5 h; cases h)]
      · rw [e1, e2]
        rfl
      · rw [e1, e2]
        simp only [e3, or_true, if_true]
        rfl
/-! ### Records -/
/-- How records are read, one behind the other: the events, the error behind them. -/
def recs (b : List UInt8) (p : Int) : Nat → Nat → Es → Es × Int
  | 0, _, es => (es, 0)
  | f + 1, i, es => match get (b.drop i) p with
    | (x, n, e) => if e ≠ 0 then (es, e) else if 0 < es.length ∧ x.1 < tm es (es.length - 1) then (es, 8) else recs b p f (i + n.toNat) (es ++ [x])
def recsP (b : List UInt8) (l : List ByteArray) (i : Nat) : Es × Int := recs b l.length (b.length + 1) i []
/-- What log.Decode hands back. -/
def decP (b : List UInt8) : T × Int × Int :=
  match headL b with
  | (l, i, e) => if e ≠ 0 then (⟨[], []⟩, 0, e) else
    match recsP b l i.toNat with
    | (es, f) => (⟨l, es⟩, es.length, if f = 13 then 0 else f)
/-- What watchglassref8.Records hands back, without a fault. -/
def recordsP (b : List UInt8) (m : Int) : T × Int :=
  match headR b m with
  | (l, i, e) => if e ≠ 0 then (⟨[], []⟩, e) else
    match recsP b l i.toNat with
    | (es, f) => (⟨l, es⟩, f)
theorem head_err (b : List UInt8) : headL b = noHd 5 ∨ (headL b).2.2 = 0 := by
  unfold headL headE
  repeat' split
  all_goals first | exact Or.inl rfl | exact Or.inr rfl
theorem dec_same (b : List UInt8) : decP b = ((recordsP b 5).1, ((recordsP b 5).1.evs.length : Int), if (recordsP b 5).2 = 13 then 0 else (recordsP b 5).2) := by
  unfold decP recordsP
  rw [head_same]
  have h := head_err b
  generalize headL b = x at *
  obtain ⟨l, i, e⟩ := x
  rcases h with h | h
  · cases h
    rfl
  · have h2 : e = 0 := h
    subst h2
    rfl
end Lg
end Go.Proofs.Ytdihoedehmfgfaa
