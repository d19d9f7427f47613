/- Texts of blanks and words of letters, as they are read (plain). -/
import Derived.Test.YtfbokhodcgpppaaLexM
import Derived.Test.YtfbokhodcgpppaaFill8
namespace Go.Proofs.Ytfbokhodcgpppaa
open Go.ChangeShapes Go.WideShapes Go.ChangeAt Go.RowKit
namespace Lx
theorem lexgo_blanks (n : Nat) : ∀ (m k f : Nat) (acc : List Tk), n = k + m → m < f → lexGo (List.replicate n 32) f k acc = (acc ++ [⟨0, [], 0, n⟩], 0, 0) := by
  intro m
  induction m with
  | zero =>
    intro k f acc h hf
    obtain ⟨f, rfl⟩ : ∃ f', f = f' + 1 := ⟨f - 1, by omega⟩
    rw [go_end _ _ _ _ (by simp; omega)]
    simp
  | succ m ih =>
    intro k f acc h hf
    obtain ⟨f, rfl⟩ : ∃ f', f = f' + 1 := ⟨f - 1, by omega⟩
    rw [go_blank _ _ _ _ 32 (by rw [List.getElem?_replicate, if_pos (by omega)]) (Or.inl rfl)]
    exact ih (k + 1) f acc (by omega) (by omega)
theorem lex_blanks (n : Nat) : lexP (List.replicate n 32) = if 2000 < n then ([], 0, 4) else ([⟨0, [], 0, n⟩], 0, 0) := by
  unfold lexP
  rw [List.length_replicate]
  split
  · rfl
  · rw [lexgo_blanks n n 0 (n + 1) [] (by omega) (by omega)]; rfl
theorem fin_all (P : UInt8 → Bool) (bs : List UInt8) : ∀ (m k : Nat), bs.length = k + m → (∀ x ∈ bs, P x = true) → fin P bs k = bs.length := by
  intro m
  induction m with
  | zero => intro k h _; have := fin_le P bs k (by omega); omega
  | succ m ih =>
    intro k h hp
    obtain ⟨x, hx⟩ : ∃ x, bs[k]? = some x := ⟨bs[k], by rw [List.getElem?_eq_getElem]⟩
    rw [fin_step P bs k x hx (hp x (List.mem_of_getElem? hx))]
    exact ih (k + 1) (by omega) hp
theorem not_word (bs : List UInt8) (h : 12 ≤ bs.length) : isIn ⟨bs.toArray⟩ words = false := by
  rw [Bool.eq_false_iff]
  intro hc
  rw [isIn_iff] at hc
  have hs : ∀ y ∈ words, y.size < 12 := by decide +kernel
  have := hs _ hc
  rw [show (ByteArray.mk bs.toArray).size = bs.length from by simp [ByteArray.size]] at this
  omega
theorem name_letters (bs : List UInt8) (h : 12 ≤ bs.length) (hs : ∀ x ∈ bs, sm x = true) : nameB bs = decide (bs.length ≤ 16) := by
  unfold nameB
  rw [not_word bs h, decide_eq_true (show 0 < bs.length by omega), fin_all mo bs bs.length 0 (by omega) (fun x hx => sm_mo (hs x hx))]
  have : sm (bs.getD 0 0) = true := by
    obtain ⟨x, r, rfl⟩ : ∃ x r, bs = x :: r := by
      cases bs with
      | nil => simp at h
      | cons x r => exact ⟨x, r, rfl⟩
    exact hs x (by simp)
  rw [this]
  simp
theorem lex_letters (bs : List UInt8) (h : 16 < bs.length) (h2 : bs.length ≤ 2000) (hs : ∀ x ∈ bs, sm x = true) : lexP bs = ([], 0, 2) := by
  obtain ⟨x, r, rfl⟩ : ∃ x r, bs = x :: r := by
    cases bs with
    | nil => simp at h
    | cons x r => exact ⟨x, r, rfl⟩
  have hx := hs x (by simp)
  unfold lexP
  rw [if_neg (by omega)]
  refine go_none _ _ _ _ x rfl (sm_not_blank hx) ?_
  unfold tokAt
  rw [if_pos hx, fin_all mo (x :: r) (x :: r).length 0 (by omega) (fun y hy => sm_mo (hs y hy)), if_pos (by omega)]
def letters (n m : Nat) : List UInt8 := (List.range m).map fun i => UInt8.ofNat (97 + (i + n) % 26)
theorem letters_len (n m : Nat) : (letters n m).length = m := by simp [letters]
theorem letters_at (n m i : Nat) (h : i < m) : (letters n m)[i]? = some (UInt8.ofNat (97 + (i + n) % 26)) := by simp [letters, h]
theorem letters_sm (n m : Nat) : ∀ x ∈ letters n m, sm x = true := by
  intro x hx
  simp only [letters, List.mem_map, List.mem_range] at hx
  obtain ⟨i, _, rfl⟩ := hx
  have h : (UInt8.ofNat (97 + (i + n) % 26)).toNat = 97 + (i + n) % 26 := by rw [UInt8.toNat_ofNat']; omega
  unfold sm
  rw [h, decide_eq_true (by omega), decide_eq_true (by omega)]; rfl
end Lx
end Go.Proofs.Ytfbokhodcgpppaa
