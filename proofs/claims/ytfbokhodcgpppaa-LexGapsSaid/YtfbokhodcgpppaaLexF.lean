/- The contracts of strings.IndexByte, strings.HasPrefix and of the reference's sign: is a byte a sign, begins a text so? No condition but lengths. -/
import Derived.Test.YtfbokhodcgpppaaLexE
import Derived.Lib.Bytealg
namespace Go.Proofs.Ytfbokhodcgpppaa
open Go.ChangeShapes Go.WideShapes Go.ChangeAt Go.RowKit
namespace Lx
theorem idx_mem (l : List UInt8) (c : UInt8) : decide (0 ≤ Lib.indexByte l c) = decide (c ∈ l) := by
  rw [Bool.eq_iff_iff, decide_eq_true_iff, decide_eq_true_iff]
  induction l with
  | nil => simp [Lib.indexByte]
  | cons b l ih =>
    have hge := Lib.indexByte_ge l c
    unfold Lib.indexByte
    by_cases h : b = c
    · subst h; simp
    · rw [if_neg (by simpa using h)]
      by_cases h2 : Lib.indexByte l c = -1
      · rw [if_pos (by simpa using h2)]
        simp only [List.mem_cons]
        constructor
        · intro h3; omega
        · rintro (h3 | h3)
          · exact absurd h3.symm h
          · have := ih.2 h3; omega
      · rw [if_neg (by simpa using h2)]
        simp only [List.mem_cons]
        constructor
        · intro _; exact Or.inr (ih.1 (by omega))
        · intro _; omega
theorem idx_c (s : ByteArray) (c : UInt8) (w : World) : Calls Try.prog 46 #[.string s, .int .u8 (c.toNat : Int)] w (Gives (.int .i64 (Lib.indexByte s.data.toList c)) w) := by
  have HE := hid (show ((c.toNat : Int).toNat.toUInt8) = c by simp)
  go_enter Try.func46, Try.ntmps46
  go_wp2
  rw [run_callFunc_extern Try.func55 (by kernel_rfl) (by kernel_rfl) (by kernel_rfl) (e := Extern.BytealgIndexByte.indexByte) (by kernel_rfl), Lib.run_indexByteString]
  simp only [Result.andThen]
  rw [Oper.upon_value]
  go_wp2
  go_ret
  exact Gives.i (by first | rfl | rw [HE.out]) (by repeat (first | assumption | exact Nw.refl _ | refine Nw.alloc ?_ _ | refine Nw.drew ?_ | refine Nw.drewN2 ?_ _ | (refine Nw.trans ?_ (by assumption))))
def sgn : ByteArray := ⟨#[40, 41, 91, 93, 123, 125, 44, 42, 46, 63, 43, 59, 33, 38, 124]⟩
theorem idxs_c (c : UInt8) (w : World) : Calls Try.prog 46 #[.string ⟨#[40, 41, 91, 93, 123, 125, 44, 42, 46, 63, 43, 59, 33, 38, 124]⟩, .int .u8 (c.toNat : Int)] w fun e w' => ∃ i : Int, e = .returned (.int .i64 i) ∧ Hid (decide (0 ≤ i) = decide (c ∈ signs)) ∧ Nw w w' := by
  refine (idx_c _ c w).mono ?_
  rintro e w1 ⟨rfl, hn⟩
  exact ⟨_, rfl, idx_mem signs c, hn⟩
set_option maxRecDepth 20000 in
theorem sign_c (x : UInt8) (w : World) : Calls Try.prog 32 #[.int .u8 (x.toNat : Int)] w (Gives (.bool (decide (x ∈ signs))) w) := by
  have HSL := hid (show signs.length = 15 from rfl)
  go_enter Try.func32, Try.ntmps32
  go_wp2
  obtain ⟨S, hS⟩ : ∃ S, S = ByteArray.mk #[40, 41, 91, 93, 123, 125, 44, 42, 46, 63, 43, 59, 33, 38, 124] := ⟨_, rfl⟩
  rw [← hS]
  have hsz : S.size = 15 := by rw [hS]; rfl
  have HS := hid (fun (k : Nat) (y : UInt8) (hy : signs[k]? = some y) => (show ∃ h, S[k]'h = y by rw [hS]; exact str_at hy))
  clear hS
  go_loopw [3, 4] (fun _ i wr => ∃ k : Nat, k ≤ 15 ∧ i = .int .i64 k ∧ Hid (x ∉ signs.take k) ∧ Nw w wr) (fun _ i _ => 15 - (intOf i).toNat)
  case atStart => exact ⟨0, Nat.zero_le _, rfl, (by simp : x ∉ signs.take 0), Nw.refl _⟩
  case round =>
    obtain ⟨k, hk, rfl, ht, hn⟩ := hrel
    by_cases hlt : k < 15
    · have hdk : decide ((k : Int) < 15) = true := decide_eq_true (by omega)
      obtain ⟨y, hy⟩ : ∃ y, signs[k]? = some y := ⟨signs[k]'(by rw [HSL.out]; exact hlt), by rw [List.getElem?_eq_getElem]⟩
      obtain ⟨hgb, hgx⟩ := HS.out k y hy
      by_cases he : y = x
      · subst he
        have HM := hid (show decide (y ∈ signs) = true from decide_eq_true (List.mem_of_getElem? hy))
        clear hy
        go_wp2
        go_ret
        exact Gives.b HM.out.symm hn
      · have hd : ((y.toNat : Int) == (x.toNat : Int)) = false := by rw [beq_eq_false_iff_ne]; exact fun e => he (UInt8.toNat_inj.1 (by omega))
        have HN := hid (show x ∉ signs.take (k + 1) by
          rw [List.take_add_one, hy]
          simp only [List.mem_append, Option.toList_some, List.mem_singleton, not_or]
          exact ⟨ht.out, fun e => he e.symm⟩)
        clear hy he
        go_wp2
        go_roundw
        case rel => exact ⟨k + 1, by omega, by go_num, HN, hn⟩
        case measure => simp [intOf]; omega
    · obtain rfl : k = 15 := by omega
      have hdk : decide ((15 : Int) < 15) = false := rfl
      have HN := hid (show decide (x ∈ signs) = false from decide_eq_false (by have := ht.out; rwa [List.take_of_length_le (by rw [HSL.out]; decide)] at this))
      go_wp2
      go_ret
      exact Gives.b HN.out.symm hn
end Lx
end Go.Proofs.Ytfbokhodcgpppaa
