/- The contracts of strings.IndexByte, strings.HasPrefix and of the reference's sign: is a byte a sign, begins a text so? No condition but lengths. -/
import Derived.Test.YtfbokhodcgpppaaDoorLexE
import Derived.Lib.Bytealg
namespace Go.Proofs.YtfbokhodcgpppaaDoor
open Go.ChangeShapes Go.WideShapes Go.ChangeAt Go.RowKit
namespace Lx
theorem idx_mem (l : List UInt8) (c : UInt8) : decide (0 ≤ Lib.indexByte l c) = decide (c ∈ l) := by
  rw [Bool.eq_iff_iff, decide_eq_true_iff, decide_eq_true_iff]
  induction l with
  | nil => simp [Lib.indexByte]
  | cons b l ih =>
    have hge := Lib.indexByte_ge l c
    unfold Lib.indexByte
    by_cases h : b = c
    · subst h; simp
    · rw [if_neg (by simpa using h)]
      by_cases h2 : Lib.indexByte l c = -1
      · rw [if_pos (by simpa using h2)]
        simp only [List.mem_cons]
        constructor
        · intro h3; omega
        · rintro (h3 | h3)
          · exact absurd h3.symm h
          · have := ih.2 h3; omega
      · rw [if_neg (by simpa using h2)]
        simp only [List.mem_cons]
        constructor
        · intro _; exact Or.inr (ih.1 (by omega))
        · intro _; omega
theorem idx_c (s : ByteArray) (c : UInt8) (w : World) : Calls Tryd.prog 14 #[.string s, .int .u8 (c.toNat : Int)] w (Gives (.int .i64 (Lib.indexByte s.data.toList c)) w) := by
  have HE := hid (show ((c.toNat : Int).toNat.toUInt8) = c by simp)
  go_enter Tryd.func14, Tryd.ntmps14
  go_wp2
  rw [run_callFunc_extern Tryd.func27 (by kernel_rfl) (by kernel_rfl) (by kernel_rfl) (e := Extern.BytealgIndexByte.indexByte) (by kernel_rfl), Lib.run_indexByteString]
  simp only [Result.andThen]
  rw [Oper.upon_value]
  go_wp2
  go_ret
  exact Gives.i (by first | rfl | rw [HE.out]) (by repeat (first | assumption | exact Nw.refl _ | refine Nw.alloc ?_ _ | refine Nw.drew ?_ | refine Nw.drewN2 ?_ _ | (refine Nw.trans ?_ (by assumption))))
def sgn : ByteArray := ⟨#[40, 41, 91, 93, 123, 125, 44, 42, 46, 63, 43, 59, 33, 38, 124]⟩
theorem idxs_c (c : UInt8) (w : World) : Calls Tryd.prog 14 #[.string ⟨#[40, 41, 91, 93, 123, 125, 44, 42, 46, 63, 43, 59, 33, 38, 124]⟩, .int .u8 (c.toNat : Int)] w fun e w' => ∃ i : Int, e = .returned (.int .i64 i) ∧ Hid (decide (0 ≤ i) = decide (c ∈ signs)) ∧ Nw w w' := by
  refine (idx_c _ c w).mono ?_
  rintro e w1 ⟨rfl, hn⟩
  exact ⟨_, rfl, idx_mem signs c, hn⟩
end Lx
end Go.Proofs.YtfbokhodcgpppaaDoor
