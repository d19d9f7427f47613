/- Names: the contracts of slices.Index and Contains for strings, Reserved, lex.Name and watchglassref1.Name. No condition but the lengths that any string has. -/
import Derived.Test.YtjelbfodkacipaaLexB
import Derived.MapKept
import Derived.Laws.StructEq
set_option linter.unusedSimpArgs false
set_option linter.unusedVariables false
namespace Go.Proofs.Ytjelbfodkacipaa
open Go.ChangeShapes Go.WideShapes Go.ChangeAt Go.RowKit
namespace Lx
def strs (l : List ByteArray) : List Value := l.map .string
theorem strs_length (l : List ByteArray) : (strs l).length = l.length := by simp [strs]
theorem strs_open {w : World} {v : Value} {l : List ByteArray} (h : Sl w v (strs l)) : ∃ p cap, v = .slice p l.length cap ∧ l.length ≤ cap ∧ cap ≤ maxLen ∧ (p = none → cap = 0) ∧ Cells w p (strs l) := h.open (strs_length l)
theorem strs_cell {w : World} {p : Option Addr} {l : List ByteArray} (h : Cells w p (strs l)) (i : Nat) (hi : i < l.length) :
    ∃ b off, p = some ⟨b, off, none⟩ ∧ w.cell? ⟨b, off + i, none⟩ = some (.string l[i]) := by
  obtain ⟨b, off, e, h⟩ := h i (by rw [strs_length]; exact hi)
  refine ⟨b, off, e, ?_⟩
  rw [h]; simp [strs]
theorem beq_str (a b : ByteArray) : (a.toList == b.toList) = decide (a = b) := by rw [← beq_toListBytes, Bool.eq_iff_iff, Go.MapKept.bytes_beq, decide_eq_true_iff]
def isIn (s : ByteArray) (l : List ByteArray) : Bool := l.any fun y => s.toList == y.toList
theorem isIn_iff (s : ByteArray) (l : List ByteArray) : isIn s l = true ↔ s ∈ l := by
  unfold isIn
  rw [List.any_eq_true]
  constructor
  · rintro ⟨y, hy, h⟩
    rw [beq_str, decide_eq_true_iff] at h
    rw [h]; exact hy
  · intro h
    exact ⟨s, h, beq_self_eq_true _⟩
theorem not_take {l : List ByteArray} {s : ByteArray} {k : Nat} (hk : k < l.length) (h : s ∉ l.take k) (he : l[k] ≠ s) : s ∉ l.take (k + 1) := by
  rw [List.take_add_one, List.getElem?_eq_getElem hk]
  simp only [List.mem_append, Option.toList_some, List.mem_singleton, not_or]
  exact ⟨h, fun e => he e.symm⟩
/-- A call hands back a place of s, or one below 0. -/
def HandsI (w : World) (l : List ByteArray) (s : ByteArray) (e : Ending) (w' : World) : Prop := ∃ i : Int, e = .returned (.int .i64 i) ∧ (0 ≤ i ↔ s ∈ l) ∧ (0 ≤ i → l[i.toNat]? = some s ∧ i < l.length) ∧ -1 ≤ i ∧ Nw w w'
theorem index_c (v : Value) (l : List ByteArray) (s : ByteArray) (w : World) (hv : Sl w v (strs l)) : Calls Try.prog 50 #[v, .string s] w (HandsI w l s) := by
  obtain ⟨p, cap, rfl, hcap, hmx, _, hc⟩ := strs_open hv
  unfold maxLen at hmx
  have HC := hid hc
  clear hc hv
  go_enter Try.func50, Try.ntmps50
  go_wp2
  go_loopw [5, 8] (fun _ i wr => ∃ k : Nat, k ≤ l.length ∧ i = .int .i64 k ∧ Hid (s ∉ l.take k) ∧ Nw w wr) (fun _ i _ => l.length - (intOf i).toNat)
  case atStart => exact ⟨0, Nat.zero_le _, rfl, (by simp : s ∉ l.take 0), Nw.refl _⟩
  case round =>
    obtain ⟨k, hk, rfl, ht, hn⟩ := hrel
    by_cases hlt : k < l.length
    · have hdk : decide (k < l.length) = true := decide_eq_true hlt
      obtain ⟨b1, o1, rfl, hcell⟩ := strs_cell (HC.out.nw hn) k hlt
      by_cases he : l[k] = s
      · have hd : (s.toList == l[k].toList) = true := by rw [he]; exact beq_self_eq_true _
        have HM := hid (show s ∈ l from he ▸ List.getElem_mem hlt)
        have HG := hid (show l[k]? = some s by rw [List.getElem?_eq_getElem hlt, he])
        clear he
        generalize l[k] = y at *
        go_wp2
        go_ret
        exact ⟨(k : Int), rfl, ⟨fun _ => HM.out, fun _ => by omega⟩, fun _ => ⟨by rw [Int.toNat_natCast]; exact HG.out, by omega⟩, by omega, hn⟩
      · have hd : (s.toList == l[k].toList) = false := by rw [beq_str]; exact decide_eq_false (fun e => he e.symm)
        have HN := hid (not_take hlt ht.out he)
        clear he
        generalize l[k] = y at *
        go_wp2
        go_roundw
        case rel => exact ⟨k + 1, by omega, by go_num, HN, hn⟩
        case measure => simp [intOf]; omega
    · have hdk : decide (k < l.length) = false := decide_eq_false hlt
      have HN := hid (show s ∉ l by have := ht.out; rwa [List.take_of_length_le (by omega)] at this)
      go_wp2
      go_ret
      exact ⟨-1, rfl, ⟨fun h => by omega, fun h => absurd h HN.out⟩, fun h => by omega, by omega, hn⟩
theorem contains_c (v : Value) (l : List ByteArray) (s : ByteArray) (w : World) (hv : Sl w v (strs l)) : Calls Try.prog 44 #[v, .string s] w (Gives (.bool (isIn s l)) w) := by
  go_enter Try.func44, Try.ntmps44
  go_wp2_with (first
    | (go_at_call 50; refine (index_c _ _ _ _ hv).mono ?_; rintro e w1 ⟨i, rfl, hi, _, _, hn1⟩)
    | fail)
  go_ret
  exact Gives.b (by rw [Bool.eq_iff_iff, isIn_iff]; simp only [decide_eq_true_eq]; exact hi) (by repeat (first | assumption | exact Nw.refl _ | refine Nw.alloc ?_ _ | refine Nw.drew ?_ | refine Nw.drewN2 ?_ _ | (refine Nw.trans ?_ (by assumption))))
/-! ### Reserved -/
def words : List ByteArray := [⟨#[116, 114, 117, 101]⟩, ⟨#[102, 97, 108, 115, 101]⟩, ⟨#[112, 114, 101, 118]⟩, ⟨#[110, 101, 120, 116]⟩, ⟨#[111, 110, 99, 101]⟩, ⟨#[104, 105, 115, 116]⟩, ⟨#[115, 111, 109, 101]⟩, ⟨#[97, 108, 108]⟩, ⟨#[115, 105, 110, 99, 101]⟩, ⟨#[117, 110, 116, 105, 108]⟩, ⟨#[98, 97, 99, 107]⟩, ⟨#[102, 111, 114, 101]⟩]
def words13 : List ByteArray := words ++ [⟨#[]⟩]
theorem words_index : ∀ (k : Nat) (_ : k < 13) (w : World), (Instr.index 95 (.agg (strs words13).toArray) (.int .i64 (k : Int))).run Try.prog w = .ok (.string (words13.getD k ⟨#[]⟩)) w := fun k hk w => match k, hk with
  | 0, _ => by kernel_rfl
  | 1, _ => by kernel_rfl
  | 2, _ => by kernel_rfl
  | 3, _ => by kernel_rfl
  | 4, _ => by kernel_rfl
  | 5, _ => by kernel_rfl
  | 6, _ => by kernel_rfl
  | 7, _ => by kernel_rfl
  | 8, _ => by kernel_rfl
  | 9, _ => by kernel_rfl
  | 10, _ => by kernel_rfl
  | 11, _ => by kernel_rfl
  | 12, _ => by kernel_rfl
set_option maxRecDepth 20000 in
theorem reserved_c (s : ByteArray) (w : World) : Calls Try.prog 72 #[.string s] w (Gives (.bool (isIn s words13)) w) := by
  go_enter Try.func72, Try.ntmps72
  go_wp2
  have HW := hid words_index
  have hlen : words13.length = 13 := rfl
  rw [show (#[Value.string ⟨#[116, 114, 117, 101]⟩, .string ⟨#[102, 97, 108, 115, 101]⟩, .string ⟨#[112, 114, 101, 118]⟩, .string ⟨#[110, 101, 120, 116]⟩, .string ⟨#[111, 110, 99, 101]⟩, .string ⟨#[104, 105, 115, 116]⟩, .string ⟨#[115, 111, 109, 101]⟩, .string ⟨#[97, 108, 108]⟩, .string ⟨#[115, 105, 110, 99, 101]⟩, .string ⟨#[117, 110, 116, 105, 108]⟩, .string ⟨#[98, 97, 99, 107]⟩, .string ⟨#[102, 111, 114, 101]⟩, .string ⟨#[]⟩] : Array Value) = (strs words13).toArray from rfl]
  generalize words13 = l at *
  generalize (strs l).toArray = arr at *
  go_loopw [4, 6] (fun _ i wr => ∃ k : Nat, k ≤ 13 ∧ i = .int .i64 k ∧ Hid (s ∉ l.take k) ∧ Nw w wr) (fun _ i _ => 13 - (intOf i).toNat)
  case atStart => exact ⟨0, Nat.zero_le _, rfl, (by simp : s ∉ l.take 0), Nw.refl _⟩
  case round =>
    obtain ⟨k, hk, rfl, ht, hn⟩ := hrel
    by_cases hlt : k < 13
    · have hdk : decide ((k : Int) < 13) = true := decide_eq_true (by omega)
      have hw := HW.out k hlt
      have hll : k < l.length := by omega
      have eg : l.getD k ⟨#[]⟩ = l[k] := by simp [List.getD_eq_getElem?_getD, hll]
      rw [eg] at hw
      clear eg
      by_cases he : l[k] = s
      · have hd : (s.toList == l[k].toList) = true := by rw [he]; exact beq_self_eq_true _
        have HM := hid (show isIn s l = true from (isIn_iff s l).2 (he ▸ List.getElem_mem hll))
        clear he
        generalize l[k] = y at *
        go_wp2
        go_ret
        exact Gives.b HM.out.symm hn
      · have hd : (s.toList == l[k].toList) = false := by rw [beq_str]; exact decide_eq_false (fun e => he e.symm)
        have HN := hid (not_take hll ht.out he)
        clear he
        generalize l[k] = y at *
        go_wp2
        go_roundw
        case rel => exact ⟨k + 1, by omega, by go_num, HN, hn⟩
        case measure => simp [intOf]; omega
    · obtain rfl : k = 13 := by omega
      have hdk : decide ((13 : Int) < 13) = false := rfl
      have HN := hid (show isIn s l = false by
        have h1 := ht.out
        rw [List.take_of_length_le (by omega)] at h1
        cases hi : isIn s l with
        | false => rfl
        | true => exact absurd ((isIn_iff s l).1 hi) h1)
      go_wp2
      go_ret
      exact Gives.b HN.out.symm hn
end Lx
end Go.Proofs.Ytjelbfodkacipaa
