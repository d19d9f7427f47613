/- Joined texts.
Layer 12, plain: what is read of a source; records read so. No program in sight.
The contract of scan.read. No condition but lengths.
-/
import Derived.Test.YtdihoedehmfgfaaLogH
import Derived.Test.YtdihoedehmfgfaaJSo
set_option linter.unusedSimpArgs false
set_option linter.unusedVariables false
namespace Go.Proofs.Ytdihoedehmfgfaa
open Go.ChangeShapes Go.WideShapes Go.ChangeAt Go.RowKit
namespace Sc
open Go.Proofs.Ytdihoedehmfgfaa.Rec (rises get none_ pr size right_some)
open Go.Proofs.Ytdihoedehmfgfaa.Sum (put right)
/-- As many bytes from a place on as can be read; the error that ended them. -/
def rd (b : List UInt8) (r at_ : Nat) (most : Int) : List UInt8 × Int :=
  (((b.take r).drop at_).take most.toNat, if most ≤ 0 ∨ (at_ : Int) + most ≤ r then 0 else if r < b.length ∧ at_ < b.length then 10 else 13)
theorem rd_step {b : List UInt8} {r at_ m K : Nat} (h : at_ + m + K ≤ r) : ((b.take r).drop at_).take m ++ (b.drop (at_ + m)).take K = ((b.take r).drop at_).take (m + K) := by
  have e : ((b.take r).drop at_).drop m = (b.drop (at_ + m)).take (r - (at_ + m)) := by
    rw [List.drop_drop, List.drop_take]
  have e2 : (((b.take r).drop at_).drop m).take K = (b.drop (at_ + m)).take K := by
    rw [e, List.take_take, Nat.min_eq_left (by omega)]
  rw [← e2, List.take_add]
theorem rd_len {b : List UInt8} {r at_ m : Nat} (hr : r ≤ b.length) (h : at_ + m ≤ r) : (((b.take r).drop at_).take m).length = m := by
  rw [List.length_take, List.length_drop, List.length_take]; omega
/-- An error: nothing can be read there. -/
def why (b : List UInt8) (p : Nat) : Int := if b.length ≤ p then 13 else 10
theorem rd_full {b : List UInt8} {r at_ : Nat} {most : Int} (m : Nat) (hm : most = (m : Int)) (h : at_ + m ≤ r) : rd b r at_ most = (((b.take r).drop at_).take m, 0) := by
  subst hm
  unfold rd
  rw [if_pos (Or.inr (by omega)), Int.toNat_natCast]
theorem rd_none {b : List UInt8} {r at_ : Nat} {most : Int} (h : most ≤ 0) : rd b r at_ most = ([], 0) := by
  unfold rd
  rw [if_pos (Or.inl h), show most.toNat = 0 by omega, List.take_zero]
theorem rd_short {b : List UInt8} {r at_ m : Nat} {most : Int} (hr : r ≤ b.length) (hm : (m : Int) < most) (h : r ≤ at_ + m) (h2 : at_ + m ≤ r ∨ m = 0) : rd b r at_ most = (((b.take r).drop at_).take m, why b (at_ + m)) := by
  have hl : ((b.take r).drop at_).length ≤ m := by rw [List.length_drop, List.length_take]; omega
  unfold rd why
  rw [if_neg (by omega), List.take_of_length_le hl, List.take_of_length_le (by omega)]
  congr 1
  by_cases q : b.length ≤ at_ + m
  · rw [if_neg (by omega), if_pos q]
  · rw [if_pos (by omega), if_neg q]
/-- What watchglassref8.Record hands back; r: how many bytes can be read. -/
def recP (b : List UInt8) (r : Nat) (at_ p : Int) : Rec.Got :=
  if at_ < 0 then none_ 1 else if (b.length : Int) ≤ at_ then none_ 13 else
  match get ((b.take r).drop (min at_.toNat r)) p with
  | (x, n, e) => if r < b.length ∧ (e = 13 ∨ e = 7) then none_ 10 else if e ≠ 0 then none_ e else (x, at_ + n, 0)
theorem get_take {d : List UInt8} {p : Int} (h : 2 ≤ d.length) : get (d.take (min (size d) 72 + 6)) p = get d p := by
  have hb := Rec.pr_bd p
  have hl : (d.take (min (size d) 72 + 6)).length = min (min (size d) 72 + 6) d.length := List.length_take
  have hs : size (d.take (min (size d) 72 + 6)) = size d := by
    unfold size
    simp only [List.getD_eq_getElem?_getD]
    rw [List.getElem?_take_of_lt (by omega), List.getElem?_take_of_lt (by omega)]
  unfold Rec.get
  rw [hs, hl, if_neg (by omega), if_neg (show ¬ d.length = 0 by omega), if_neg (by omega), if_neg (show ¬ d.length = 1 by omega)]
  by_cases h3 : size d < 8 ∨ 8 + pr p < size d
  · rw [if_pos h3, if_pos h3]
  · rw [if_neg h3, if_neg h3]
    have h72 : min (size d) 72 = size d := by omega
    rw [h72]
    by_cases h4 : d.length < size d + 6
    · rw [if_pos (by omega), if_pos h4]
    · rw [if_neg (by omega), if_neg h4, List.take_take, Nat.min_self]
end Sc
end Go.Proofs.Ytdihoedehmfgfaa
namespace Go.Proofs.Ytdihoedehmfgfaa
open Go.ChangeShapes Go.WideShapes Go.ChangeAt Go.RowKit
theorem Mods.up {S : Nat → Prop} {w w1 w2 : World} {B : Nat} (h : Mods S w w1) (h2 : Mods (B ≤ ·) w1 w2) (hB : w.heap.size ≤ B) : Mods S w w2 :=
  ⟨h2.os.trans h.os, h2.tape.trans h.tape, h2.output.trans h.output, Nat.le_trans h.size h2.size, fun k hk hs => (h2.block k (Nat.lt_of_lt_of_le hk h.size) (fun q => by omega)).trans (h.block k hk hs)⟩
namespace Sc
open Go.Proofs.Ytdihoedehmfgfaa.Src (Is read read_in)
/-- A source at block a, its data in blocks between B and a. -/
def SI (w : World) (B a : Nat) (b : List UInt8) (sc : List Int) (r n : Nat) : Prop := Is w (fun k => B ≤ k ∧ k < a) a b sc r n
theorem SI.mods {w w' : World} {B a : Nat} {b : List UInt8} {sc : List Int} {r n : Nat} (h : SI w B a b sc r n) {S : Nat → Prop} (hm : Mods S w w') (hS : ∀ k, S k → a < k) : SI w' B a b sc r n :=
  Is.mods h hm (fun q => by have := hS _ q; omega) (fun k hk q => by have := hS _ q; omega)
theorem SI.nw {w w' : World} {B a : Nat} {b : List UInt8} {sc : List Int} {r n : Nat} (h : SI w B a b sc r n) (hn : Nw w w') : SI w' B a b sc r n := Is.nw h hn
theorem SI.lt {w : World} {B a : Nat} {b : List UInt8} {sc : List Int} {r n : Nat} (h : SI w B a b sc r n) : a < w.heap.size := by
  obtain ⟨_, _, h1, _⟩ := h
  exact (Array.getElem?_eq_some_iff.1 h1).1
/-- What is known of a source's data. -/
structure Ok (b : List UInt8) (sc : List Int) (r : Nat) : Prop where
  le : r ≤ b.length
  len : b.length ≤ 1000000000
  sc : ∀ x ∈ sc, -9223372036854775808 ≤ x ∧ x ≤ 9223372036854775807
/-- A call hands back bytes and an error; the source has gone on. -/
def HandsRd (w : World) (B a : Nat) (b : List UInt8) (sc : List Int) (r n : Nat) (most : Int) (x : List UInt8 × Int) (e : Ending) (w' : World) : Prop :=
  ∃ v n', e = .returned (.tuple #[v, .int .i64 x.2]) ∧ Own w' w.heap.size 5 v (u8s x.1) ∧ SI w' B a b sc r n' ∧ n' ≤ n + most.toNat ∧ Mods (· = a) w w'
def lenOf : Value → Nat
  | .slice _ n _ => n
  | _ => 0
set_option maxRecDepth 20000 in
set_option maxHeartbeats 1600000 in
theorem sread_c (B a : Nat) (b : List UInt8) (sc : List Int) (r n at_ : Nat) (most : Int) (w : World) (h : SI w B a b sc r n) (ok : Ok b sc r) (hn : n ≤ 100000000000000) (hat : at_ ≤ 1000000000) (hm1 : -1000000000 ≤ most) (hm : most ≤ 1000000000) :
    Calls Try.prog 59 #[.pointer (some ⟨a, 0, none⟩), .int .i64 (at_ : Int), .int .i64 most] w (HandsRd w B a b sc r n most (rd b r at_ most)) := by
  have HOK := hid ok
  have HR := hid (fun w' p q k hs hk hq => Src.read_c (fun k => B ≤ k ∧ k < a) a b sc r k p q w' hs (by omega) hq ok.le hk ok.len ok.sc)
  have hbl := ok.len
  have hrl := ok.le
  have HH := hid h
  clear ok h
  go_enter Try.func59, Try.ntmps59
  go_wp2
  go_loopw [8, 9, 10] (fun v _ _ wr => ∃ m k : Nat, (m : Int) ≤ max most 0 ∧ (at_ + m ≤ r ∨ m = 0) ∧ k ≤ n + m ∧ Own wr w.heap.size 5 v (u8s (((b.take r).drop at_).take m)) ∧ lenOf v = m ∧ SI wr B a b sc r k ∧ Mods (· = a) w wr) (fun v _ _ _ => most.toNat - lenOf v)
  case atStart => exact ⟨0, n, by omega, Or.inr rfl, by omega, by rw [List.take_zero]; exact Own.nil _ _ _, rfl, HH.out, Mods.refl _ _⟩
  case round =>
    obtain ⟨m, k, hmm, hrm, hk, hown, hlv, hsi, hmd⟩ := hrel
    have hlen : (((b.take r).drop at_).take m).length = m := by
      rcases hrm with q | rfl
      · exact rd_len hrl q
      · rfl
    have HX := hid hlen
    have hal := HH.out.lt
    have hmb : m ≤ 1000000000 := by omega
    have hsz := hmd.size
    obtain ⟨p1, c1, rfl, _⟩ := hown.sl.open (n := m) (by rw [u8s_length]; exact HX.out)
    clear hlen hlv
    by_cases hlt : (m : Int) < most
    · have hd1 : decide ((m : Int) < most) = true := decide_eq_true hlt
      by_cases hin : at_ + m < r
      · obtain ⟨K, hrd, hK1, hK2, hK3⟩ := read_in b sc r k (at_ + m) (most - m) hrl hin (by omega)
        have HRD := hid (show ∀ w', SI w' B a b sc r k → Calls Try.prog 88 #[.pointer (some ⟨a, 0, none⟩), .int .i64 ((at_ : Int) + (m : Int)), .int .i64 (most - (m : Int))] w' (Src.ReadOk w' (fun k => B ≤ k ∧ k < a) a b sc r ((b.drop (at_ + m)).take K, 0, k + 1)) by
          intro w' hs
          have := HR.out w' ((at_ + m : Nat) : Int) (most - m) k hs (by omega) (by omega)
          rw [hrd] at this
          rw [show (at_ : Int) + (m : Int) = ((at_ + m : Nat) : Int) by omega]
          exact this)
        have HST := hid (rd_step (b := b) (r := r) (at_ := at_) (m := m) (K := K) (by omega))
        have HYL := hid (show ((b.drop (at_ + m)).take K).length = K by rw [List.length_take, List.length_drop]; omega)
        clear hrd hrm
        generalize ((b.take r).drop at_).take m = X at *
        generalize (b.drop (at_ + m)).take K = Y at *
        go_wp2_with (first
          | (go_at_call 88; refine (HRD.out _ hsi).mono ?_; rintro e w3 ⟨v3, rfl, hown3, his3, hm3⟩; obtain ⟨p3, c3, rfl, _⟩ := hown3.sl.open (n := K) (by rw [u8s_length]; exact HYL.out))
          | (at_builtin; refine app1b rfl _ _ _ rfl _ _ _ Try.underlying22 info_u8 rfl (by decide) (Nat.le_trans hsz hm3.size) (hown.mods hm3 (fun q hq e => by omega)) rfl (hown3.sl) rfl (u8s_one _) ?_ ?_; rotate_left; (rw [u8s_length, u8s_length, HX.out, HYL.out]; omega); intro v4 w4 hown4 hm4; obtain ⟨p4, c4, rfl, _⟩ := hown4.sl.open (n := m + K) (by rw [List.length_append, u8s_length, u8s_length, HX.out, HYL.out]))
          | fail)
        go_roundw
        case rel => exact ⟨m + K, k + 1, by omega, Or.inl (by omega), by omega, by rw [u8s_append, HST.out] at hown4; exact hown4, rfl, SI.mods his3 hm4 (fun q hq => by omega), Mods.up (hmd.trans hm3) hm4 (Nat.le_refl _)⟩
        case measure => simp only [lenOf]; omega
      · have HRD := hid (show ∀ w', SI w' B a b sc r k → Calls Try.prog 88 #[.pointer (some ⟨a, 0, none⟩), .int .i64 ((at_ : Int) + (m : Int)), .int .i64 (most - (m : Int))] w' (Src.ReadOk w' (fun k => B ≤ k ∧ k < a) a b sc r ([], why b (at_ + m), k)) by
          intro w' hs
          have := HR.out w' ((at_ + m : Nat) : Int) (most - m) k hs (by omega) (by omega)
          rw [show read b sc r k ((at_ + m : Nat) : Int) (most - m) = ([], why b (at_ + m), k) by
            unfold Src.read why
            rw [if_neg (by omega)]
            by_cases q : b.length ≤ at_ + m
            · rw [if_pos (by omega), if_pos q]
            · rw [if_neg (by omega), if_pos (by omega), if_neg q]] at this
          rw [show (at_ : Int) + (m : Int) = ((at_ + m : Nat) : Int) by omega]
          exact this)
        have HF := hid (rd_short (b := b) (r := r) (at_ := at_) (m := m) (most := most) hrl hlt (by omega) hrm)
        have hwy : (why b (at_ + m) != 0) = true := by unfold why; split <;> rfl
        generalize why b (at_ + m) = y at *
        clear hrm
        go_wp2_with (first
          | (go_at_call 88; refine (HRD.out _ hsi).mono ?_; rintro e w3 ⟨v3, rfl, hown3, his3, hm3⟩; obtain ⟨p3, c3, rfl, _⟩ := hown3.sl.open (n := 0) rfl)
          | fail)
        go_ret2
        exact ⟨_, k, by rw [HF.out]; rfl, by rw [HF.out]; exact hown.mods hm3 (fun q hq e => by omega), his3, by omega, hmd.trans hm3⟩
    · have hd1 : decide ((m : Int) < most) = false := decide_eq_false hlt
      have HF := hid (show rd b r at_ most = (((b.take r).drop at_).take m, 0) by
        by_cases h0 : most ≤ 0
        · rw [rd_none h0, show m = 0 by omega, List.take_zero]
        · rcases hrm with q | q
          · exact rd_full m (by omega) q
          · omega)
      clear hrm
      go_wp2
      go_ret2
      exact ⟨_, k, by rw [HF.out]; rfl, by rw [HF.out]; exact hown, hsi, by omega, hmd⟩
end Sc
end Go.Proofs.Ytdihoedehmfgfaa
