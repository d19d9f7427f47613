/- The contract of log.Head. No condition but lengths. -/
import Derived.Test.YtdihoedehmfgfaaLogA
import Derived.Test.YtdihoedehmfgfaaJTa
set_option linter.unusedSimpArgs false
set_option linter.unusedVariables false
namespace Go.Proofs.Ytdihoedehmfgfaa
open Go.ChangeShapes Go.WideShapes Go.ChangeAt Go.RowKit
theorem bytes_sub {w : World} {pb po : Nat} {b : List UInt8} {cap : Nat} (h : Cells w (some ⟨pb, po, none⟩) (u8s b)) (hc : b.length ≤ cap) (hm : cap ≤ maxLen) (i n : Nat) (hi : i + n ≤ b.length) : Bytes w (.slice (some ⟨pb, po + i, none⟩) n (cap - i)) ((b.drop i).take n) :=
  Bytes.mk (by rw [u8s_take, u8s_drop]; exact (h.drop i).take n) (by rw [List.length_take, List.length_drop]; omega) (by rw [List.length_take, List.length_drop]; omega) (by omega) (fun h => by cases h)
theorem bytes_front {w : World} {b : List UInt8} {q : Option Addr} {cap : Nat} (h : Cells w q (u8s b)) (hc : b.length ≤ cap) (hm : cap ≤ maxLen) (h0 : q = none → cap = 0) (n : Nat) (hn : n ≤ b.length) : Bytes w (.slice q n cap) (b.take n) :=
  Bytes.mk (by rw [u8s_take]; exact h.take n) (by rw [List.length_take]; omega) (by rw [List.length_take]; omega) hm h0
theorem toList_ne {s : ByteArray} (h : s ≠ ⟨#[87, 71, 76, 1]⟩) : ¬ s.toList = [87, 71, 76, 1] := by
  intro e
  have := Lx.beq_str s ⟨#[87, 71, 76, 1]⟩
  have e2 : (⟨#[87, 71, 76, 1]⟩ : ByteArray).toList = [87, 71, 76, 1] := by first | rfl | kernel_rfl | decide +kernel
  rw [decide_eq_false h, e, e2] at this
  exact absurd this (by decide)
namespace Lg
open Go.Proofs.Ytdihoedehmfgfaa.Lx (isIn nameB strs_open strs_cell)
open Go.Proofs.Ytdihoedehmfgfaa.Sum (byte put right Hands8 HandsR)
open Go.Proofs.Ytdihoedehmfgfaa.Tr (namesP nmB nOk namesTo names_c rnames_c strs_one info_str)
theorem bcell {w : World} {pb po : Nat} {b : List UInt8} (h : Cells w (some ⟨pb, po, none⟩) (u8s b)) (i : Nat) (hi : i < b.length) : w.cell? ⟨pb, po + i, none⟩ = some (.int .u8 (sz b i : Int)) := by
  obtain ⟨b1, o1, x, e, hc, hx, _⟩ := u8s_cell h i hi
  cases e
  rw [hc]
  unfold sz
  rw [List.getD_eq_getElem?_getD, hx]
  rfl
/-- A call hands back names, a place and an error. -/
def HandsHd (w : World) (x : Hd) (e : Ending) (w' : World) : Prop := ∃ v, e = .returned (.tuple #[v, .int .i64 x.2.1, .int .i64 x.2.2]) ∧ Sl w' v (Lx.strs x.1) ∧ Nw w w'
theorem HandsHd.no {w w' : World} {x : Hd} {m : Int} (hx : x = noHd m) (hn : Nw w w') : HandsHd w x (.returned (.tuple #[.slice none 0 0, .int .i64 0, .int .i64 m])) w' := by
  subst hx
  exact ⟨_, rfl, Sl.nil _, hn⟩
theorem HandsHd.yes {w w' : World} {x : Hd} {v : Value} {l : List ByteArray} {i : Int} (hx : x = (l, i, 0)) (hv : Sl w' v (Lx.strs l)) (hn : Nw w w') : HandsHd w x (.returned (.tuple #[v, .int .i64 i, .int .i64 0])) w' := by
  subst hx
  exact ⟨_, rfl, hv, hn⟩
theorem strs_snoc (acc : List ByteArray) (s : ByteArray) : Lx.strs (acc ++ [s]) = Lx.strs acc ++ [.string s] := by simp [Lx.strs]
theorem parse_no {b : List UInt8} {k i : Nat} {acc : List ByteArray} (h : b.length ≤ i + sz b i) : parse b (k + 1) i acc = none := by rw [parse, if_pos h]
theorem parse_go {b : List UInt8} {k i : Nat} {acc : List ByteArray} (h : ¬ b.length ≤ i + sz b i) : parse b (k + 1) i acc = parse b k (i + 1 + sz b i) (acc ++ [cutS b (i + 1) (sz b i)]) := by rw [parse, if_neg h]
theorem mark_eq (b : List UInt8) (h : b.take 4 = mark) : str (b.take 4) = ⟨#[87, 71, 76, 1]⟩ := by rw [h]; rfl
theorem mark_ne (b : List UInt8) (h : b.take 4 ≠ mark) : str (b.take 4) ≠ ⟨#[87, 71, 76, 1]⟩ := by
  intro hh
  apply h
  have := congrArg (fun s : ByteArray => s.data.toList) hh
  simpa [str, mark] using this
/-- What follows behind the names. -/
def fin (b : List UInt8) : Option (List ByteArray × Nat) → Hd
  | none => noHd 5
  | some (l, i) => if b.length < i + 4 ∨ namesP l = false then noHd 5 else headE b l i
theorem head_fin {b : List UInt8} {c : Nat} (hc : c = sz b 4) (h1 : ¬ b.length < 5) (h2 : ¬ (b.take 4 ≠ mark ∨ 64 < c)) : headL b = fin b (parse b c 5 []) := by
  subst hc
  unfold headL
  rw [if_neg h1, if_neg h2]
  cases parse b (sz b 4) 5 [] <;> rfl
theorem fin_no {b : List UInt8} {l : List ByteArray} {i : Nat} (h : b.length < i + 4 ∨ namesP l = false) : fin b (some (l, i)) = noHd 5 := by
  show (if b.length < i + 4 ∨ namesP l = false then noHd 5 else headE b l i) = _
  rw [if_pos h]
theorem fin_go {b : List UInt8} {l : List ByteArray} {i : Nat} (h : ¬ (b.length < i + 4 ∨ namesP l = false)) : fin b (some (l, i)) = headE b l i := by
  show (if b.length < i + 4 ∨ namesP l = false then noHd 5 else headE b l i) = _
  rw [if_neg h]
theorem _root_.Go.Proofs.Ytdihoedehmfgfaa.Bytes.cut0 {w : World} {p : Option Addr} {n cap : Nat} {bs : List UInt8} (h : Bytes w (.slice p n cap) bs) : Bytes w (.slice p 0 0) (bs.take 0) := by
  obtain ⟨q, c, e, h1, h2, h3, h4⟩ := h.open
  cases e
  exact Bytes.mk (by rw [u8s_take]; exact h4.take 0) (by simp) (by simp) (by simp [maxLen]) (fun _ => rfl)
set_option maxRecDepth 20000 in
set_option maxHeartbeats 1600000 in
theorem head_c (v : Value) (b : List UInt8) (w : World) (hb : Bytes w v b) (hl : b.length ≤ 1000000000) : Calls Try.prog 64 #[v] w (HandsHd w (headL b)) := by
  obtain ⟨p, cap, rfl, hcap, hmx, hp0, hc⟩ := hb.open
  have hmx' := hmx
  unfold maxLen at hmx
  clear hb
  by_cases h5 : b.length < 5
  · have HF := hid (show headL b = noHd 5 by unfold headL; rw [if_pos h5])
    have hd : decide ((b.length : Int) < 5) = true := decide_eq_true (by omega)
    go_enter Try.func64, Try.ntmps64
    go_wp2
    go_ret3
    exact HandsHd.no HF.out (by repeat (first | assumption | exact Nw.refl _ | refine Nw.alloc ?_ _ | refine Nw.drew ?_ | refine Nw.drewN2 ?_ _ | (refine Nw.trans ?_ (by assumption))))
  · have hd : decide ((b.length : Int) < 5) = false := decide_eq_false (by omega)
    obtain ⟨pb, po, rfl⟩ := hc.place (by rw [u8s_length]; omega)
    have h4 := bcell hc 4 (by omega)
    have hs4 : (convert 22 9 (.slice (some ⟨pb, po, none⟩) 4 cap)).run Try.prog w = .ok (.string (str (b.take 4))) w := str_ok (bytes_front hc hcap hmx' hp0 4 (by omega))
    have hlt4 := sz_lt b 4
    have HC := hid hc
    have hN := fun (c : Nat) (hc : c = sz b 4) (h : b.take 4 ≠ mark ∨ 64 < c) => show headL b = noHd 5 by subst hc; unfold headL; rw [if_neg h5, if_pos h]
    have hH := fun (c : Nat) (hc : c = sz b 4) (h : ¬ (b.take 4 ≠ mark ∨ 64 < c)) => head_fin hc h5 h
    have HM1 := hid (mark_eq b)
    have HM2 := hid (mark_ne b)
    obtain ⟨c, hcs⟩ : ∃ c, c = sz b 4 := ⟨_, rfl⟩
    have HNc := hid (hN c hcs)
    have HHc := hid (hH c hcs)
    rw [← hcs] at h4 hlt4
    clear hN hH hcs hc hp0
    generalize str (b.take 4) = st at *
    by_cases hm : b.take 4 = mark
    · have hst := HM1.out hm
      subst hst
      by_cases h64 : 64 < c
      · have hd2 : decide ((64 : Int) < c) = true := decide_eq_true (by omega)
        go_enter Try.func64, Try.ntmps64
        go_wp2
        go_ret3
        exact HandsHd.no (HNc.out (Or.inr h64)) (by repeat (first | assumption | exact Nw.refl _ | refine Nw.alloc ?_ _ | refine Nw.drew ?_ | refine Nw.drewN2 ?_ _ | (refine Nw.trans ?_ (by assumption))))
      · have hd2 : decide ((64 : Int) < c) = false := decide_eq_false (by omega)
        have HR := hid (HHc.out (by rintro (h | h); exact h hm; exact h64 h))
        clear HHc HNc HM1 HM2 hm
        go_enter Try.func64, Try.ntmps64
        go_wp2
        go_loopw [5, 6, 7, 34] (fun at_ nv _ i wr => ∃ (k j : Nat) (acc : List ByteArray), k ≤ c ∧ i = .int .u8 k ∧ at_ = .int .i64 j ∧ 5 ≤ j ∧ j ≤ b.length ∧ Hid (acc.length = k) ∧ Hid (∀ s ∈ acc, s.size ≤ 1000000000) ∧ Hid (headL b = fin b (parse b (c - k) j acc)) ∧ Own wr w.heap.size 9 nv (Lx.strs acc) ∧ Nw w wr) (fun _ _ _ i _ => c - (intOf i).toNat)
        case atStart => exact ⟨0, 5, [], Nat.zero_le _, rfl, rfl, by omega, by omega, hid rfl, hid (by simp), hid HR.out, Own.nil _ _ _, Nw.refl _⟩
        case round =>
          obtain ⟨k, j, acc, hk, rfl, rfl, hj5, hjb, HL, HZ, HP, hown, hn⟩ := hrel
          clear h4 hs4 HR
          by_cases hlt : k < c
          · have hdk : decide ((k : Int) < c) = true := decide_eq_true (by omega)
            have hck : c - k = (c - (k + 1)) + 1 := by omega
            rw [hck] at HP
            clear hck
            obtain ⟨pr, cr, rfl, _⟩ := hown.sl.open (n := k) (by rw [Lx.strs_length]; exact HL.out)
            by_cases hjl : j < b.length
            · have hd5 : decide ((b.length : Int) ≤ j) = false := decide_eq_false (by omega)
              have hcell := bcell (HC.out.nw hn) j hjl
              have hz := sz_lt b j
              obtain ⟨z, hzj⟩ : ∃ z, z = sz b j := ⟨_, rfl⟩
              have HZJ := hid hzj
              rw [← hzj] at hcell hz
              by_cases hov : b.length ≤ j + z
              · have HF := hid (HP.out.trans (congrArg (fin b) (parse_no (by rw [← hzj]; exact hov))))
                clear hzj
                have hd6 : decide ((b.length : Int) - j ≤ z) = true := decide_eq_true (by omega)
                go_wp2
                go_ret3
                exact HandsHd.no HF.out hn
              · have HF := hid (HP.out.trans (by rw [parse_go (by rw [← hzj]; exact hov)]))
                rw [← hzj] at HF
                clear hzj
                have hd6 : decide ((b.length : Int) - j ≤ z) = false := decide_eq_false (by omega)
                have hsz := cutS_size b (j + 1) z
                have hst1 : ∀ w', Nw wr w' → (convert 22 9 (.slice (some ⟨pb, po + (j + 1), none⟩) z (cap - (j + 1)))).run Try.prog w' = .ok (.string (cutS b (j + 1) z)) w' := str_later (bytes_sub (HC.out.nw hn) hcap hmx' (j + 1) z (by omega))
                have hst0 : z = 0 → ∀ w', Nw wr w' → (convert 22 9 (.slice (some ⟨pb, po, none⟩) 0 0)).run Try.prog w' = .ok (.string (cutS b (j + 1) z)) w' := by
                  rintro rfl
                  have e : cutS b (j + 1) 0 = str (b.take 0) := by simp [cutS]
                  rw [e]
                  exact str_later ((bytes_front (HC.out.nw hn) hcap hmx' (fun h => by cases h) 0 (by omega)).cut0)
                generalize cutS b (j + 1) z = s at *
                have hk63 : k ≤ 256 := by omega
                have hsl := hown.sl
                by_cases hcj : cap = j + 1
                · obtain rfl : z = 0 := by omega
                  replace hst0 := hst0 rfl
                  clear hst1
                  subst hcj
                  go_wp2_with (first
                    | (at_builtin; refine app1 rfl _ _ _ rfl _ _ _ Try.underlying31 info_str rfl (by decide) (hn.alloc _) (hown.nw ((Nw.refl _).alloc _)) rfl (Sl.new wr [_] _ _ (by simp [maxLen])) rfl (by simp [Value.oneCell']) ?_ ?_; rotate_left; ((try rw [Lx.strs_length, HL.out]); simp only [List.length_cons, List.length_nil]; omega); intro v3 w3 hown3 hg3 hn3)
                    | fail)
                  go_roundw
                  case rel => exact ⟨k + 1, j + 1 + 0, acc ++ [s], by omega, by go_num, by go_num, by omega, by omega, hid (by rw [List.length_append, HL.out]; rfl), hid (by intro t ht; rcases List.mem_append.1 ht with ht | ht; exact HZ.out t ht; rw [List.mem_singleton.1 ht]; omega), HF, by rw [strs_snoc]; exact hown3, hn3⟩
                  case measure => (simp [intOf] <;> omega)
                · clear hst0
                  go_wp2_with (first
                    | (at_builtin; refine app1 rfl _ _ _ rfl _ _ _ Try.underlying31 info_str rfl (by decide) (hn.alloc _) (hown.nw ((Nw.refl _).alloc _)) rfl (Sl.new wr [_] _ _ (by simp [maxLen])) rfl (by simp [Value.oneCell']) ?_ ?_; rotate_left; ((try rw [Lx.strs_length, HL.out]); simp only [List.length_cons, List.length_nil]; omega); intro v3 w3 hown3 hg3 hn3)
                    | fail)
                  go_roundw
                  case rel => exact ⟨k + 1, j + 1 + z, acc ++ [s], by omega, by go_num, by go_num, by omega, by omega, hid (by rw [List.length_append, HL.out]; rfl), hid (by intro t ht; rcases List.mem_append.1 ht with ht | ht; exact HZ.out t ht; rw [List.mem_singleton.1 ht]; omega), HF, by rw [strs_snoc]; exact hown3, hn3⟩
                  case measure => (simp [intOf] <;> omega)
            · have hd5 : decide ((b.length : Int) ≤ j) = true := decide_eq_true (by omega)
              have HF := hid (HP.out.trans (congrArg (fin b) (parse_no (by omega))))
              go_wp2
              go_ret3
              exact HandsHd.no HF.out hn
          · obtain rfl : k = c := by omega
            have hdk : decide ((k : Int) < k) = false := decide_eq_false (by omega)
            rw [Nat.sub_self] at HP
            have HQ := hid (show headL b = fin b (some (acc, j)) from HP.out)
            clear HP
            by_cases h7 : b.length < j + 4
            · have hd7 : decide ((b.length : Int) - j < 4) = true := decide_eq_true (by omega)
              have HF := hid (HQ.out.trans (fin_no (Or.inl h7)))
              go_wp2
              go_ret3
              exact HandsHd.no HF.out hn
            · have hd7 : decide ((b.length : Int) - j < 4) = false := decide_eq_false (by omega)
              have HNA := hid (fun w' (h : Nw wr w') => names_c u6 acc w' (hown.sl.nw h) HZ.out)
              have HRI := hid (fun w' (h : Nw wr w') => Sum.right_c _ _ w' ((bytes_front (HC.out.nw hn) hcap hmx' (fun h => by cases h) (j + 4) (by omega)).nw h) (by rw [List.length_take]; omega))
              have HF1 := hid (fun h => HQ.out.trans (fin_no (Or.inr h)))
              have HF2 := hid (fun (h1 : namesP acc = true) => HQ.out.trans (fin_go (b := b) (l := acc) (i := j) (by rintro (h | h); exact h7 h; rw [h1] at h; cases h)))
              have HF3 := hid (show headE b acc j = if (right (b.take (j + 4))).isSome = true then (acc, (j : Int) + 4, 0) else noHd 5 from rfl)
              clear HQ HZ
              have hsl := hown.sl
              clear hown
              generalize namesP acc = q at *
              generalize b.take (j + 4) = bj at *
              have hj4 : j + 4 ≤ cap := by omega
              cases q with
              | false =>
                have HF := hid (HF1.out rfl)
                clear HF1 HF2 HF3
                go_wp2_with (first
                  | (go_at_call 79; refine (HNA.out _ (by repeat (first | assumption | exact Nw.refl _ | refine Nw.alloc ?_ _ | refine Nw.drew ?_ | refine Nw.drewN2 ?_ _ | (refine Nw.trans ?_ (by assumption))))).mono ?_; rintro e w1 ⟨rfl, hn1⟩)
                  | fail)
                go_ret3
                exact HandsHd.no HF.out (hn.trans hn1)
              | true =>
                have HF := hid ((HF2.out rfl).trans HF3.out)
                clear HF1 HF2 HF3
                go_upto_region 15 with (first
                  | (go_at_call 79; refine (HNA.out _ (by repeat (first | assumption | exact Nw.refl _ | refine Nw.alloc ?_ _ | refine Nw.drew ?_ | refine Nw.drewN2 ?_ _ | (refine Nw.trans ?_ (by assumption))))).mono ?_; rintro e w1 ⟨rfl, hn1⟩)
                  | fail)
                cases hG : (right bj).isSome with
                | true =>
                  rw [hG] at HF
                  go_wp2_with (first
                    | (go_at_call 57; refine (HRI.out _ (by repeat (first | assumption | exact Nw.refl _ | refine Nw.alloc ?_ _ | refine Nw.drew ?_ | refine Nw.drewN2 ?_ _ | (refine Nw.trans ?_ (by assumption))))).mono ?_; rintro e w2 ⟨v2, rfl, hb2, hn2⟩; rw [hG]; clear hb2)
                    | fail)
                  go_ret3
                  exact HandsHd.yes (HF.out.trans (if_pos (by trivial))) (hsl.nw (hn1.trans hn2)) (hn.trans (hn1.trans hn2))
                | false =>
                  rw [hG] at HF
                  go_wp2_with (first
                    | (go_at_call 57; refine (HRI.out _ (by repeat (first | assumption | exact Nw.refl _ | refine Nw.alloc ?_ _ | refine Nw.drew ?_ | refine Nw.drewN2 ?_ _ | (refine Nw.trans ?_ (by assumption))))).mono ?_; rintro e w2 ⟨v2, rfl, hb2, hn2⟩; rw [hG]; clear hb2)
                    | fail)
                  go_ret3
                  exact HandsHd.no (HF.out.trans (if_neg (by decide))) (hn.trans (hn1.trans hn2))
    · have hst := HM2.out hm
      have hd3 : ¬ st.toList = [87, 71, 76, 1] := toList_ne hst
      go_enter Try.func64, Try.ntmps64
      go_wp2
      go_ret3
      exact HandsHd.no (HNc.out (Or.inl hm)) (by repeat (first | assumption | exact Nw.refl _ | refine Nw.alloc ?_ _ | refine Nw.drew ?_ | refine Nw.drewN2 ?_ _ | (refine Nw.trans ?_ (by assumption))))
end Lg
end Go.Proofs.Ytdihoedehmfgfaa
