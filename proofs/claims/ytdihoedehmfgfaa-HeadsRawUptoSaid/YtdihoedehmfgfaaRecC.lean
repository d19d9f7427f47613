/- The contracts of record.Put and watchglassref8.Put: the bytes that they hand back. No condition but lengths. -/
import Derived.Test.YtdihoedehmfgfaaRecB
set_option linter.unusedSimpArgs false
set_option linter.unusedVariables false
namespace Go.Proofs.Ytdihoedehmfgfaa
open Go.ChangeShapes Go.WideShapes Go.ChangeAt Go.RowKit
namespace Rec
open Go.Proofs.Ytdihoedehmfgfaa.Sum (Hands8 byte byte_val)
theorem putE_no {b : List UInt8} {t : Int} {l : List Int} (h : rises l 64 = false) : putE b t l = b := by unfold putE; rw [h]; rfl
theorem putE_yes {b : List UInt8} {t : Int} {l : List Int} (h : rises l 64 = true) : putE b t l = b ++ rec_ t l := by unfold putE; rw [if_pos h]
theorem hands_mono {w w' : World} {v : Value} {bs : List UInt8} {xs : List Value} {B : Nat} (h : Own w' B 5 v xs) (hx : xs = u8s bs) (hB : w.heap.size ≤ B) (hn : Nw w w') : Hands8 w bs (.returned v) w' := by
  subst hx
  exact ⟨v, rfl, h.mono hB, hn⟩
def hi (t : Int) (k : Nat) : List UInt8 := (List.range (8 - k)).map fun i => tb t (7 - i)
theorem hi_eight (t : Int) : hi t 8 = [] := rfl
theorem hi_zero (t : Int) : hi t 0 = be8 t := rfl
theorem hi_step (t : Int) (m : Nat) (h : m < 8) : hi t m = hi t (m + 1) ++ [tb t m] := by
  unfold hi
  rw [show 8 - m = (8 - (m + 1)) + 1 by omega, List.range_succ, List.map_append]
  congr 2
  simp; congr 1; omega
theorem hi_len (t : Int) (m : Nat) : (hi t m).length ≤ 8 := by unfold hi; simp
def hdr (l : List Int) : List UInt8 := [byte (((8 + l.length : Nat) : Int) / 256 % 256), byte (((8 + l.length : Nat) : Int) % 256)]
theorem hdr_u8s (l : List Int) (h : (l.length : Int) ≤ 64) : u8s (hdr l) = [.int .u8 ((8 + (l.length : Int)) / 256), .int .u8 (8 + (l.length : Int))] := by
  simp only [u8s, hdr, List.map_cons, List.map_nil]
  rw [byte_val _ (by omega) (by omega), byte_val _ (by omega) (by omega)]
  congr 2
  · congr 1; omega
  · congr 2; omega
theorem hdr_u8s2 (l : List Int) (h : (l.length : Int) ≤ 64) : u8s (hdr l) = [.int .u8 ((8 + (l.length : Int)) / 256), .int .u8 ((8 + (l.length : Int)) % 256)] := by
  rw [hdr_u8s l h]
  congr 2
  congr 1; omega
theorem enc_hdr (t : Int) (l : List Int) : enc t l = hdr l ++ be8 t ++ l.map byte := by simp [enc, hdr]
theorem put_fin {b : List UInt8} {t : Int} {l : List Int} (h : rises l 64 = true) : [] ++ u8s b ++ u8s (Sum.put (hdr l ++ be8 t ++ (l.take l.length).map byte)) = u8s (putE b t l) := by
  rw [List.take_length, ← enc_hdr, putE_yes h, List.nil_append, u8s_append]; rfl
theorem take_step (l : List Int) (k : Nat) (h : k < l.length) : l.take (k + 1) = l.take k ++ [l.getD k 0] := by
  rw [List.take_add_one]; simp [List.getD_eq_getElem?_getD, h]
theorem ids_step (t : Int) (l : List Int) (k : Nat) (h : k < l.length) (h0 : 0 ≤ l.getD k 0) (h1 : l.getD k 0 < 64) : u8s (hdr l ++ be8 t ++ (l.take k).map byte) ++ [.int .u8 (l.getD k 0)] = u8s (hdr l ++ be8 t ++ (l.take (k + 1)).map byte) := by
  rw [take_step l k h, List.map_append, ← List.append_assoc, ← u8s_append (hdr l ++ be8 t ++ (l.take k).map byte)]
  congr 1
  simp only [u8s, List.map_cons, List.map_nil]
  rw [byte_val _ h0 (by omega)]
theorem hi_snoc (t : Int) (l : List Int) (m : Nat) (h : m < 8) (x : Int) (hx : x = t / 2 ^ (8 * m) % 256) : u8s (hdr l ++ hi t (m + 1)) ++ [.int .u8 x] = u8s (hdr l ++ hi t m) := by
  subst hx
  rw [hi_step t m h, ← List.append_assoc, ← u8s_append]
  congr 1
  simp [u8s, tb_val]
theorem getd_mem {l : List Int} {k : Nat} (h : k < l.length) : l.getD k 0 ∈ l := by
  rw [List.getD_eq_getElem?_getD, List.getElem?_eq_getElem h]; exact List.getElem_mem h
theorem encd_len (t : Int) (l : List Int) (k : Nat) (h : (l.length : Int) ≤ 64) : (hdr l ++ be8 t ++ (l.take k).map byte).length ≤ 80 := by
  simp [hdr, be8]; omega
set_option maxRecDepth 20000 in
set_option maxHeartbeats 1600000 in
theorem put_no (vb v : Value) (b : List UInt8) (t : Int) (l : List Int) (w : World) (hb : Bytes w vb b) (hv : Sl w v (i64s l)) (hlen : b.length ≤ 1000000000) (hr : rises l 64 = false) :
    Calls Try.prog 50 #[vb, .agg #[.int .u64 t, v]] w (Hands8 w (putE b t l)) := by
  obtain ⟨p, cap, rfl, hcap, hmx, _, hc⟩ := hb.open
  obtain ⟨q, qc, rfl, hqc, hqm, _, hcq⟩ := i64s_open hv
  have HP := hid (putE_no (b := b) (t := t) hr)
  go_enter Try.func50, Try.ntmps50
  go_wp2_with (first
    | (at_builtin; refine app1 rfl _ _ _ rfl _ _ _ Try.underlying22 info_u8 rfl (by decide) (Nw.refl _) (Own.nil _ _ _) rfl (hb.nw ((Nw.refl w).alloc _)) rfl (u8s_one _) ?_ ?_; rotate_left; (simp only [u8s_length, List.length_append, List.length_nil, List.length_cons, List.length_map]; omega); intro v1 w1 hown1 hg1 hn1; obtain ⟨hc1, hf1, hz1⟩ := nwc hn1)
    | (go_at_call 82; refine (rising_c _ _ _ _ (hv.nw (by repeat (first | assumption | exact Nw.refl _ | refine Nw.alloc ?_ _ | refine Nw.drew ?_ | refine Nw.drewN2 ?_ _ | (refine Nw.trans ?_ (by assumption)))))).mono ?_; rintro e w2 ⟨rfl, hn2⟩))
  go_ret
  exact hands_mono (hown1.nw hn2) (by rw [HP.out]; simp) (by simp) (by repeat (first | assumption | exact Nw.refl _ | refine Nw.alloc ?_ _ | refine Nw.drew ?_ | refine Nw.drewN2 ?_ _ | (refine Nw.trans ?_ (by assumption))))
set_option maxRecDepth 20000 in
set_option maxHeartbeats 1600000 in
theorem put_yes (vb v : Value) (b : List UInt8) (t : Int) (l : List Int) (w : World) (hb : Bytes w vb b) (hv : Sl w v (i64s l)) (h0 : 0 ≤ t) (h1 : t < 18446744073709551616) (hlen : b.length ≤ 1000000000) (hr : rises l 64 = true) :
    Calls Try.prog 50 #[vb, .agg #[.int .u64 t, v]] w (Hands8 w (putE b t l)) := by
  obtain ⟨p, cap, rfl, hcap, hmx, _, hc⟩ := hb.open
  obtain ⟨q, qc, rfl, hqc, hqm, _, hcq⟩ := i64s_open hv
  have HP := hid (put_fin (b := b) (t := t) hr)
  have hl64 := rises_len (by decide) hr
  have HM := hid (rises_mem hr)
  go_enter Try.func50, Try.ntmps50
  go_wp2_with (first
    | (at_builtin; refine app1 rfl _ _ _ rfl _ _ _ Try.underlying22 info_u8 rfl (by decide) (Nw.refl _) (Own.nil _ _ _) rfl (hb.nw ((Nw.refl w).alloc _)) rfl (u8s_one _) ?_ ?_; rotate_left; (simp only [u8s_length, List.length_append, List.length_nil, List.length_cons, List.length_map]; omega); intro v1 w1 hown1 hg1 hn1; obtain ⟨hc1, hf1, hz1⟩ := nwc hn1)
    | (go_at_call 82; refine (rising_c _ _ _ _ (hv.nw (by repeat (first | assumption | exact Nw.refl _ | refine Nw.alloc ?_ _ | refine Nw.drew ?_ | refine Nw.drewN2 ?_ _ | (refine Nw.trans ?_ (by assumption)))))).mono ?_; rintro e w2 ⟨rfl, hn2⟩; obtain ⟨hc2, hf2, hz2⟩ := nwc hn2))
  have k0 : w2.cell? ⟨w.heap.size, 0, none⟩ = some (.int .u64 t) := (hn1.trans hn2).cell (by simp)
  have k1 : w2.cell? ⟨w.heap.size, 1, none⟩ = some (.slice q l.length qc) := (hn1.trans hn2).cell (by simp)
  have HCQ := hid (hcq.nw (show Nw w w2 from (by repeat (first | assumption | exact Nw.refl _ | refine Nw.alloc ?_ _ | refine Nw.drew ?_ | refine Nw.drewN2 ?_ _ | (refine Nw.trans ?_ (by assumption))))))
  have HO := hid hown1
  have hbx : w.heap.size < w2.heap.size := World.block_lt_of_cell? w2 _ k0
  clear hc1 hf1 hz1 hc2 hf2 hz2 hcq hown1 hg1
  go_loopw [7, 8] (fun r k wr => ∃ m : Nat, m ≤ 8 ∧ k = .int .i64 ((m : Int) - 1) ∧ Own wr w2.heap.size 5 r (u8s (hdr l ++ hi t m)) ∧ Nw w2 wr) (fun _ k _ => (intOf k + 1).toNat)
  case atStart => exact ⟨8, by omega, rfl, by rw [hi_eight, List.append_nil, hdr_u8s l hl64]; exact Own.newAt w2 _ _ [_, _] _ _ rfl rfl (Nat.le_refl _) (by simp [maxLen]), (Nw.refl _).alloc _⟩
  case round =>
    obtain ⟨m, hm, rfl, hown, hn⟩ := hrel
    have e0 := hn.cell k0
    have e1 := hn.cell k1
    have hlm := hi_len t m
    cases m with
    | zero =>
      have hdk : decide ((0 : Int) ≤ -1) = false := rfl
      rw [show ((0 : Nat) : Int) - 1 = -1 from rfl]
      rw [hi_zero] at hown
      have HR := hid hown
      clear hown
      have hn0 := hn
      go_wp2
      go_loopw [7, 10, 44] (fun r _ i wr => ∃ k : Nat, k ≤ l.length ∧ i = .int .i64 k ∧ Own wr w2.heap.size 5 r (u8s (hdr l ++ be8 t ++ (l.take k).map byte)) ∧ Nw w2 wr) (fun _ _ i _ => l.length - (intOf i).toNat)
      case atStart => exact ⟨0, Nat.zero_le _, rfl, by simpa using HR.out, hn0⟩
      case round =>
        obtain ⟨k, hk, rfl, hown, hn⟩ := hrel
        have hel := encd_len t l k hl64
        by_cases hlt : k < l.length
        · have hdk : decide (k < l.length) = true := decide_eq_true hlt
          obtain ⟨b1, o1, rfl, hcell⟩ := i64_cell (HCQ.out.nw hn) k hlt
          have hx := HM.out _ (getd_mem hlt)
          have HS := hid (ids_step t l k hlt hx.1 hx.2)
          obtain ⟨hx0, hx1⟩ := hx
          generalize l.getD k 0 = x at *
          obtain ⟨pr, cr, rfl, _⟩ := hown.sl.open (n := (hdr l ++ be8 t ++ (l.take k).map byte).length) (u8s_length _)
          go_wp2_with (first
            | (at_builtin; refine app1 rfl _ _ _ rfl _ _ _ Try.underlying22 info_u8 rfl (by decide) (hn.alloc _) (hown.nw ((Nw.refl _).alloc _)) rfl (Sl.new wr [_] _ _ (by simp [maxLen])) rfl (by simp [Value.oneCell']) ?_ ?_; rotate_left; (rw [u8s_length]; simp only [List.length_cons, List.length_nil]; omega); intro v3 w3 hown3 hg3 hn3))
          go_roundw
          case rel => exact ⟨k + 1, by omega, by go_num, by rw [← HS.out]; exact hown3, hn3⟩
          case measure => (simp [intOf] <;> omega)
        · obtain rfl : k = l.length := by omega
          have hdk : decide (l.length < l.length) = false := decide_eq_false (by omega)
          generalize hdr l ++ be8 t ++ (l.take l.length).map byte = E at *
          obtain ⟨pr, cr, rfl, _⟩ := hown.sl.open (n := E.length) (u8s_length _)
          have hby : Bytes wr (.slice pr E.length cr) E := hown.sl
          have hpl := put_len E
          have hE2 : E.length ≤ 1073741824 := by omega
          go_wp2_with (first
            | (go_at_call 81; refine (Sum.put_c _ E _ hby hE2).mono ?_; rintro e w4 ⟨v4, rfl, hown4, hn4⟩)
            | (at_builtin; refine app1 rfl _ _ _ rfl _ _ _ Try.underlying22 info_u8 rfl (by decide) (hn1.trans (hn2.trans (hn.trans hn4))) (HO.out.nw (hn2.trans (hn.trans hn4))) rfl (hown4.sl) rfl (u8s_one _) ?_ ?_; rotate_left; (simp only [u8s_length, List.length_append, List.length_nil] at *; omega); intro v5 w5 hown5 hg5 hn5))
          go_ret
          exact hands_mono hown5 HP.out (by simp) (by repeat (first | assumption | exact Nw.refl _ | refine Nw.alloc ?_ _ | refine Nw.drew ?_ | refine Nw.drewN2 ?_ _ | (refine Nw.trans ?_ (by assumption))))
    | succ m =>
      have hdk : decide ((0 : Int) ≤ m) = true := decide_eq_true (by omega)
      have em : ((m + 1 : Nat) : Int) - 1 = m := by omega
      rw [em]
      have HS := hid (hi_snoc t l m (by omega))
      have hl1 := hi_len t (m + 1)
      obtain ⟨pr, cr, rfl, _⟩ := hown.sl.open (n := (hdr l ++ hi t (m + 1)).length) (u8s_length _)
      go_wp2_with (first
        | (at_builtin; refine app1 rfl _ _ _ rfl _ _ _ Try.underlying22 info_u8 rfl (by decide) (hn.alloc _) (hown.nw ((Nw.refl _).alloc _)) rfl (Sl.new wr [_] _ _ (by simp [maxLen])) rfl (by simp [Value.oneCell']) ?_ ?_; rotate_left; (simp only [u8s_length, hdr, List.length_append, List.length_cons, List.length_nil]; omega); intro v3 w3 hown3 hg3 hn3))
      go_roundw
      case rel => exact ⟨m, by omega, rfl, by rw [← HS.out _ rfl]; exact hown3, hn3⟩
      case measure => (simp [intOf] <;> omega)
theorem put_c (vb v : Value) (b : List UInt8) (t : Int) (l : List Int) (w : World) (hb : Bytes w vb b) (hv : Sl w v (i64s l)) (h0 : 0 ≤ t) (h1 : t < 18446744073709551616) (hlen : b.length ≤ 1000000000) :
    Calls Try.prog 50 #[vb, .agg #[.int .u64 t, v]] w (Hands8 w (putE b t l)) := by
  cases hr : rises l 64 with
  | true => exact put_yes vb v b t l w hb hv h0 h1 hlen hr
  | false => exact put_no vb v b t l w hb hv hlen hr
set_option maxRecDepth 20000 in
set_option maxHeartbeats 1600000 in
theorem rput_no (vb v : Value) (b : List UInt8) (t : Int) (l : List Int) (w : World) (hb : Bytes w vb b) (hv : Sl w v (i64s l)) (hlen : b.length ≤ 1000000000) (hr : rises l 64 = false) :
    Calls Try.prog 45 #[vb, .agg #[.int .u64 t, v]] w (Hands8 w (putE b t l)) := by
  obtain ⟨p, cap, rfl, hcap, hmx, _, hc⟩ := hb.open
  obtain ⟨q, qc, rfl, hqc, hqm, _, hcq⟩ := i64s_open hv
  have HP := hid (putE_no (b := b) (t := t) hr)
  go_enter Try.func45, Try.ntmps45
  go_wp2_with (first
    | (go_at_call 77; refine (rids_c _ _ _ _ (hv.nw (by repeat (first | assumption | exact Nw.refl _ | refine Nw.alloc ?_ _ | refine Nw.drew ?_ | refine Nw.drewN2 ?_ _ | (refine Nw.trans ?_ (by assumption)))))).mono ?_; rintro e w2 ⟨rfl, hn2⟩)
    | (at_builtin; refine app1 rfl _ _ _ rfl _ _ _ Try.underlying22 info_u8 rfl (by decide) ((Nw.refl w2).alloc _) (Own.new w2 _ _ [] (Nat.le_refl _) (Nat.zero_le _)) rfl (hb.nw ((show Nw w w2 from (by repeat (first | assumption | exact Nw.refl _ | refine Nw.alloc ?_ _ | refine Nw.drew ?_ | refine Nw.drewN2 ?_ _ | (refine Nw.trans ?_ (by assumption))))).alloc _)) rfl (u8s_one _) ?_ ?_; rotate_left; (simp only [u8s_length, List.length_append, List.length_nil, List.length_cons, List.length_map]; omega); intro v1 w1 hown1 hg1 hn1))
  go_ret
  exact hands_mono hown1 (by rw [HP.out, List.nil_append]) (Nw.size (show Nw w w2 from (by repeat (first | assumption | exact Nw.refl _ | refine Nw.alloc ?_ _ | refine Nw.drew ?_ | refine Nw.drewN2 ?_ _ | (refine Nw.trans ?_ (by assumption)))))) (by repeat (first | assumption | exact Nw.refl _ | refine Nw.alloc ?_ _ | refine Nw.drew ?_ | refine Nw.drewN2 ?_ _ | (refine Nw.trans ?_ (by assumption))))
set_option maxRecDepth 20000 in
set_option maxHeartbeats 1600000 in
theorem rput_yes (vb v : Value) (b : List UInt8) (t : Int) (l : List Int) (w : World) (hb : Bytes w vb b) (hv : Sl w v (i64s l)) (h0 : 0 ≤ t) (h1 : t < 18446744073709551616) (hlen : b.length ≤ 1000000000) (hr : rises l 64 = true) :
    Calls Try.prog 45 #[vb, .agg #[.int .u64 t, v]] w (Hands8 w (putE b t l)) := by
  obtain ⟨p, cap, rfl, hcap, hmx, _, hc⟩ := hb.open
  obtain ⟨q, qc, rfl, hqc, hqm, _, hcq⟩ := i64s_open hv
  have HP := hid (put_fin (b := b) (t := t) hr)
  have hl64 := rises_len (by decide) hr
  have HM := hid (rises_mem hr)
  go_enter Try.func45, Try.ntmps45
  go_wp2_with (first
    | (go_at_call 77; refine (rids_c _ _ _ _ (hv.nw (by repeat (first | assumption | exact Nw.refl _ | refine Nw.alloc ?_ _ | refine Nw.drew ?_ | refine Nw.drewN2 ?_ _ | (refine Nw.trans ?_ (by assumption)))))).mono ?_; rintro e w2 ⟨rfl, hn2⟩; obtain ⟨hc2, hf2, hz2⟩ := nwc hn2))
  have k0 : w2.cell? ⟨w.heap.size, 0, none⟩ = some (.int .u64 t) := hn2.cell (by simp)
  have k1 : w2.cell? ⟨w.heap.size, 1, none⟩ = some (.slice q l.length qc) := hn2.cell (by simp)
  have HCQ := hid (hcq.nw (show Nw w w2 from (by repeat (first | assumption | exact Nw.refl _ | refine Nw.alloc ?_ _ | refine Nw.drew ?_ | refine Nw.drewN2 ?_ _ | (refine Nw.trans ?_ (by assumption))))))
  have hbx : w.heap.size < w2.heap.size := World.block_lt_of_cell? w2 _ k0
  clear hc2 hf2 hz2 hcq
  go_loopw [6, 7, 28] (fun r _ k wr => ∃ m : Nat, m ≤ 8 ∧ k = .int .i64 (8 - (m : Int)) ∧ Own wr w2.heap.size 5 r (u8s (hdr l ++ hi t m)) ∧ Nw w2 wr) (fun _ _ k _ => (8 - intOf k).toNat)
  case atStart => exact ⟨8, by omega, rfl, by rw [hi_eight, List.append_nil, hdr_u8s2 l hl64]; exact Own.newAt w2 _ _ [_, _] _ _ rfl rfl (Nat.le_refl _) (by simp [maxLen]), (Nw.refl _).alloc _⟩
  case round =>
    obtain ⟨m, hm, rfl, hown, hn⟩ := hrel
    have e0 := hn.cell k0
    have e1 := hn.cell k1
    have hlm := hi_len t m
    cases m with
    | zero =>
      have hdk : decide ((8 : Int) < 8) = false := rfl
      rw [show 8 - ((0 : Nat) : Int) = 8 from rfl]
      rw [hi_zero] at hown
      have HR := hid hown
      clear hown
      have hn0 := hn
      go_wp2
      go_loopw [6, 9, 46] (fun r _ i wr => ∃ k : Nat, k ≤ l.length ∧ i = .int .i64 k ∧ Own wr w2.heap.size 5 r (u8s (hdr l ++ be8 t ++ (l.take k).map byte)) ∧ Nw w2 wr) (fun _ _ i _ => l.length - (intOf i).toNat)
      case atStart => exact ⟨0, Nat.zero_le _, rfl, by simpa using HR.out, hn0⟩
      case round =>
        obtain ⟨k, hk, rfl, hown, hn⟩ := hrel
        have hel := encd_len t l k hl64
        by_cases hlt : k < l.length
        · have hdk : decide (k < l.length) = true := decide_eq_true hlt
          obtain ⟨b1, o1, rfl, hcell⟩ := i64_cell (HCQ.out.nw hn) k hlt
          have hx := HM.out _ (getd_mem hlt)
          have HS := hid (ids_step t l k hlt hx.1 hx.2)
          obtain ⟨hx0, hx1⟩ := hx
          generalize l.getD k 0 = x at *
          obtain ⟨pr, cr, rfl, _⟩ := hown.sl.open (n := (hdr l ++ be8 t ++ (l.take k).map byte).length) (u8s_length _)
          go_wp2_with (first
            | (at_builtin; refine app1 rfl _ _ _ rfl _ _ _ Try.underlying22 info_u8 rfl (by decide) (hn.alloc _) (hown.nw ((Nw.refl _).alloc _)) rfl (Sl.new wr [_] _ _ (by simp [maxLen])) rfl (by simp [Value.oneCell']) ?_ ?_; rotate_left; (rw [u8s_length]; simp only [List.length_cons, List.length_nil]; omega); intro v3 w3 hown3 hg3 hn3))
          go_roundw
          case rel => exact ⟨k + 1, by omega, by go_num, by rw [← HS.out]; exact hown3, hn3⟩
          case measure => (simp [intOf] <;> omega)
        · obtain rfl : k = l.length := by omega
          have hdk : decide (l.length < l.length) = false := decide_eq_false (by omega)
          generalize hdr l ++ be8 t ++ (l.take l.length).map byte = E at *
          obtain ⟨pr, cr, rfl, _⟩ := hown.sl.open (n := E.length) (u8s_length _)
          have hby : Bytes wr (.slice pr E.length cr) E := hown.sl
          have hpl := put_len E
          have hE2 : E.length ≤ 1073741824 := by omega
          go_wp2_with (first
            | (go_at_call 47; refine (Sum.rput_c _ E _ (hby.nw hn1) hE2).mono ?_; rintro e w4 ⟨v4, rfl, hown4, hn4⟩)
            | (at_builtin; refine app1 rfl _ _ _ rfl _ _ _ Try.underlying22 info_u8 rfl (by decide) ((Nw.refl wr).alloc _) (Own.new wr _ _ [] (Nat.le_refl _) (Nat.zero_le _)) rfl (hb.nw ((show Nw w wr from (show Nw w w2 from (by repeat (first | assumption | exact Nw.refl _ | refine Nw.alloc ?_ _ | refine Nw.drew ?_ | refine Nw.drewN2 ?_ _ | (refine Nw.trans ?_ (by assumption))))).trans hn).alloc _)) rfl (u8s_one _) ?_ ?_; rotate_left; (simp only [u8s_length, List.length_append, List.length_nil, List.length_cons, List.length_map]; omega); intro v1 w1 hown1 hg1 hn1)
            | (at_builtin; refine app1 rfl _ _ _ rfl _ _ _ Try.underlying22 info_u8 rfl (by decide) (hn1.trans hn4) (hown1.nw hn4) rfl (hown4.sl) rfl (u8s_one _) ?_ ?_; rotate_left; (simp only [u8s_length, List.length_append, List.length_nil] at *; omega); intro v5 w5 hown5 hg5 hn5))
          go_ret
          exact hands_mono hown5 HP.out (Nw.size (show Nw w wr from (show Nw w w2 from (by repeat (first | assumption | exact Nw.refl _ | refine Nw.alloc ?_ _ | refine Nw.drew ?_ | refine Nw.drewN2 ?_ _ | (refine Nw.trans ?_ (by assumption))))).trans hn)) (((show Nw w w2 from (by repeat (first | assumption | exact Nw.refl _ | refine Nw.alloc ?_ _ | refine Nw.drew ?_ | refine Nw.drewN2 ?_ _ | (refine Nw.trans ?_ (by assumption))))).trans hn).trans hn5)
    | succ m =>
      have em : 8 - ((m + 1 : Nat) : Int) = 7 - m := by omega
      have hdk : decide (7 - (m : Int) < 8) = true := decide_eq_true (by omega)
      have e8 : 56 - 8 * (7 - (m : Int)) = 8 * m := by omega
      rw [em]
      have HS := hid (hi_snoc t l m (by omega))
      have hl1 := hi_len t (m + 1)
      obtain ⟨pr, cr, rfl, _⟩ := hown.sl.open (n := (hdr l ++ hi t (m + 1)).length) (u8s_length _)
      go_wp2_with (first
        | (at_builtin; refine app1 rfl _ _ _ rfl _ _ _ Try.underlying22 info_u8 rfl (by decide) (hn.alloc _) (hown.nw ((Nw.refl _).alloc _)) rfl (Sl.new wr [_] _ _ (by simp [maxLen])) rfl (by simp [Value.oneCell']) ?_ ?_; rotate_left; (simp only [u8s_length, hdr, List.length_append, List.length_cons, List.length_nil]; omega); intro v3 w3 hown3 hg3 hn3))
      go_roundw
      case rel => exact ⟨m, by omega, by congr 1; omega, by rw [← HS.out _ rfl]; exact hown3, hn3⟩
      case measure => (simp [intOf] <;> omega)
theorem rput_c (vb v : Value) (b : List UInt8) (t : Int) (l : List Int) (w : World) (hb : Bytes w vb b) (hv : Sl w v (i64s l)) (h0 : 0 ≤ t) (h1 : t < 18446744073709551616) (hlen : b.length ≤ 1000000000) :
    Calls Try.prog 45 #[vb, .agg #[.int .u64 t, v]] w (Hands8 w (putE b t l)) := by
  cases hr : rises l 64 with
  | true => exact rput_yes vb v b t l w hb hv h0 h1 hlen hr
  | false => exact rput_no vb v b t l w hb hv hlen hr
end Rec
end Go.Proofs.Ytdihoedehmfgfaa
