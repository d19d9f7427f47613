/- Joined texts.
The contract of the laws' Sealed of layer 10. No condition but lengths.
Strings and events that come in; how long Sealed's bytes are. No program in sight.
-/
import Derived.Test.YtdihoedehmfgfaaLogC
import Derived.Test.YtdihoedehmfgfaaRecC
import Derived.Test.YtdihoedehmfgfaaJTs
set_option linter.unusedSimpArgs false
set_option linter.unusedVariables false
namespace Go.Proofs.Ytdihoedehmfgfaa
open Go.ChangeShapes Go.WideShapes Go.ChangeAt Go.RowKit
namespace Lg
open Go.Proofs.Ytdihoedehmfgfaa.Lx (isIn nameB strs strs_open strs_cell)
open Go.Proofs.Ytdihoedehmfgfaa.Rec (rises rec_ get put_len i64s_open i64_cell hdr hi hi_eight hi_zero hi_snoc hi_len be8 getd_mem)
open Go.Proofs.Ytdihoedehmfgfaa.Sum (byte byte_val put right Hands8)
open Go.Proofs.Ytdihoedehmfgfaa.Tr (T Es tm ids Evs EC box2 lt_alloc take_snoc)
def b256 (n : Int) : UInt8 := byte (n % 256)
theorem b256_val (n : Int) : Value.int .u8 ((b256 n).toNat : Int) = .int .u8 (n % 256) := by
  unfold b256
  rw [byte_val _ (Int.emod_nonneg _ (by decide)) (Int.emod_lt_of_pos _ (by decide))]
def nmS (s : ByteArray) : List UInt8 := b256 (s.size : Int) :: s.data.toList
def nmsS (l : List ByteArray) : List UInt8 := l.flatMap nmS
def preS (n : Nat) : List UInt8 := [87, 71, 76, 1, b256 (n : Int)]
def encS (t : Int) (l : List Int) : List UInt8 := hdr l ++ be8 t ++ l.map b256
def recS (t : Int) (l : List Int) : List UInt8 := put (encS t l)
def recsS (es : Es) : List UInt8 := es.flatMap fun e => recS e.1 e.2
def sealP (l : List ByteArray) (es : Es) : List UInt8 := put (preS l.length ++ nmsS l) ++ recsS es
theorem nmsS_snoc (l : List ByteArray) (k : Nat) (h : k < l.length) : nmsS (l.take (k + 1)) = nmsS (l.take k) ++ nmS (l.getD k ⟨#[]⟩) := by
  have e : l.take (k + 1) = l.take k ++ [l.getD k ⟨#[]⟩] := by
    rw [List.take_add_one, List.getElem?_eq_getElem h]
    simp [List.getD_eq_getElem?_getD, h]
  rw [e]
  simp only [nmsS, List.flatMap_append, List.flatMap_cons, List.flatMap_nil, List.append_nil]
theorem nmsS_le (l : List ByteArray) (k : Nat) : (nmsS (l.take k)).length ≤ (nmsS l).length := by
  conv => rhs; rw [← List.take_append_drop k l]
  simp only [nmsS, List.flatMap_append, List.length_append]
  omega
theorem recsS_snoc (es : Es) (k : Nat) (h : k < es.length) : recsS (es.take (k + 1)) = recsS (es.take k) ++ recS (tm es k) (ids es k) := by
  rw [take_snoc es k h]
  simp only [recsS, List.flatMap_append, List.flatMap_cons, List.flatMap_nil, List.append_nil]
theorem encS_len (t : Int) (l : List Int) : (encS t l).length = 10 + l.length := by simp [encS, hdr, be8]; omega
theorem recsS_len (es : Es) (h : ∀ i, i < es.length → (ids es i).length ≤ 300) : (recsS es).length ≤ 314 * es.length := by
  induction es with
  | nil => simp [recsS]
  | cons x r ih =>
    have h1 := ih fun i hi => by
      have := h (i + 1) (by simpa using hi)
      simpa [ids] using this
    have h2 := h 0 (by simp)
    have e2 : ids (x :: r) 0 = x.2 := rfl
    rw [e2] at h2
    have e : recsS (x :: r) = recS x.1 x.2 ++ recsS r := rfl
    rw [e, List.length_append, List.length_cons]
    unfold recS
    rw [put_len, encS_len]
    omega
theorem nmS_step (X : List UInt8) (l : List ByteArray) (k : Nat) (h : k < l.length) : u8s (X ++ nmsS (l.take k)) ++ [.int .u8 (((l.getD k ⟨#[]⟩).size : Int) % 256)] ++ u8s (l.getD k ⟨#[]⟩).data.toList = u8s (X ++ nmsS (l.take (k + 1))) := by
  rw [nmsS_snoc l k h]
  have := b256_val ((l.getD k ⟨#[]⟩).size : Int)
  simp only [u8s, nmS, List.map_append, List.map_cons, List.append_assoc, this, List.cons_append, List.nil_append]
theorem nmS_len (l : List ByteArray) (k : Nat) (h : k < l.length) : (nmsS (l.take k)).length + 1 + (l.getD k ⟨#[]⟩).size ≤ (nmsS l).length := by
  have h1 := nmsS_le l (k + 1)
  rw [nmsS_snoc l k h, List.length_append] at h1
  have h2 : (nmS (l.getD k ⟨#[]⟩)).length = (l.getD k ⟨#[]⟩).size + 1 := by
    show (l.getD k ⟨#[]⟩).data.toList.length + 1 = _
    rw [Array.length_toList]; rfl
  omega
theorem preS_u8s (n : Nat) : u8s (preS n) = [.int .u8 87, .int .u8 71, .int .u8 76, .int .u8 1, .int .u8 ((n : Int) % 256)] := by
  have := b256_val (n : Int)
  simp only [u8s, preS, List.map_cons, List.map_nil, this]
  rfl
theorem idsS_step (X : List UInt8) (l : List Int) (k : Nat) (h : k < l.length) : u8s (X ++ (l.take k).map b256) ++ [.int .u8 (l.getD k 0 % 256)] = u8s (X ++ (l.take (k + 1)).map b256) := by
  have e : l.take (k + 1) = l.take k ++ [l.getD k 0] := by
    rw [List.take_add_one, List.getElem?_eq_getElem h]
    simp [List.getD_eq_getElem?_getD, h]
  have := b256_val (l.getD k 0)
  rw [e]
  simp only [u8s, List.map_append, List.map_cons, List.map_nil, List.append_assoc, this]
theorem hdr_u8sS (l : List Int) : u8s (hdr l) = [.int .u8 ((8 + (l.length : Int)) / 256 % 256), .int .u8 ((8 + (l.length : Int)) % 256)] := by
  have h0 := byte_val (((8 + l.length : Nat) : Int) / 256 % 256) (by omega) (by omega)
  have h1 := byte_val (((8 + l.length : Nat) : Int) % 256) (by omega) (by omega)
  simp only [u8s, hdr, List.map_cons, List.map_nil, h0, h1]
  push_cast
  rfl
set_option maxRecDepth 20000 in
set_option maxHeartbeats 1600000 in
theorem sealed_c (vn ve : Value) (l : List ByteArray) (es : Es) (w : World) (hvn : Sl w vn (strs l)) (hve : Evs w ve es) (hln : l.length ≤ 1000000) (hnm : (nmsS l).length ≤ 100000000) (hel : es.length ≤ 300) (hid0 : ∀ i, i < es.length → (ids es i).length ≤ 300) (htb : ∀ i, i < es.length → 0 ≤ tm es i ∧ tm es i < 18446744073709551616) :
    Calls Try.prog 19 #[vn, ve] w (Hands8 w (sealP l es)) := by
  have HRL := hid (fun k => recsS_len (es.take k) (fun i hi => by rw [List.length_take] at hi; rw [Tr.ids_take _ _ _ (by omega)]; exact hid0 i (by omega)))
  have HID := hid hid0
  have HTB := hid htb
  obtain ⟨pn, capn, rfl, hcn, hmn, _, hcc⟩ := strs_open hvn
  obtain ⟨p, cap, rfl, hcap, hmx, hp0, hec⟩ := hve
  have HC := hid hcc
  have HE := hid hec
  have HNL := hid (nmsS_le l)
  have HNK := hid (nmS_len l)
  have HP := hid (preS_u8s l.length)
  unfold maxLen at hmn hmx
  clear hvn hcc hec hid0 htb
  go_enter Try.func19, Try.ntmps19
  go_wp2
  go_loopw [5, 7, 22] (fun r _ i wr => ∃ k : Nat, k ≤ l.length ∧ i = .int .i64 k ∧ Own wr w.heap.size 5 r (u8s (preS l.length ++ nmsS (l.take k))) ∧ Nw w wr) (fun _ _ i _ => l.length - (intOf i).toNat)
  case atStart => exact ⟨0, Nat.zero_le _, rfl, by rw [List.take_zero]; show Own _ _ _ _ (u8s (preS l.length ++ [])); rw [List.append_nil, HP.out]; exact Own.newAt w _ _ [_, _, _, _, _] _ _ rfl rfl (Nat.le_refl _) (by simp [maxLen]), (Nw.refl _).alloc _⟩
  case round =>
    obtain ⟨k, hk, rfl, hown, hn⟩ := hrel
    have hpl : (preS l.length ++ nmsS (l.take k)).length ≤ 100000005 := by
      have h1 := HNL.out k
      rw [List.length_append]
      simp only [preS, List.length_cons, List.length_nil]
      omega
    by_cases hlt : k < l.length
    · have hdk : decide (k < l.length) = true := decide_eq_true hlt
      obtain ⟨b1, o1, rfl, hcell⟩ := strs_cell (HC.out.nw hn) k hlt
      rw [show l[k] = l.getD k ⟨#[]⟩ by simp [List.getD_eq_getElem?_getD, hlt]] at hcell
      have hsz := HNK.out k hlt
      have HT := hid (nmS_step (preS l.length) l k hlt)
      generalize l.getD k ⟨#[]⟩ = s at *
      have hsz2 : s.size ≤ 100000000 := by omega
      generalize preS l.length ++ nmsS (l.take k) = X at *
      obtain ⟨pr, cr, rfl, _⟩ := hown.sl.open (n := X.length) (u8s_length _)
      go_wp2_with (first
        | (at_builtin; refine app1 rfl _ _ _ rfl _ _ _ Try.underlying22 info_u8 rfl (by decide) (hn.alloc _) (hown.nw ((Nw.refl _).alloc _)) rfl (Sl.new wr [_] _ _ (by simp [maxLen])) rfl (by simp [Value.oneCell']) ?_ ?_; rotate_left; (rw [u8s_length]; simp only [List.length_cons, List.length_nil]; omega); intro v3 w3 hown3 hg3 hn3; obtain ⟨q3, c3, rfl, _⟩ := hown3.sl.open (n := X.length + 1) (by simp [u8s_length]))
        | (at_builtin; refine app1s rfl _ _ _ _ rfl _ Try.underlying22 Try.underlying9 info_u8 hn3 hown3 rfl rfl ?_ ?_; rotate_left; (simp only [u8s_length, List.length_append, List.length_cons, List.length_nil]; omega); intro v4 w4 hown4 hg4 hn4)
        | fail)
      go_roundw
      case rel => exact ⟨k + 1, by omega, by go_num, by rw [← HT.out]; exact hown4, hn4⟩
      case measure => (simp [intOf] <;> omega)
    · obtain rfl : k = l.length := by omega
      have hdk : decide (l.length < l.length) = false := decide_eq_false (by omega)
      rw [List.take_length] at hown hpl
      have HSP := hid (show sealP l es = put (preS l.length ++ nmsS l) ++ recsS es from rfl)
      have hXl : (put (preS l.length ++ nmsS l)).length ≤ 100000100 := by rw [put_len]; omega
      have HPU := hid (fun v w' (h : Bytes w' v (preS l.length ++ nmsS l)) => Sum.rput_c v (preS l.length ++ nmsS l) w' h (by omega))
      have hby : Bytes wr _ (preS l.length ++ nmsS l) := hown.sl
      generalize put (preS l.length ++ nmsS l) = P0 at *
      generalize preS l.length ++ nmsS l = X at *
      obtain ⟨pr, cr, rfl, _⟩ := hown.sl.open (n := X.length) (u8s_length _)
      go_upto_region 9 with (first
        | (go_at_call 47; refine (HPU.out _ _ hby).mono ?_; rintro e w4 ⟨v4, rfl, hown4, hn4⟩)
        | fail)
      have hownP := Own.mono hown4 hn.size
      have hw4 := hn.trans hn4
      clear hown hown4 hn hn4 hby HPU hpl
      go_loopw [8, 10, 11, 12, 13, 15, 39] (fun r _ _ _ _ _ i wr => ∃ k : Nat, k ≤ es.length ∧ i = .int .i64 k ∧ Own wr w.heap.size 5 r (u8s (P0 ++ recsS (es.take k))) ∧ Nw w wr) (fun _ _ _ _ _ _ i _ => es.length - (intOf i).toNat)
      case atStart => exact ⟨0, Nat.zero_le _, rfl, by rw [List.take_zero]; show Own _ _ _ _ (u8s (P0 ++ [])); rw [List.append_nil]; exact hownP, hw4⟩
      case round =>
        obtain ⟨k, hk, rfl, hown, hn⟩ := hrel
        by_cases hlt : k < es.length
        · have hdk : decide (k < es.length) = true := decide_eq_true hlt
          have hpl : (P0 ++ recsS (es.take k)).length ≤ 200000000 := by
            have h1 := HRL.out k
            rw [List.length_take] at h1
            rw [List.length_append]
            omega
          have HRS := hid (show (P0 ++ recsS (es.take (k + 1))) = P0 ++ recsS (es.take k) ++ recS (tm es k) (ids es k) by rw [recsS_snoc es k hlt, List.append_assoc])
          have hil := HID.out k hlt
          obtain ⟨htb0, htb1⟩ := HTB.out k hlt
          obtain ⟨b1, o1, vi, rfl, c0, c1', hsv⟩ := (HE.out.nw hn) k hlt
          obtain ⟨pi, ci, rfl, hci, hmi, _, hcs⟩ := i64s_open hsv
          unfold maxLen at hmi
          have gb1 := World.block_lt_of_cell? wr _ c0
          simp only at gb1
          have HCI := hid hcs
          generalize tm es k = tj at *
          generalize ids es k = il at *
          clear hsv hcs
          generalize P0 ++ recsS (es.take k) = X8 at *
          obtain ⟨p8, c8, rfl, _⟩ := hown.sl.open (n := X8.length) (u8s_length _)
          go_upto_region 11 with fail
          obtain ⟨z0, z1⟩ := box2 wr (.int .u64 tj) (.slice pi il.length ci) 38
          have hnz := (Nw.refl wr).alloc (.cells #[.int .u64 tj, .slice pi il.length ci] 38)
          have lz := lt_alloc wr (.cells #[.int .u64 tj, .slice pi il.length ci] 38)
          have HC2 := hid (HCI.out.nw hnz)
          have hown2 := hown.nw hnz
          have hw5 := hn.trans hnz
          clear hnz c0 c1' gb1 hn hown HCI
          generalize wr.alloc (.cells #[.int .u64 tj, .slice pi il.length ci] 38) = wz at *
          generalize wr.heap.size = g10 at *
          have HH := hid (show u8s (hdr il) = [.int .u8 ((8 + (il.length : Int)) / 256), .int .u8 ((8 + (il.length : Int)) % 256)] by rw [hdr_u8sS il, show (8 + (il.length : Int)) / 256 % 256 = (8 + (il.length : Int)) / 256 by omega])
          go_wp2
          go_loopw [12, 13, 53] (fun r _ i wq => ∃ m : Nat, m ≤ 8 ∧ i = .int .i64 (8 - (m : Int)) ∧ Own wq wz.heap.size 5 r (u8s (hdr il ++ hi tj m)) ∧ Nw wz wq) (fun _ _ i _ => (8 - intOf i).toNat)
          case atStart => exact ⟨8, by omega, rfl, by rw [hi_eight, List.append_nil, HH.out]; exact Own.newAt wz _ _ [_, _] _ _ rfl rfl (Nat.le_refl _) (by simp [maxLen]), (Nw.refl _).alloc _⟩
          case round =>
            obtain ⟨m, hm, rfl, hownq, hnq⟩ := hrel
            have hlm := hi_len tj m
            cases m with
            | zero =>
              have hdk2 : decide ((8 : Int) < 8) = false := rfl
              rw [show 8 - ((0 : Nat) : Int) = 8 from rfl]
              rw [hi_zero] at hownq
              have HR := hid hownq
              have hnq0 := hnq
              replace z0 := hnq.cell z0
              replace z1 := hnq.cell z1
              replace lz := Nat.lt_of_lt_of_le lz hnq.size
              clear hownq
              go_wp2
              go_loopw [12, 15, 71] (fun r _ i wq => ∃ k : Nat, k ≤ il.length ∧ i = .int .i64 k ∧ Own wq wz.heap.size 5 r (u8s (hdr il ++ be8 tj ++ (il.take k).map b256)) ∧ Nw wz wq) (fun _ _ i _ => il.length - (intOf i).toNat)
              case atStart => exact ⟨0, Nat.zero_le _, rfl, by simpa using HR.out, hnq0⟩
              case round =>
                clear hnq hnq0 HR z0 z1 lz
                obtain ⟨j, hj, rfl, hownq, hnq⟩ := hrel
                have helq : (hdr il ++ be8 tj ++ (il.take j).map b256).length ≤ 1000 := by
                  simp only [List.length_append, List.length_map, List.length_take, hdr, be8, List.length_cons, List.length_nil]
                  omega
                by_cases hjl : j < il.length
                · have hdj : decide (j < il.length) = true := decide_eq_true hjl
                  obtain ⟨b1, o1, rfl, hcell⟩ := i64_cell (HC2.out.nw hnq) j hjl
                  have HS := hid (idsS_step (hdr il ++ be8 tj) il j hjl)
                  generalize il.getD j 0 = x at *
                  generalize hdr il ++ be8 tj ++ (il.take j).map b256 = E at *
                  obtain ⟨pr, cr, rfl, _⟩ := hownq.sl.open (n := E.length) (u8s_length _)
                  go_wp2_with (first
                    | (at_builtin; refine app1 rfl _ _ _ rfl _ _ _ Try.underlying22 info_u8 rfl (by decide) (hnq.alloc _) (hownq.nw ((Nw.refl _).alloc _)) rfl (Sl.new wr [_] _ _ (by simp [maxLen])) rfl (by simp [Value.oneCell']) ?_ ?_; rotate_left; (rw [u8s_length]; simp only [List.length_cons, List.length_nil]; omega); intro v3 w3 hown3 hg3 hn3)
                    | fail)
                  go_roundw
                  case rel => exact ⟨j + 1, by omega, by go_num, by rw [← HS.out]; exact hown3, hn3⟩
                  case measure => (simp [intOf] <;> omega)
                · obtain rfl : j = il.length := by omega
                  have hdj : decide (il.length < il.length) = false := decide_eq_false (by omega)
                  rw [List.take_length] at hownq helq
                  have HRC := hid (show recS tj il = put (hdr il ++ be8 tj ++ il.map b256) from rfl)
                  have hpl2 : (recS tj il).length ≤ 2000 := by rw [HRC.out, put_len]; omega
                  have HPU := hid (fun v w' (h : Bytes w' v (hdr il ++ be8 tj ++ il.map b256)) => show Calls Try.prog 47 #[v] w' (Hands8 w' (recS tj il)) from Sum.rput_c v (hdr il ++ be8 tj ++ il.map b256) w' h (by omega))
                  have hby : Bytes wr _ (hdr il ++ be8 tj ++ il.map b256) := hownq.sl
                  generalize recS tj il = R at *
                  generalize hdr il ++ be8 tj ++ il.map b256 = E at *
                  obtain ⟨pr, cr, rfl, _⟩ := hownq.sl.open (n := E.length) (u8s_length _)
                  have hown8 := hown2.nw hnq
                  have hw8 := hw5.trans hnq
                  go_wp2_with (first
                    | (go_at_call 47; refine (HPU.out _ _ hby).mono ?_; rintro e w4 ⟨v4, rfl, hown4, hn4⟩)
                    | (at_builtin; refine app1 rfl _ _ _ rfl _ _ _ Try.underlying22 info_u8 rfl (by decide) (hw8.trans hn4) (hown8.nw hn4) rfl (hown4.sl) rfl (u8s_one _) ?_ ?_; rotate_left; (simp only [u8s_length]; omega); intro v5 w5 hown5 hg5 hn5)
                    | fail)
                  go_roundw
                  case rel => exact ⟨k + 1, by omega, by go_num, by rw [HRS.out, ← u8s_append]; exact hown5, hn5⟩
                  case measure => (simp [intOf] <;> omega)
            | succ m =>
              have em : 8 - ((m + 1 : Nat) : Int) = 7 - m := by omega
              have hdk2 : decide (7 - (m : Int) < 8) = true := decide_eq_true (by omega)
              have e8 : 56 - 8 * (7 - (m : Int)) = 8 * m := by omega
              rw [em]
              have HS := hid (hi_snoc tj il m (by omega))
              have hl1 := hi_len tj (m + 1)
              replace z0 := hnq.cell z0
              replace z1 := hnq.cell z1
              replace lz := Nat.lt_of_lt_of_le lz hnq.size
              obtain ⟨pr, cr, rfl, _⟩ := hownq.sl.open (n := (hdr il ++ hi tj (m + 1)).length) (u8s_length _)
              go_wp2_with (first
                | (at_builtin; refine app1 rfl _ _ _ rfl _ _ _ Try.underlying22 info_u8 rfl (by decide) (hnq.alloc _) (hownq.nw ((Nw.refl _).alloc _)) rfl (Sl.new wr [_] _ _ (by simp [maxLen])) rfl (by simp [Value.oneCell']) ?_ ?_; rotate_left; (simp only [u8s_length, hdr, List.length_append, List.length_cons, List.length_nil]; omega); intro v3 w3 hown3 hg3 hn3)
                | fail)
              go_roundw
              case rel => exact ⟨m, by omega, by congr 1; omega, by rw [← HS.out _ rfl]; exact hown3, hn3⟩
              case measure => (simp [intOf] <;> omega)
        · obtain rfl : k = es.length := by omega
          have hdk : decide (es.length < es.length) = false := decide_eq_false (by omega)
          rw [List.take_length] at hown
          rw [← HSP.out] at hown
          go_wp2
          go_ret
          exact ⟨_, rfl, hown, hn⟩
end Lg
end Go.Proofs.Ytdihoedehmfgfaa
namespace Go.Proofs.Ytdihoedehmfgfaa
open Go.ChangeShapes Go.WideShapes Go.ChangeAt Go.RowKit
open Go.ChangeMaps (open_string shut_string)
namespace Lg
open Go.Proofs.Ytdihoedehmfgfaa.Tr (T Es tm ids Evs EC EvIn open_evs_at)
/-! ### What comes in -/
section
variable {H : Type} {enc : TypeId × Value → H} {P : Program}
theorem bulk_nms (l : List ByteArray) : Rows.uptoBulkAll (Go.ChangeShapes.strs (H := H) l) = (nmsS l).length := by
  induction l with
  | nil => rfl
  | cons s r ih =>
    have e : nmsS (s :: r) = nmS s ++ nmsS r := rfl
    have e2 : (nmS s).length = s.data.toList.length + 1 := rfl
    rw [e, List.length_append, e2, ← ih]
    show Rows.uptoBulk (.lit (.string s.data.toList)) + _ = _
    simp only [Rows.uptoBulk]
    rfl
theorem nmsS_ge (l : List ByteArray) : l.length ≤ (nmsS l).length := by
  induction l with
  | nil => simp [nmsS]
  | cons s r ih =>
    have e : nmsS (s :: r) = nmS s ++ nmsS r := rfl
    have e2 : (nmS s).length = s.data.toList.length + 1 := rfl
    rw [e, List.length_append, e2, List.length_cons]
    omega
theorem open_strs_sum {t e : TypeId} {W : World} {base : Nat} {v : Value} {d : DataW H} {p : List MemPlace} (ht : P.underlying t = some (.slice e)) (he : P.underlying e = some .string) (hc : P.cellsOf e = 1)
    (hval : Value.okWide P W .any base t v) (hj : DataW.Trod enc P W 0 (fun _ => true) true t v d p) :
    ∃ l : List ByteArray, Sl W v (Lx.strs l) ∧ (nmsS l).length ≤ Rows.uptoBulk d := by
  obtain ⟨a0, len, cap, rfl⟩ := okWide_slice ht hval
  obtain ⟨fuel, hf⟩ := hj
  simp only [Value.cells] at hf
  rcases open_strings ht he hc hf with ⟨hcs, hx⟩ | ⟨a, len', cap', ss, hcs, _, hl, hm, hz, hx, hcell, hsz⟩
  · simp at hcs
    obtain ⟨rfl, rfl, rfl⟩ := hcs
    exact ⟨[], Sl.nil W, Nat.zero_le _⟩
  · simp at hcs
    obtain ⟨rfl, rfl, rfl⟩ := hcs
    simp only [Prod.mk.injEq] at hx
    obtain ⟨rfl, _⟩ := hx
    simp only [if_true] at hz
    have hlen : (ss.take len).length = len := by simp; omega
    refine ⟨ss.take len, ⟨some a, cap, by simp [Lx.strs]; omega, by simp [Lx.strs]; omega, hm, (fun h => by cases h), Cells.of_add fun i hi => ?_⟩, ?_⟩
    · simp [Lx.strs] at hi
      rw [hcell i (by omega)]
      simp [Lx.strs, List.getD_eq_getElem?_getD, List.getElem?_eq_getElem (show i < ss.length by omega)]
    · simp only [Rows.uptoBulk]
      rw [bulk_nms]
      omega
theorem open_evs {t e e2 : TypeId} {f0 f1 : Field} {W : World} {base : Nat} {v : Value} {d : DataW H} {p : List MemPlace} (ht : P.underlying t = some (.slice e)) (he : P.underlying e = some (.struct #[f0, f1]))
    (ce : P.cellsOf e = 2) (o0 : f0.offset = 0) (o1 : f1.offset = 1) (c0 : P.cellsOf f0.type = 1) (c1 : P.cellsOf f1.type = 1) (h0 : P.underlying f0.type = some (.int .u64)) (h1 : P.underlying f1.type = some (.slice e2)) (he2 : P.underlying e2 = some (.int .i64)) (hc2 : P.cellsOf e2 = 1)
    (hval : Value.okWide P W .any base t v) (hj : DataW.Trod enc P W 0 (fun _ => true) true t v d p) :
    ∃ es : Es, Evs W v es ∧ es.length ≤ Rows.uptoBulk d ∧ (∀ i, i < es.length → (ids es i).length ≤ Rows.uptoBulk d) ∧ (∀ i, i < es.length → 0 ≤ tm es i ∧ tm es i < 18446744073709551616) := by
  obtain ⟨a0, len, cap, rfl⟩ := okWide_slice ht hval
  obtain ⟨fuel, hf⟩ := hj
  obtain ⟨es, k1, k2, k3⟩ := open_evs_at (v := .slice a0 len cap) (y := (d, p)) ht he ce o0 o1 c0 c1 h0 h1 he2 hc2 (by simpa [Value.cells] using hf)
  exact ⟨es, k1, k2, fun i hi => (k3 i hi).2.2, fun i hi => (k3 i hi).1⟩
end
/-! ### LogSealed -/
theorem sealP_len (l : List ByteArray) (es : Es) (h : ∀ i, i < es.length → (ids es i).length ≤ 300) : (sealP l es).length ≤ (nmsS l).length + 9 + 314 * es.length := by
  have := recsS_len es h
  unfold sealP
  rw [List.length_append, Rec.put_len, List.length_append]
  simp only [preS, List.length_cons, List.length_nil]
  omega
end Lg
end Go.Proofs.Ytdihoedehmfgfaa
