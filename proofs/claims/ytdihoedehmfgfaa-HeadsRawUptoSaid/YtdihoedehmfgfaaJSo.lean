/- Joined texts.
The contracts of package source and of the reference's Source: what New, Read, Reads and Len do to the source's own block, for any bytes, script, fault and reads.
SourceNil: for every input the law returns true, and each argument reads as it did. No condition.
SourceAll walked: for any bytes, script, fault and mosts of lengths at most 100000000 the law returns true.
-/
import Derived.Test.YtdihoedehmfgfaaBase
import Derived.Test.YtdihoedehmfgfaaRegion
set_option linter.unusedSimpArgs false
set_option linter.unusedVariables false
namespace Go.Proofs.Ytdihoedehmfgfaa
open Go.ChangeShapes Go.WideShapes Go.ChangeAt Go.RowKit
theorem info_int : (Try.prog.info? 3).map (fun i => (i.zero, i.size, i.bytes)) = some (some (.int .i64 0), 1, 8) := by kernel_rfl
theorem nil8 (w : World) (a : Option Addr) (n c : Nat) : (binOp .eql 22 (.slice a n c) (.slice none 0 0)).run Try.prog w = .ok (.bool a.isNone) w := Lib.run_eql_slice_nil w 22 5 a n c 0 0 Try.underlying22
theorem nil64 (w : World) (a : Option Addr) (n c : Nat) : (binOp .eql 23 (.slice a n c) (.slice none 0 0)).run Try.prog w = .ok (.bool a.isNone) w := Lib.run_eql_slice_nil w 23 3 a n c 0 0 Try.underlying23
theorem i64s_one (zs : List Int) : ∀ u ∈ i64s zs, u.oneCell' = true := oneCell_map _ (fun _ => rfl) zs
/-- A call hands back a slice of its own. -/
def Hands (e0 : TypeId) (w : World) (vs : List Value) (e : Ending) (w' : World) : Prop := ∃ v, e = .returned v ∧ Own w' w.heap.size e0 v vs ∧ Nw w w'
theorem clone8_nil (w : World) : Calls Try.prog 51 #[.slice none 0 0] w (Hands 5 w []) := by
  have q := nil8
  go_enter Try.func51, Try.ntmps51
  go_wp2
  go_ret
  exact ⟨_, rfl, Own.nil _ _ _, Nw.refl _⟩
set_option maxRecDepth 20000 in
theorem clone8_some (a : Addr) (n cap : Nat) (vs : List Value) (w : World) (hv : Sl w (.slice (some a) n cap) vs) (h1 : ∀ u ∈ vs, u.oneCell' = true) (hlen : vs.length ≤ 1000000000) :
    Calls Try.prog 51 #[.slice (some a) n cap] w (Hands 5 w vs) := by
  have q := nil8
  go_enter Try.func51, Try.ntmps51
  go_wp2_with (first
    | (at_builtin; refine app1 rfl _ _ _ rfl _ _ _ Try.underlying22 info_u8 rfl (by decide) ((Nw.refl w).alloc _) (Own.new w _ _ [] (Nat.le_refl _) (Nat.zero_le _)) rfl (hv.nw ((Nw.refl w).alloc _)) rfl h1 ?_ ?_; rotate_left; (simp; omega); intro v2 w2 hown2 hg2 hn2))
  go_ret
  exact ⟨_, rfl, by simpa using hown2, hn2⟩
theorem clone8_c (v : Value) (vs : List Value) (w : World) (hv : Sl w v vs) (h1 : ∀ u ∈ vs, u.oneCell' = true) (hlen : vs.length ≤ 1000000000) : Calls Try.prog 51 #[v] w (Hands 5 w vs) := by
  obtain ⟨p, cap, rfl, hcap, hmx, hnil, hc⟩ := hv
  cases p with
  | none =>
    obtain rfl := hnil rfl
    obtain rfl : vs = [] := by cases vs with | nil => rfl | cons y r => simp at hcap
    exact clone8_nil w
  | some a => exact clone8_some a _ cap vs w ⟨some a, cap, rfl, hcap, hmx, hnil, hc⟩ h1 hlen
theorem clone64_nil (w : World) : Calls Try.prog 52 #[.slice none 0 0] w (Hands 3 w []) := by
  have q := nil64
  go_enter Try.func52, Try.ntmps52
  go_wp2
  go_ret
  exact ⟨_, rfl, Own.nil _ _ _, Nw.refl _⟩
set_option maxRecDepth 20000 in
theorem clone64_some (a : Addr) (n cap : Nat) (vs : List Value) (w : World) (hv : Sl w (.slice (some a) n cap) vs) (h1 : ∀ u ∈ vs, u.oneCell' = true) (hlen : vs.length ≤ 1000000000) :
    Calls Try.prog 52 #[.slice (some a) n cap] w (Hands 3 w vs) := by
  have q := nil64
  go_enter Try.func52, Try.ntmps52
  go_wp2_with (first
    | (at_builtin; refine app1 rfl _ _ _ rfl _ _ _ Try.underlying23 info_int rfl (by decide) ((Nw.refl w).alloc _) (Own.new w _ _ [] (Nat.le_refl _) (Nat.zero_le _)) rfl (hv.nw ((Nw.refl w).alloc _)) rfl h1 ?_ ?_; rotate_left; (simp; omega); intro v2 w2 hown2 hg2 hn2))
  go_ret
  exact ⟨_, rfl, by simpa using hown2, hn2⟩
theorem clone64_c (v : Value) (vs : List Value) (w : World) (hv : Sl w v vs) (h1 : ∀ u ∈ vs, u.oneCell' = true) (hlen : vs.length ≤ 1000000000) : Calls Try.prog 52 #[v] w (Hands 3 w vs) := by
  obtain ⟨p, cap, rfl, hcap, hmx, hnil, hc⟩ := hv
  cases p with
  | none =>
    obtain rfl := hnil rfl
    obtain rfl : vs = [] := by cases vs with | nil => rfl | cons y r => simp at hcap
    exact clone64_nil w
  | some a => exact clone64_some a _ cap vs w ⟨some a, cap, rfl, hcap, hmx, hnil, hc⟩ h1 hlen

namespace Src
/-! ### What a source is -/
/-- How many bytes can be read. -/
def rt (len : Nat) (fault : Int) : Nat := if 0 ≤ fault ∧ fault < len then fault.toNat else len
/-- How many bytes one Read tells. -/
def many (sc : List Int) (rt n : Nat) (at_ : Nat) (most : Int) : Nat := (match sc[n]? with | some x => min (min most (rt - at_)) (max x 1) | none => min most (rt - at_ : Int)).toNat
/-- What a Read tells: bytes, the error, how many Reads told bytes behind it. -/
def read (b : List UInt8) (sc : List Int) (rt n : Nat) (at_ most : Int) : List UInt8 × Int × Nat :=
  if at_ < 0 ∨ most < 1 then ([], 1, n) else if b.length ≤ at_ then ([], 13, n) else if rt ≤ at_ then ([], 10, n)
  else ((b.drop at_.toNat).take (many sc rt n at_.toNat most), 0, n + 1)
/-- The program's source at block a; its bytes and script lie in blocks of F. -/
def Is (w : World) (F : Nat → Prop) (a : Nat) (b : List UInt8) (sc : List Int) (rt n : Nat) : Prop :=
  ∃ bv sv, w.heap[a]? = some (.cells #[bv, sv, .int .i64 rt, .int .i64 n] 91 (0, 0)) ∧ Bytes w bv b ∧ Sl w sv (i64s (sc.drop n)) ∧ (u8s b ≠ [] → ∀ k, bv.ownBlock = some k → F k) ∧ (i64s (sc.drop n) ≠ [] → ∀ k, sv.ownBlock = some k → F k)
theorem Is.mods {w w' : World} {F : Nat → Prop} {a : Nat} {b : List UInt8} {sc : List Int} {rt n : Nat} (h : Is w F a b sc rt n) {S : Nat → Prop} (hm : Mods S w w') (ha : ¬ S a) (hF : ∀ k, F k → ¬ S k) : Is w' F a b sc rt n := by
  obtain ⟨bv, sv, h1, h2, h3, h4, h5⟩ := h
  exact ⟨bv, sv, hm.heap h1 ha, Sl.mods h2 hm (fun hne k hk => hF k (h4 hne k hk)), Sl.mods h3 hm (fun hne k hk => hF k (h5 hne k hk)), h4, h5⟩
theorem Is.nw {w w' : World} {F : Nat → Prop} {a : Nat} {b : List UInt8} {sc : List Int} {rt n : Nat} (h : Is w F a b sc rt n) (hn : Nw w w') : Is w' F a b sc rt n :=
  h.mods (hn.mods (fun _ => False)) id (fun _ _ => id)
/-! ### New -/
/-- What New hands back. -/
def NewOk (w : World) (b : List UInt8) (sc : List Int) (r : Nat) (e : Ending) (w' : World) : Prop :=
  ∃ a, e = .returned (.pointer (some ⟨a, 0, none⟩)) ∧ Is w' (fun k => w.heap.size ≤ k ∧ k < a) a b sc r 0 ∧ w.heap.size ≤ a ∧ a < w'.heap.size ∧ Nw w w'
theorem new_ok {w w1 : World} {bv sv : Value} {b : List UInt8} {sc : List Int} {r : Nat} (h1 : Own w1 w.heap.size 5 bv (u8s b)) (h2 : Own w1 w.heap.size 3 sv (i64s sc)) (hn : Nw w w1)
    {w2 : World} (hw : w2 = w1.alloc (.cells #[bv, sv, .int .i64 r, .int .i64 0] 91)) : NewOk w b sc r (.returned (.pointer (some ⟨w1.heap.size, 0, none⟩))) w2 := by
  subst hw
  have hlt : ∀ {v : Value} {e0 : TypeId} {xs : List Value}, Own w1 w.heap.size e0 v xs → ∀ k, v.ownBlock = some k → w.heap.size ≤ k ∧ k < w1.heap.size := fun h k hk => World.ownsRow.lt h k hk
  refine ⟨_, rfl, ⟨bv, sv, heap_new _ _, ?_, ?_, fun _ => hlt h1, fun _ => hlt h2⟩, hn.size, by simp, hn.alloc _⟩
  · exact Sl.nw h1.sl ((Nw.refl _).alloc _)
  · rw [List.drop_zero]; exact Sl.nw h2.sl ((Nw.refl _).alloc _)
set_option maxRecDepth 20000 in
set_option maxHeartbeats 400000 in
theorem new_in (bv sv : Value) (b : List UInt8) (sc : List Int) (fault : Nat) (w : World) (hb : Bytes w bv b) (hs : Sl w sv (i64s sc)) (hlb : b.length ≤ 1000000000) (hls : sc.length ≤ 1000000000) (hf : fault < b.length) :
    Calls Try.prog 21 #[bv, sv, .int .i64 fault] w (NewOk w b sc fault) := by
  obtain ⟨p, cap, rfl, hcap, hmx, _, hc⟩ := hb.open
  go_enter Try.func21, Try.ntmps21
  go_wp2_with (first
    | (go_at_call 51; refine (clone8_c _ _ _ hb (u8s_one _) (by rw [u8s_length]; omega)).mono ?_; rintro e w1 ⟨v1, rfl, hown1, hn1⟩; obtain ⟨p1, c1, rfl, _⟩ := hown1.sl)
    | (go_at_call 52; refine (clone64_c _ _ _ (hs.nw hn1) (i64s_one _) (by rw [i64s_length]; omega)).mono ?_; rintro e w2 ⟨v2, rfl, hown2, hn2⟩; obtain ⟨p2, c2, rfl, _⟩ := hown2.sl))
  go_ret
  exact new_ok (hown1.nw hn2) (hown2.mono hn1.size) (hn1.trans hn2) rfl
set_option maxRecDepth 20000 in
set_option maxHeartbeats 400000 in
theorem new_low (bv sv : Value) (b : List UInt8) (sc : List Int) (fault : Int) (w : World) (hb : Bytes w bv b) (hs : Sl w sv (i64s sc)) (hlb : b.length ≤ 1000000000) (hls : sc.length ≤ 1000000000) (hf : fault < 0) :
    Calls Try.prog 21 #[bv, sv, .int .i64 fault] w (NewOk w b sc b.length) := by
  obtain ⟨p, cap, rfl, hcap, hmx, _, hc⟩ := hb.open
  have hd : decide (0 ≤ fault) = false := decide_eq_false (by omega)
  go_enter Try.func21, Try.ntmps21
  go_wp2_with (first
    | (go_at_call 51; refine (clone8_c _ _ _ hb (u8s_one _) (by rw [u8s_length]; omega)).mono ?_; rintro e w1 ⟨v1, rfl, hown1, hn1⟩; obtain ⟨p1, c1, rfl, _⟩ := hown1.sl)
    | (go_at_call 52; refine (clone64_c _ _ _ (hs.nw hn1) (i64s_one _) (by rw [i64s_length]; omega)).mono ?_; rintro e w2 ⟨v2, rfl, hown2, hn2⟩; obtain ⟨p2, c2, rfl, _⟩ := hown2.sl))
  go_ret
  exact new_ok (hown1.nw hn2) (hown2.mono hn1.size) (hn1.trans hn2) rfl
set_option maxRecDepth 20000 in
set_option maxHeartbeats 400000 in
theorem new_high (bv sv : Value) (b : List UInt8) (sc : List Int) (fault : Nat) (w : World) (hb : Bytes w bv b) (hs : Sl w sv (i64s sc)) (hlb : b.length ≤ 1000000000) (hls : sc.length ≤ 1000000000) (hf : b.length ≤ fault) :
    Calls Try.prog 21 #[bv, sv, .int .i64 fault] w (NewOk w b sc b.length) := by
  obtain ⟨p, cap, rfl, hcap, hmx, _, hc⟩ := hb.open
  have hd : decide ((fault : Int) < b.length) = false := decide_eq_false (by omega)
  go_enter Try.func21, Try.ntmps21
  go_wp2_with (first
    | (go_at_call 51; refine (clone8_c _ _ _ hb (u8s_one _) (by rw [u8s_length]; omega)).mono ?_; rintro e w1 ⟨v1, rfl, hown1, hn1⟩; obtain ⟨p1, c1, rfl, _⟩ := hown1.sl)
    | (go_at_call 52; refine (clone64_c _ _ _ (hs.nw hn1) (i64s_one _) (by rw [i64s_length]; omega)).mono ?_; rintro e w2 ⟨v2, rfl, hown2, hn2⟩; obtain ⟨p2, c2, rfl, _⟩ := hown2.sl))
  go_ret
  exact new_ok (hown1.nw hn2) (hown2.mono hn1.size) (hn1.trans hn2) rfl
theorem new_c (bv sv : Value) (b : List UInt8) (sc : List Int) (fault : Int) (w : World) (hb : Bytes w bv b) (hs : Sl w sv (i64s sc)) (hlb : b.length ≤ 1000000000) (hls : sc.length ≤ 1000000000) :
    Calls Try.prog 21 #[bv, sv, .int .i64 fault] w (NewOk w b sc (rt b.length fault)) := by
  by_cases h0 : fault < 0
  · rw [show rt b.length fault = b.length from by simp [rt]; omega]
    exact new_low bv sv b sc fault w hb hs hlb hls h0
  · obtain ⟨f, rfl⟩ := Int.eq_ofNat_of_zero_le (by omega : 0 ≤ fault)
    by_cases h1 : f < b.length
    · rw [show rt b.length (f : Int) = f from by simp [rt, h1]]
      exact new_in bv sv b sc f w hb hs hlb hls h1
    · rw [show rt b.length (f : Int) = b.length from by simp [rt]; omega]
      exact new_high bv sv b sc f w hb hs hlb hls (by omega)
/-! ### Len, Reads -/
theorem len_c (F : Nat → Prop) (a : Nat) (b : List UInt8) (sc : List Int) (r n : Nat) (w : World) (h : Is w F a b sc r n) :
    Calls Try.prog 58 #[.pointer (some ⟨a, 0, none⟩)] w fun e w' => e = .returned (.int .i64 b.length) ∧ w = w' := by
  obtain ⟨bv, sv, h1, h2, h3, _, _⟩ := h
  obtain ⟨p, cap, rfl, _⟩ := h2.open
  have c0 : w.cell? ⟨a, 0, none⟩ = _ := heap_cell h1 0
  simp at c0
  go_enter Try.func58, Try.ntmps58
  go_wp2
  go_ret
  exact ⟨rfl, rfl⟩
/-! ### Read -/
/-- What Read hands back; only block a is written. -/
def ReadOk (w : World) (F : Nat → Prop) (a : Nat) (b : List UInt8) (sc : List Int) (r : Nat) (x : List UInt8 × Int × Nat) (e : Ending) (w' : World) : Prop :=
  ∃ v, e = .returned (.tuple #[v, .int .i64 x.2.1]) ∧ Own w' w.heap.size 5 v (u8s x.1) ∧ Is w' F a b sc r x.2.2 ∧ Mods (· = a) w w'
theorem ReadOk.none {w : World} {F : Nat → Prop} {a : Nat} {b : List UInt8} {sc : List Int} {r n : Nat} {x : List UInt8 × Int × Nat} {z : Int} (h : Is w F a b sc r n) (hx : x = ([], z, n)) : ReadOk w F a b sc r x (.returned (.tuple #[.slice none 0 0, .int .i64 z])) w := by
  subst hx
  exact ⟨_, rfl, Own.nil _ _ _, h, Mods.refl _ _⟩
set_option maxRecDepth 20000 in
set_option maxHeartbeats 400000 in
theorem read_low (F : Nat → Prop) (a : Nat) (b : List UInt8) (sc : List Int) (r n : Nat) (at_ most : Int) (w : World) (h : Is w F a b sc r n) (hat : at_ < 0 ∨ most < 1) :
    Calls Try.prog 88 #[.pointer (some ⟨a, 0, none⟩), .int .i64 at_, .int .i64 most] w (ReadOk w F a b sc r (read b sc r n at_ most)) := by
  have HR := hid (show read b sc r n at_ most = ([], 1, n) by simp [read, hat])
  by_cases h0 : at_ < 0
  · have hd : decide (at_ < 0) = true := decide_eq_true h0
    clear hat
    go_enter Try.func88, Try.ntmps88
    go_wp2
    go_ret2
    exact ReadOk.none h HR.out
  · have hd : decide (at_ < 0) = false := decide_eq_false h0
    have hm : most < 1 := by omega
    have hd2 : decide (most < 1) = true := decide_eq_true hm
    clear hat
    go_enter Try.func88, Try.ntmps88
    go_wp2
    go_ret2
    exact ReadOk.none h HR.out
set_option maxRecDepth 20000 in
set_option maxHeartbeats 400000 in
theorem read_end (F : Nat → Prop) (a : Nat) (b : List UInt8) (sc : List Int) (r n : Nat) (at_ : Nat) (most : Int) (w : World) (h : Is w F a b sc r n) (hm : 1 ≤ most) (he : b.length ≤ at_) :
    Calls Try.prog 88 #[.pointer (some ⟨a, 0, none⟩), .int .i64 at_, .int .i64 most] w (ReadOk w F a b sc r (read b sc r n at_ most)) := by
  have HR := hid (show read b sc r n at_ most = ([], 13, n) by simp [read, he]; omega)
  have H := h
  obtain ⟨bv, sv, h1, h2, h3, _, _⟩ := h
  obtain ⟨p, cap, rfl, _⟩ := h2.open
  have c0 : w.cell? ⟨a, 0, none⟩ = _ := heap_cell h1 0
  simp at c0
  have hd : decide ((at_ : Int) < 0) = false := decide_eq_false (by omega)
  have hd2 : decide (most < 1) = false := decide_eq_false (by omega)
  clear h1 h2 h3
  go_enter Try.func88, Try.ntmps88
  go_wp2
  go_ret2
  exact ReadOk.none H HR.out
set_option maxRecDepth 20000 in
set_option maxHeartbeats 400000 in
theorem read_fault (F : Nat → Prop) (a : Nat) (b : List UInt8) (sc : List Int) (r n : Nat) (at_ : Nat) (most : Int) (w : World) (h : Is w F a b sc r n) (hm : 1 ≤ most) (he : at_ < b.length) (hf : r ≤ at_) :
    Calls Try.prog 88 #[.pointer (some ⟨a, 0, none⟩), .int .i64 at_, .int .i64 most] w (ReadOk w F a b sc r (read b sc r n at_ most)) := by
  have HR := hid (show read b sc r n at_ most = ([], 10, n) by unfold read; rw [if_neg (by omega), if_neg (by omega), if_pos (by omega)])
  have H := h
  obtain ⟨bv, sv, h1, h2, h3, _, _⟩ := h
  obtain ⟨p, cap, rfl, _⟩ := h2.open
  have c0 : w.cell? ⟨a, 0, none⟩ = _ := heap_cell h1 0
  have c2 : w.cell? ⟨a, 2, none⟩ = _ := heap_cell h1 2
  simp at c0 c2
  have hd : decide ((at_ : Int) < 0) = false := decide_eq_false (by omega)
  have hd2 : decide (most < 1) = false := decide_eq_false (by omega)
  clear h1 h2 h3
  go_enter Try.func88, Try.ntmps88
  go_wp2
  go_ret2
  exact ReadOk.none H HR.out
theorem sub_bytes {w : World} {pb off n at_ K len cap : Nat} {b : List UInt8} (hc : Cells w (some ⟨pb, off, none⟩) (u8s b)) (hl : b.length = len) (hn : n = K) (hK : K + at_ ≤ len) (hcap : len ≤ cap) (hmx : cap ≤ maxLen) :
    Bytes w (.slice (some ⟨pb, off + at_, none⟩) n (cap - at_)) ((b.drop at_).take K) := by
  subst hn hl
  exact Bytes.mk (by rw [u8s_take, u8s_drop]; exact (hc.drop at_).take n) (by simp; omega) (by simp; omega) (by omega) (fun h => by cases h)
theorem mods_set {w w1 : World} {a : Nat} (h : Mods (· = a) w w1) (i : Nat) (u : Value) : Mods (· = a) w (w1.setCell ⟨a, i, none⟩ u) := Mods.setCell h (p := ⟨a, i, none⟩) rfl u
/-- The end of a Read that told bytes. -/
theorem read_done {w w1 w2 : World} {F : Nat → Prop} {a : Nat} {b : List UInt8} {sc : List Int} {r n : Nat} {bv sv v : Value} {x : List UInt8} (hFa : ¬ F a)
    (h1 : w1.heap[a]? = some (.cells #[bv, sv, .int .i64 r, .int .i64 ((n : Int) + 1)] 91 (0, 0))) (hm : Mods (· = a) w w1) (hb : Bytes w1 bv b) (hs : Sl w1 sv (i64s (sc.drop (n + 1))))
    (f1 : u8s b ≠ [] → ∀ k, bv.ownBlock = some k → F k) (f2 : i64s (sc.drop (n + 1)) ≠ [] → ∀ k, sv.ownBlock = some k → F k) (ho : Own w2 w1.heap.size 5 v (u8s x)) (hn : Nw w1 w2) {y : List UInt8 × Int × Nat} (hy : y = (x, 0, n + 1)) :
    ReadOk w F a b sc r y (.returned (.tuple #[v, .int .i64 0])) w2 := by
  subst hy
  exact ⟨v, rfl, ho.mono hm.size, ⟨bv, sv, hn.heap h1, hb.nw hn, hs.nw hn, f1, f2⟩, hm.nw hn⟩
set_option maxRecDepth 20000 in
set_option maxHeartbeats 1000000 in
theorem read_plain (F : Nat → Prop) (a : Nat) (b : List UInt8) (sc : List Int) (r n : Nat) (at_ : Nat) (most : Int) (w : World) (h : Is w F a b sc r n) (hFa : ¬ F a) (hm : 1 ≤ most) (hmx : most ≤ 9223372036854775807) (he : at_ < b.length) (hf : at_ < r) (hr : r ≤ b.length) (hn : n ≤ 1000000000000000) (hlb : b.length ≤ 1000000000)
    (hsc : sc.drop n = []) :
    Calls Try.prog 88 #[.pointer (some ⟨a, 0, none⟩), .int .i64 at_, .int .i64 most] w (ReadOk w F a b sc r (read b sc r n at_ most)) := by
  obtain ⟨bv, sv, h1, h2, h3, f1, f2⟩ := h
  obtain ⟨p, cap, rfl, hcap, hmx2, hnil, hc⟩ := h2.open
  obtain ⟨pb, off, rfl⟩ := hc.place (by rw [u8s_length]; omega)
  rw [hsc] at h3
  obtain ⟨p2, cap2, rfl, _⟩ := h3.open (n := 0) rfl
  have hlen : sc.length ≤ n := by simpa using hsc
  have c0 : w.cell? ⟨a, 0, none⟩ = _ := heap_cell h1 0
  have c1 : w.cell? ⟨a, 1, none⟩ = _ := heap_cell h1 1
  have c2 : w.cell? ⟨a, 2, none⟩ = _ := heap_cell h1 2
  have c3 : w.cell? ⟨a, 3, none⟩ = _ := heap_cell h1 3
  have fz : w.frozen? ⟨a, 3, none⟩ = false := heap_frozen h1 3
  simp at c0 c1 c2 c3
  have hd : decide ((at_ : Int) < 0) = false := decide_eq_false (by omega)
  have hd2 : decide (most < 1) = false := decide_eq_false (by omega)
  have HK := hid (show many sc r n at_ most = (min most (r - at_ : Int)).toNat by simp [many, hlen])
  have HR := hid (show read b sc r n at_ most = ((b.drop at_).take (many sc r n at_ most), 0, n + 1) by unfold read; rw [if_neg (by omega), if_neg (by omega), if_neg (by omega)]; rfl)
  have hm1 : Mods (· = a) w (w.setCell ⟨a, 3, none⟩ (.int .i64 ((n : Int) + 1))) := mods_set (Mods.refl _ w) _ _
  have hh := heap_set h1 3 (.int .i64 ((n : Int) + 1))
  simp at hh
  have hb1 : Bytes (w.setCell ⟨a, 3, none⟩ (.int .i64 ((n : Int) + 1))) (.slice (some ⟨pb, off, none⟩) b.length cap) b := Sl.mods h2 hm1 (fun hne k hk e => hFa (e ▸ f1 hne k hk))
  have hs1 : Sl (w.setCell ⟨a, 3, none⟩ (.int .i64 ((n : Int) + 1))) (.slice p2 0 cap2) (i64s (sc.drop (n + 1))) := by
    rw [List.drop_of_length_le (by omega)]; exact Sl.mods h3 hm1 (fun hne => absurd rfl hne)
  obtain ⟨_, _, e0, _, _, _, hcc⟩ := hb1.open
  cases e0
  have hne : ¬ cap = at_ := by omega
  clear hsc h1 h2 h3 hc
  have HM := hid hmx2
  unfold maxLen at hmx2
  go_enter Try.func88, Try.ntmps88
  go_wp2_with (go_at_call 51; refine (clone8_c _ (u8s ((b.drop at_).take (many sc r n at_ most))) _ (sub_bytes hcc rfl ?_ ?_ hcap HM.out) (u8s_one _) ?_).mono ?_; (have := HK.out; omega); (have := HK.out; omega); (rw [u8s_length]; simp; omega); rintro e w2 ⟨v2, rfl, hown2, hn2⟩)
  all_goals
    go_ret2
    exact read_done hFa hh hm1 hb1 hs1 f1 (fun hne => absurd (by rw [List.drop_of_length_le (by omega)]; rfl) hne) hown2 hn2 HR.out
set_option maxRecDepth 20000 in
set_option maxHeartbeats 2000000 in
theorem read_script (F : Nat → Prop) (a : Nat) (b : List UInt8) (sc : List Int) (r n : Nat) (at_ : Nat) (most : Int) (w : World) (h : Is w F a b sc r n) (hFa : ¬ F a) (hm : 1 ≤ most) (hmx : most ≤ 9223372036854775807) (he : at_ < b.length) (hf : at_ < r) (hr : r ≤ b.length) (hn : n ≤ 1000000000000000) (hlb : b.length ≤ 1000000000)
    (x : Int) (rest : List Int) (hsc : sc.drop n = x :: rest) (hx : -9223372036854775808 ≤ x ∧ x ≤ 9223372036854775807) :
    Calls Try.prog 88 #[.pointer (some ⟨a, 0, none⟩), .int .i64 at_, .int .i64 most] w (ReadOk w F a b sc r (read b sc r n at_ most)) := by
  obtain ⟨bv, sv, h1, h2, h3, f1, f2⟩ := h
  obtain ⟨p, cap, rfl, hcap, hmx2, hnil, hc⟩ := h2.open
  obtain ⟨pb, off, rfl⟩ := hc.place (by rw [u8s_length]; omega)
  rw [hsc] at h3
  obtain ⟨p2, cap2, rfl, hcap2, hmx3, _, hcs⟩ := h3.open (n := rest.length + 1) (by simp [i64s])
  obtain ⟨sb, so, rfl⟩ := hcs.place (by simp [i64s])
  have hxn : sc[n]? = some x := by have := congrArg (·[0]?) hsc; simpa using this
  have hdrop : sc.drop (n + 1) = rest := by rw [← List.drop_drop, hsc]; rfl
  have cx : w.cell? ⟨sb, so, none⟩ = some (.int .i64 x) := by
    obtain ⟨b1, o1, e1, q⟩ := hcs 0 (by simp [i64s])
    cases e1
    simpa [i64s] using q
  have c0 : w.cell? ⟨a, 0, none⟩ = _ := heap_cell h1 0
  have c1 : w.cell? ⟨a, 1, none⟩ = _ := heap_cell h1 1
  have c2 : w.cell? ⟨a, 2, none⟩ = _ := heap_cell h1 2
  have c3 : w.cell? ⟨a, 3, none⟩ = _ := heap_cell h1 3
  have fz : w.frozen? ⟨a, 3, none⟩ = false := heap_frozen h1 3
  have fz1 : w.frozen? ⟨a, 1, none⟩ = false := heap_frozen h1 1
  simp at c0 c1 c2 c3
  have hd : decide ((at_ : Int) < 0) = false := decide_eq_false (by omega)
  have hd2 : decide (most < 1) = false := decide_eq_false (by omega)
  have HK := hid (show many sc r n at_ most = (min (min most (r - at_ : Int)) (max x 1)).toNat by simp [many, hxn])
  have HR := hid (show read b sc r n at_ most = ((b.drop at_).take (many sc r n at_ most), 0, n + 1) by unfold read; rw [if_neg (by omega), if_neg (by omega), if_neg (by omega)]; rfl)
  have hne : ¬ cap = at_ := by omega
  have HM := hid hmx2
  have HM3 := hid hmx3
  unfold maxLen at hmx2 hmx3
  have hb0 : u8s b ≠ [] := fun h => by have := congrArg List.length h; rw [u8s_length, List.length_nil] at this; omega
  have hs0 : i64s (sc.drop n) ≠ [] := by rw [hsc]; simp [i64s]
  have hfb : pb ≠ a := fun e => hFa (e ▸ f1 hb0 pb rfl)
  have hfs : sb ≠ a := fun e => hFa (e ▸ f2 hs0 sb rfl)
  have key : ∀ sv2 : Value, (sv2 = .slice (some ⟨sb, so, none⟩) 0 0 ∧ rest = [] ∨ sv2 = .slice (some ⟨sb, so + 1, none⟩) rest.length (cap2 - 1)) →
      (let w3 := (w.setCell ⟨a, 1, none⟩ sv2).setCell ⟨a, 3, none⟩ (.int .i64 ((n : Int) + 1))
       w3.heap[a]? = some (.cells #[.slice (some ⟨pb, off, none⟩) b.length cap, sv2, .int .i64 r, .int .i64 ((n : Int) + 1)] 91 (0, 0)) ∧ Mods (· = a) w w3 ∧
       Bytes w3 (.slice (some ⟨pb, off, none⟩) b.length cap) b ∧ Sl w3 sv2 (i64s (sc.drop (n + 1))) ∧ (∀ k, sv2.ownBlock = some k → F k)) := fun sv2 hsv => by
    have hm1 : Mods (· = a) w ((w.setCell ⟨a, 1, none⟩ sv2).setCell ⟨a, 3, none⟩ (.int .i64 ((n : Int) + 1))) := mods_set (mods_set (Mods.refl _ w) _ _) _ _
    refine ⟨?_, hm1, Sl.mods h2 hm1 (fun hne k hk e => hFa (e ▸ f1 hne k hk)), ?_, ?_⟩
    · have := heap_set (heap_set h1 1 sv2) 3 (.int .i64 ((n : Int) + 1))
      simpa using this
    · rw [hdrop]
      rcases hsv with ⟨rfl, rfl⟩ | rfl
      · exact ⟨_, 0, rfl, by simp [i64s], Nat.zero_le _, (fun h => by cases h), Cells.nil _ _⟩
      · refine Sl.mods (S := (· = a)) (w := w) ⟨some ⟨sb, so + 1, none⟩, cap2 - 1, by simp [i64s], by simp [i64s]; omega, (by have := HM3.out; omega), (fun h => by cases h), ?_⟩ hm1 (fun _ k hk e => hfs (by cases hk; exact e))
        have := hcs.drop 1
        simpa [i64s] using this
    · rcases hsv with ⟨rfl, _⟩ | rfl
      · exact f2 hs0
      · exact f2 hs0
  have HKey := hid key
  clear key hsc h1 h2 h3 hc hcs hxn hdrop
  by_cases hcap1 : cap2 = 1
  · obtain rfl : rest = [] := by cases rest with | nil => rfl | cons y t => simp at hcap2; omega
    subst hcap1
    obtain ⟨hh, hm1, hb1, hs1, hF1⟩ := HKey.out _ (Or.inl ⟨rfl, rfl⟩)
    obtain ⟨_, _, e0, _, _, _, hcc⟩ := hb1.open
    cases e0
    clear hcap2
    go_enter Try.func88, Try.ntmps88
    go_wp2_with (go_at_call 51; refine (clone8_c _ (u8s ((b.drop at_).take (many sc r n at_ most))) _ (sub_bytes hcc rfl ?_ ?_ hcap HM.out) (u8s_one _) ?_).mono ?_; (have := HK.out; omega); (have := HK.out; omega); (rw [u8s_length]; simp; omega); rintro e w2 ⟨v2, rfl, hown2, hn2⟩)
    all_goals
      go_ret2
      exact read_done hFa hh hm1 hb1 hs1 f1 (fun _ => hF1) hown2 hn2 HR.out
  · obtain ⟨hh, hm1, hb1, hs1, hF1⟩ := HKey.out _ (Or.inr rfl)
    obtain ⟨_, _, e0, _, _, _, hcc⟩ := hb1.open
    cases e0
    go_enter Try.func88, Try.ntmps88
    go_wp2_with (go_at_call 51; refine (clone8_c _ (u8s ((b.drop at_).take (many sc r n at_ most))) _ (sub_bytes hcc rfl ?_ ?_ hcap HM.out) (u8s_one _) ?_).mono ?_; (have := HK.out; omega); (have := HK.out; omega); (rw [u8s_length]; simp; omega); rintro e w2 ⟨v2, rfl, hown2, hn2⟩)
    all_goals
      go_ret2
      exact read_done hFa hh hm1 hb1 hs1 f1 (fun _ => hF1) hown2 hn2 HR.out
theorem rt_le (len : Nat) (fault : Int) : rt len fault ≤ len := by unfold rt; split <;> omega
/-- READ. -/
theorem read_c (F : Nat → Prop) (a : Nat) (b : List UInt8) (sc : List Int) (r n : Nat) (at_ most : Int) (w : World) (h : Is w F a b sc r n) (hFa : ¬ F a) (hmx : most ≤ 9223372036854775807) (hr : r ≤ b.length) (hn : n ≤ 1000000000000000) (hlb : b.length ≤ 1000000000)
    (hx : ∀ x ∈ sc, -9223372036854775808 ≤ x ∧ x ≤ 9223372036854775807) :
    Calls Try.prog 88 #[.pointer (some ⟨a, 0, none⟩), .int .i64 at_, .int .i64 most] w (ReadOk w F a b sc r (read b sc r n at_ most)) := by
  by_cases h0 : at_ < 0 ∨ most < 1
  · exact read_low F a b sc r n at_ most w h h0
  · obtain ⟨at1, rfl⟩ := Int.eq_ofNat_of_zero_le (by omega : 0 ≤ at_)
    by_cases h1 : b.length ≤ at1
    · exact read_end F a b sc r n at1 most w h (by omega) h1
    · by_cases h2 : r ≤ at1
      · exact read_fault F a b sc r n at1 most w h (by omega) (by omega) h2
      · cases hsc : sc.drop n with
        | nil => exact read_plain F a b sc r n at1 most w h hFa (by omega) hmx (by omega) (by omega) hr hn hlb hsc
        | cons x rest => exact read_script F a b sc r n at1 most w h hFa (by omega) hmx (by omega) (by omega) hr hn hlb x rest hsc (hx x (List.mem_of_mem_drop (by rw [hsc]; simp)))
end Src
end Go.Proofs.Ytdihoedehmfgfaa
namespace Go.Proofs.Ytdihoedehmfgfaa
open Go.ChangeShapes Go.WideShapes Go.ChangeAt Go.RowKit
open Go.ChangeMaps (open_string shut_string)
namespace Src
theorem read_nil (at_ most : Int) (w : World) : Calls Try.prog 88 #[.pointer none, .int .i64 at_, .int .i64 most] w fun e w' => e = .returned (.tuple #[.slice none 0 0, .int .i64 1]) ∧ w = w' := by
  go_enter Try.func88, Try.ntmps88
  go_wp2
  go_ret2
  exact ⟨rfl, rfl⟩
theorem len_nil (w : World) : Calls Try.prog 58 #[.pointer none] w fun e w' => e = .returned (.int .i64 0) ∧ w = w' := by
  go_enter Try.func58, Try.ntmps58
  go_wp2
  go_ret
  exact ⟨rfl, rfl⟩
end Src
end Go.Proofs.Ytdihoedehmfgfaa
namespace Go.Proofs.Ytdihoedehmfgfaa
open Go.ChangeShapes Go.WideShapes Go.ChangeAt Go.RowKit
open Go.ChangeMaps (open_string shut_string)
theorem app1b {P : Program} {w : World} {ops : Array Oper} {rest : List Oper} {o : Oper} {a : Act} {Q : Exit → Act → World → Prop} (hgd : o.guard = none) (s x : Operand) (t : TypeId) (ho : o.op = .call { callee := .builtin .append, args := #[s, x], argTypes := #[t, t] })
    (e : TypeId) (z : Value) (bytes : Nat) (ht : P.underlying t = some (.slice e)) (hinfo : (P.info? e).map (fun i => (i.zero, i.size, i.bytes)) = some (some z, 1, bytes)) (hz : z.cells.size = 1) (hby : bytes ≤ 128)
    {B : Nat} (hB : B ≤ w.heap.size) {v : Value} {xs : List Value} (hown : Own w B e v xs) (hs : a.eval s = v) {u : Value} {news : List Value} (hu : Sl w u news) (hx : a.eval x = u) (h1 : ∀ u ∈ news, u.oneCell' = true)
    (h : ∀ v' w', Own w' B e v' (xs ++ news) → Mods (B ≤ ·) w w' → wpList P ops Q rest (a.put o.dst v') w')
    (h63 : xs.length + news.length ≤ 1099511627776) : wpList P ops Q (o :: rest) a w := by
  obtain ⟨i, hi, hz0, hz1, hz2⟩ := info_parts hinfo
  obtain ⟨p, cap, rfl, hcap, hmx, hnone, hc⟩ := hu
  cases p with
  | none =>
    obtain rfl := hnone rfl
    obtain rfl : news = [] := by cases news with | nil => rfl | cons y r => simp at hcap
    refine wpList_append_own_none hgd s x t ho B e i 1 ht hi v xs.length xs hs hown hx ?_
    exact h v w (by simpa using hown) (Mods.refl _ _)
  | some ad =>
    refine wpList_append_own (w := w) hgd s x t ho B e i z 1 bytes ht hi hz0 hz1 hz2 hz (by decide) v xs.length xs hs hown ad news.length cap news hx (by simp) (fun j y hj => ?_) h1 (by unfold maxLen; omega) ?_ hB (fun v' w' h2 h3 _ => ?_)
    · obtain ⟨hjl, rfl⟩ := List.getElem?_eq_some_iff.1 hj
      obtain ⟨b, off, e1, hcell⟩ := hc j hjl
      cases e1
      rw [addr_add]; exact hcell
    · have := Nat.mul_le_mul h63 hby; omega
    · exact h v' w' (by simpa [Own] using h2) ⟨h3.os, h3.tape, h3.output, h3.size, fun k hk hs => h3.block k hk (fun e => hs (Own.lt hown k e.symm))⟩
namespace Src
theorem many_bd (sc : List Int) (r n at_ : Nat) (most : Int) (h1 : at_ < r) (h2 : 1 ≤ most) : 1 ≤ many sc r n at_ most ∧ (many sc r n at_ most : Int) ≤ most ∧ many sc r n at_ most + at_ ≤ r := by
  unfold many
  cases sc[n]? with
  | none => dsimp only; omega
  | some x => dsimp only; omega
theorem read_in (b : List UInt8) (sc : List Int) (r n at_ : Nat) (most : Int) (hr : r ≤ b.length) (h1 : at_ < r) (h2 : 1 ≤ most) :
    ∃ K, read b sc r n at_ most = ((b.drop at_).take K, 0, n + 1) ∧ 1 ≤ K ∧ (K : Int) ≤ most ∧ K + at_ ≤ r := by
  obtain ⟨k1, k2, k3⟩ := many_bd sc r n at_ most h1 h2
  exact ⟨many sc r n at_ most, by unfold read; rw [if_neg (by omega), if_neg (by omega), if_neg (by omega)]; rfl, k1, k2, k3⟩
theorem read_at_end (b : List UInt8) (sc : List Int) (fault : Int) (n : Nat) :
    read b sc (rt b.length fault) n (rt b.length fault) 1 = ([], if 0 ≤ fault ∧ fault < b.length then 10 else 13, n) := by
  unfold read
  rw [if_neg (by omega)]
  by_cases h : 0 ≤ fault ∧ fault < b.length
  · have : rt b.length fault < b.length := by unfold rt; rw [if_pos h]; omega
    rw [if_neg (by omega), if_pos (by omega), if_pos h]
  · have : rt b.length fault = b.length := by unfold rt; rw [if_neg h]
    rw [this, if_pos (by omega), if_neg h]
theorem take_more (b : List UInt8) (m K : Nat) : b.take m ++ (b.drop m).take K = b.take (m + K) := by rw [List.take_add]
/-- What holds at a round's head. -/
structure AllAt (w w1 wr : World) (a : Nat) (b : List UInt8) (sc : List Int) (r k m : Nat) (v : Value) : Prop where
  src : Is wr (fun k => w.heap.size ≤ k ∧ k < a) a b sc r k
  nw : Nw w wr
  sz : w1.heap.size ≤ wr.heap.size
  own : Own wr w1.heap.size 5 v (u8s (b.take m))
  le : k ≤ m
  up : m ≤ r
end Src
end Go.Proofs.Ytdihoedehmfgfaa
