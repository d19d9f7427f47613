/- The contracts of the reference's Source.Read, for any bytes, script, fault and reads. -/
import Derived.Test.YtkaljbhedmlglaaSource
namespace Go.Proofs.Ytkaljbhedmlglaa
open Go.ChangeShapes Go.WideShapes Go.ChangeAt Go.RowKit
namespace Src
/-- What the reference's Read hands back: a piece of its bytes. -/
def RReadOk (w : World) (F : Nat → Prop) (a : Nat) (b : List UInt8) (sc : List Int) (r : Nat) (x : List UInt8 × Int × Nat) (e : Ending) (w' : World) : Prop :=
  ∃ v, e = .returned (.tuple #[v, .int .i64 x.2.1]) ∧ Bytes w' v x.1 ∧ RIs w' F a b sc r x.2.2 ∧ Mods (· = a) w w'
theorem RReadOk.none {w : World} {F : Nat → Prop} {a : Nat} {b : List UInt8} {sc : List Int} {r n : Nat} {x : List UInt8 × Int × Nat} {z : Int} (h : RIs w F a b sc r n) (hx : x = ([], z, n)) : RReadOk w F a b sc r x (.returned (.tuple #[.slice none 0 0, .int .i64 z])) w := by
  subst hx
  exact ⟨_, rfl, Bytes.nil _, h, Mods.refl _ _⟩
set_option maxRecDepth 20000 in
set_option maxHeartbeats 400000 in
theorem rread_low (F : Nat → Prop) (a : Nat) (b : List UInt8) (sc : List Int) (r n : Nat) (at_ most : Int) (w : World) (h : RIs w F a b sc r n) (hat : at_ < 0 ∨ most < 1) :
    Calls Try.prog 24 #[.pointer (some ⟨a, 0, none⟩), .int .i64 at_, .int .i64 most] w (RReadOk w F a b sc r (read b sc r n at_ most)) := by
  have HR := hid (show read b sc r n at_ most = ([], 1, n) by simp [read, hat])
  by_cases h0 : at_ < 0
  · have hd : decide (at_ < 0) = true := decide_eq_true h0
    clear hat
    go_enter Try.func24, Try.ntmps24
    go_wp2
    go_ret2
    exact RReadOk.none h HR.out
  · have hd : decide (at_ < 0) = false := decide_eq_false h0
    have hm : most < 1 := by omega
    have hd2 : decide (most < 1) = true := decide_eq_true hm
    clear hat
    go_enter Try.func24, Try.ntmps24
    go_wp2
    go_ret2
    exact RReadOk.none h HR.out
set_option maxRecDepth 20000 in
set_option maxHeartbeats 400000 in
theorem rread_end (F : Nat → Prop) (a : Nat) (b : List UInt8) (sc : List Int) (r n : Nat) (at_ : Nat) (most : Int) (w : World) (h : RIs w F a b sc r n) (hm : 1 ≤ most) (he : b.length ≤ at_) :
    Calls Try.prog 24 #[.pointer (some ⟨a, 0, none⟩), .int .i64 at_, .int .i64 most] w (RReadOk w F a b sc r (read b sc r n at_ most)) := by
  have HR := hid (show read b sc r n at_ most = ([], 13, n) by simp [read, he]; omega)
  have H := h
  obtain ⟨bv, sv, h1, h2, h3, _, _⟩ := h
  obtain ⟨p, cap, rfl, _⟩ := h2.open
  have c0 : w.cell? ⟨a, 0, none⟩ = _ := heap_cell h1 0
  simp at c0
  have hd : decide ((at_ : Int) < 0) = false := decide_eq_false (by omega)
  have hd2 : decide (most < 1) = false := decide_eq_false (by omega)
  clear h1 h2 h3
  go_enter Try.func24, Try.ntmps24
  go_wp2
  go_ret2
  exact RReadOk.none H HR.out
set_option maxRecDepth 20000 in
set_option maxHeartbeats 400000 in
theorem rread_fault (F : Nat → Prop) (a : Nat) (b : List UInt8) (sc : List Int) (r n : Nat) (at_ : Nat) (most : Int) (w : World) (h : RIs w F a b sc r n) (hm : 1 ≤ most) (he : at_ < b.length) (hf : r ≤ at_) :
    Calls Try.prog 24 #[.pointer (some ⟨a, 0, none⟩), .int .i64 at_, .int .i64 most] w (RReadOk w F a b sc r (read b sc r n at_ most)) := by
  have HR := hid (show read b sc r n at_ most = ([], 10, n) by unfold read; rw [if_neg (by omega), if_neg (by omega), if_pos (by omega)])
  have H := h
  obtain ⟨bv, sv, h1, h2, h3, _, _⟩ := h
  obtain ⟨p, cap, rfl, _⟩ := h2.open
  have c0 : w.cell? ⟨a, 0, none⟩ = _ := heap_cell h1 0
  have c2 : w.cell? ⟨a, 2, none⟩ = _ := heap_cell h1 2
  simp at c0 c2
  have hd : decide ((at_ : Int) < 0) = false := decide_eq_false (by omega)
  have hd2 : decide (most < 1) = false := decide_eq_false (by omega)
  clear h1 h2 h3
  go_enter Try.func24, Try.ntmps24
  go_wp2
  go_ret2
  exact RReadOk.none H HR.out
/-- The end of a Read that told bytes. -/
theorem rread_done {w W : World} {F : Nat → Prop} {a : Nat} {b : List UInt8} {sc : List Int} {r n at_ N K pb off cap : Nat} {sv : Value} (hW : Nw w W) (hFa : ¬ F a)
    (h1 : w.heap[a]? = some (.cells #[.slice (some ⟨pb, off, none⟩) b.length cap, sv, .int .i64 r, .int .i64 n] 48 (0, 0))) (h2 : Bytes w (.slice (some ⟨pb, off, none⟩) b.length cap) b) (h3 : Sl w sv (i64s sc))
    (f1 : u8s b ≠ [] → ∀ k, (Value.slice (some ⟨pb, off, none⟩) b.length cap).ownBlock = some k → F k) (f2 : i64s sc ≠ [] → ∀ k, sv.ownBlock = some k → F k) {y : List UInt8 × Int × Nat} (hy : y = ((b.drop at_).take K, 0, n + 1)) (hN : N = K) (hK : K + at_ ≤ b.length) :
    RReadOk w F a b sc r y (.returned (.tuple #[.slice (some ⟨pb, off + at_, none⟩) N (cap - at_), .int .i64 0])) (W.setCell ⟨a, 3, none⟩ (.int .i64 ((n : Int) + 1))) := by
  subst hy
  have hm : Mods (· = a) w (W.setCell ⟨a, 3, none⟩ (.int .i64 ((n : Int) + 1))) := mods_set (hW.mods _) _ _
  have hb : Bytes (W.setCell ⟨a, 3, none⟩ (.int .i64 ((n : Int) + 1))) (.slice (some ⟨pb, off, none⟩) b.length cap) b := Sl.mods h2 hm (fun hne k hk e => hFa (e ▸ f1 hne k hk))
  have hh := heap_set (hW.heap h1) 3 (.int .i64 ((n : Int) + 1))
  simp at hh
  obtain ⟨_, _, e0, hcap, hmx, _, hc⟩ := hb.open
  cases e0
  exact ⟨_, rfl, sub_bytes hc rfl hN hK hcap hmx, ⟨_, sv, hh, hb, Sl.mods h3 hm (fun hne k hk e => hFa (e ▸ f2 hne k hk)), f1, f2⟩, hm⟩
set_option maxRecDepth 20000 in
set_option maxHeartbeats 1000000 in
theorem rread_plain (F : Nat → Prop) (a : Nat) (b : List UInt8) (sc : List Int) (r n : Nat) (at_ : Nat) (most : Int) (w : World) (h : RIs w F a b sc r n) (hFa : ¬ F a) (hm : 1 ≤ most) (hmx : most ≤ 9223372036854775807) (he : at_ < b.length) (hf : at_ < r) (hr : r ≤ b.length) (hn : n ≤ 1000000000) (hlb : b.length ≤ 1000000000)
    (hlen : sc.length ≤ n) (hls : sc.length ≤ 1000000000) :
    Calls Try.prog 24 #[.pointer (some ⟨a, 0, none⟩), .int .i64 at_, .int .i64 most] w (RReadOk w F a b sc r (read b sc r n at_ most)) := by
  obtain ⟨bv, sv, h1, h2, h3, f1, f2⟩ := h
  obtain ⟨p, cap, rfl, hcap, hmx2, hnil, hc⟩ := h2.open
  obtain ⟨pb, off, rfl⟩ := hc.place (by rw [u8s_length]; omega)
  obtain ⟨p2, cap2, rfl, _⟩ := h3.open (n := sc.length) (by simp [i64s])
  have c0 : w.cell? ⟨a, 0, none⟩ = _ := heap_cell h1 0
  have c1 : w.cell? ⟨a, 1, none⟩ = _ := heap_cell h1 1
  have c2 : w.cell? ⟨a, 2, none⟩ = _ := heap_cell h1 2
  have c3 : w.cell? ⟨a, 3, none⟩ = _ := heap_cell h1 3
  have fz : w.frozen? ⟨a, 3, none⟩ = false := heap_frozen h1 3
  simp at c0 c1 c2 c3
  have hd : decide ((at_ : Int) < 0) = false := decide_eq_false (by omega)
  have hd2 : decide (most < 1) = false := decide_eq_false (by omega)
  have hd3 : decide ((n : Int) < sc.length) = false := decide_eq_false (by omega)
  have HK := hid (show many sc r n at_ most = (min most (r - at_ : Int)).toNat by simp [many, hlen])
  have HR := hid (show read b sc r n at_ most = ((b.drop at_).take (many sc r n at_ most), 0, n + 1) by unfold read; rw [if_neg (by omega), if_neg (by omega), if_neg (by omega)]; rfl)
  have hne : ¬ cap = at_ := by omega
  have HM := hid hmx2
  unfold maxLen at hmx2
  go_enter Try.func24, Try.ntmps24
  go_upto_region 8 with fail
  all_goals
    go_quiet (fail)
    go_wp2
  all_goals
    go_ret2
    exact rread_done (K := many sc r n at_ most) (Nw.drewN _ _) hFa h1 h2 h3 f1 f2 HR.out (by have := HK.out; omega) (by have := HK.out; omega)
set_option maxRecDepth 20000 in
set_option maxHeartbeats 2000000 in
theorem rread_script (F : Nat → Prop) (a : Nat) (b : List UInt8) (sc : List Int) (r n : Nat) (at_ : Nat) (most : Int) (w : World) (h : RIs w F a b sc r n) (hFa : ¬ F a) (hm : 1 ≤ most) (hmx : most ≤ 9223372036854775807) (he : at_ < b.length) (hf : at_ < r) (hr : r ≤ b.length) (hn : n ≤ 1000000000) (hlb : b.length ≤ 1000000000)
    (x : Int) (hsc : sc[n]? = some x) (hx : -9223372036854775808 ≤ x ∧ x ≤ 9223372036854775807) (hls : sc.length ≤ 1000000000) :
    Calls Try.prog 24 #[.pointer (some ⟨a, 0, none⟩), .int .i64 at_, .int .i64 most] w (RReadOk w F a b sc r (read b sc r n at_ most)) := by
  obtain ⟨bv, sv, h1, h2, h3, f1, f2⟩ := h
  obtain ⟨p, cap, rfl, hcap, hmx2, hnil, hc⟩ := h2.open
  obtain ⟨pb, off, rfl⟩ := hc.place (by rw [u8s_length]; omega)
  have hlt : n < sc.length := (List.getElem?_eq_some_iff.1 hsc).1
  obtain ⟨p2, cap2, rfl, _, _, _, hcs⟩ := h3.open (n := sc.length) (by simp [i64s])
  obtain ⟨sb, so, rfl, cx⟩ := hcs n (by simp [i64s]; omega)
  have hxe : (i64s sc)[n]'(by simp [i64s]; omega) = .int .i64 x := by have := (List.getElem?_eq_some_iff.1 hsc).2; simp [i64s, this]
  rw [hxe] at cx
  have c0 : w.cell? ⟨a, 0, none⟩ = _ := heap_cell h1 0
  have c1 : w.cell? ⟨a, 1, none⟩ = _ := heap_cell h1 1
  have c2 : w.cell? ⟨a, 2, none⟩ = _ := heap_cell h1 2
  have c3 : w.cell? ⟨a, 3, none⟩ = _ := heap_cell h1 3
  have fz : w.frozen? ⟨a, 3, none⟩ = false := heap_frozen h1 3
  simp at c0 c1 c2 c3
  have hd : decide ((at_ : Int) < 0) = false := decide_eq_false (by omega)
  have hd2 : decide (most < 1) = false := decide_eq_false (by omega)
  have hd3 : decide ((n : Int) < sc.length) = true := decide_eq_true (by omega)
  have hi1 : (n : Int) < (sc.length : Int) := by omega
  have HK := hid (show many sc r n at_ most = (min (min most (r - at_ : Int)) (max x 1)).toNat by simp [many, hsc])
  have HR := hid (show read b sc r n at_ most = ((b.drop at_).take (many sc r n at_ most), 0, n + 1) by unfold read; rw [if_neg (by omega), if_neg (by omega), if_neg (by omega)]; rfl)
  have hne : ¬ cap = at_ := by omega
  have HM := hid hmx2
  have HX := hid hsc
  clear hsc hxe hcs
  unfold maxLen at hmx2
  go_enter Try.func24, Try.ntmps24
  go_upto_region 8 with fail
  all_goals
    go_quiet (fail)
    go_upto_region 9 with fail
    go_quiet (fail)
    go_wp2
  all_goals
    go_ret2
    exact rread_done (K := many sc r n at_ most) (by first | exact Nw.drewN _ _ | exact (Nw.drewN _ _).trans (Nw.drewN _ _)) hFa h1 h2 h3 f1 f2 HR.out (by have := HK.out; omega) (by have := HK.out; omega)
/-- READ. -/
theorem rread_c (F : Nat → Prop) (a : Nat) (b : List UInt8) (sc : List Int) (r n : Nat) (at_ most : Int) (w : World) (h : RIs w F a b sc r n) (hFa : ¬ F a) (hmx : most ≤ 9223372036854775807) (hr : r ≤ b.length) (hn : n ≤ 1000000000) (hlb : b.length ≤ 1000000000)
    (hx : ∀ x ∈ sc, -9223372036854775808 ≤ x ∧ x ≤ 9223372036854775807) (hls : sc.length ≤ 1000000000) :
    Calls Try.prog 24 #[.pointer (some ⟨a, 0, none⟩), .int .i64 at_, .int .i64 most] w (RReadOk w F a b sc r (read b sc r n at_ most)) := by
  by_cases h0 : at_ < 0 ∨ most < 1
  · exact rread_low F a b sc r n at_ most w h h0
  · obtain ⟨at1, rfl⟩ := Int.eq_ofNat_of_zero_le (by omega : 0 ≤ at_)
    by_cases h1 : b.length ≤ at1
    · exact rread_end F a b sc r n at1 most w h (by omega) h1
    · by_cases h2 : r ≤ at1
      · exact rread_fault F a b sc r n at1 most w h (by omega) (by omega) h2
      · cases hsc : sc[n]? with
        | none => exact rread_plain F a b sc r n at1 most w h hFa (by omega) hmx (by omega) (by omega) hr hn hlb (by simpa using hsc) hls
        | some x => exact rread_script F a b sc r n at1 most w h hFa (by omega) hmx (by omega) (by omega) hr hn hlb x hsc (hx x (List.mem_of_getElem? hsc)) hls
end Src
end Go.Proofs.Ytkaljbhedmlglaa
