/- LexNumbers walked. No condition but that the library's table of powers of ten lies as it is laid. -/
import Derived.Test.YtfbokhodcgpppaaDoorLexU
import Derived.Test.YtfbokhodcgpppaaDoorLexL
import Derived.Test.YtfbokhodcgpppaaDoorShelf
import Derived.Lib.ItoaLen
namespace Go.Proofs.YtfbokhodcgpppaaDoor
open Go.ChangeShapes Go.WideShapes Go.ChangeAt Go.RowKit
namespace Lx
/-- The library's table of powers of ten lies as it is laid, here and in every world that grows from here. -/
def Tab (w : World) : Prop := ∀ w', Nw w w' → Lib.TabIs Tryd.prog w' "internal/strconv.uint64pow10" .u64 Lib.pow10Tab
theorem nw_grow (w : World) (k : Nat) (os : Array Obj) : Nw w (Go.Sort.grow (w.drewN k) os) :=
  ⟨rfl, rfl, rfl, by simp [Go.Sort.grow, World.drewN], fun b hb => by simp [Go.Sort.grow, World.drewN, Array.getElem?_append, hb]⟩
theorem itoa_c (n : Int) (w : World) (h0 : -9223372036854775808 ≤ n) (h1 : n ≤ 9223372036854775807) (ht : Tab w) :
    Calls Tryd.prog 4 #[.int .i64 n] w (Gives (.string ⟨(Lib.itoa n).toArray⟩) w) :=
  (Tryd.strconv_Itoa n h0 h1 w (ht w (Nw.refl w))).mono fun _ _ ⟨he, k, os, hw⟩ => ⟨he, by rw [hw]; exact nw_grow w k os⟩
theorem itoa_dec (v : Nat) : Lib.itoa (v : Int) = Lib.decDigits v := by
  unfold Lib.itoa
  rw [if_neg (by omega), Int.toNat_natCast]
theorem bapp2 (a b : List UInt8) : (⟨a.toArray⟩ : ByteArray) ++ ⟨b.toArray⟩ = ⟨(a ++ b).toArray⟩ := by
  apply ByteArray.ext
  simp
theorem pad_cut : ∀ k, k < 9 → (⟨#[32, 32, 32, 32, 32, 32, 32, 32, 32]⟩ : ByteArray).extract 0 k = ⟨(pad k).toArray⟩ := by decide +kernel
theorem lexed {bs : List UInt8} {r : Res} (h : lexP bs = r) (hl : bs.length ≤ 1000) (w : World) : Calls Tryd.prog 5 #[.string ⟨bs.toArray⟩] w (HandsL w r) := by
  have := lex_c bs w (Nat.le_trans hl (by decide))
  rwa [h] at this
set_option maxRecDepth 20000 in
set_option maxHeartbeats 1600000 in
theorem numbers_walk (n a : Int) (w : World) (ht : Tab w) (h0 : 0 ≤ n ∧ n ≤ 65535) (h1 : 0 ≤ a ∧ a ≤ 255) :
    Calls Tryd.prog 3 #[.int .u16 n, .int .u8 a] w (Gives (.bool true) w) := by
  obtain ⟨v, hv⟩ : ∃ v : Nat, n % 10000 = v := ⟨(n % 10000).toNat, by omega⟩
  obtain ⟨k, hk⟩ : ∃ k : Nat, a % 9 = k := ⟨(a % 9).toNat, by omega⟩
  have hv4 : v < 10000 := by omega
  have hk9 : k < 9 := by omega
  obtain ⟨l1, l2, l3, l4⟩ := nums k v (by omega) hv4
  have hpc := pad_cut k hk9
  have hpl := pad_len k
  have HI := hid (fun w' (h : Nw w w') => show Calls Tryd.prog 4 #[.int .i64 (v : Int)] w' (Gives (.string ⟨(Lib.decDigits v).toArray⟩) w') by
    have := itoa_c v w' (by omega) (by omega) (fun w'' h' => ht w'' (h.trans h'))
    rwa [itoa_dec] at this)
  generalize Lib.decDigits v = D at *
  generalize pad k = P at *
  have e1 : (⟨P.toArray⟩ : ByteArray) ++ ⟨D.toArray⟩ = ⟨(P ++ D).toArray⟩ := bapp2 P D
  have e2 : (⟨P.toArray⟩ : ByteArray) ++ ⟨#[48]⟩ = ⟨(P ++ [48]).toArray⟩ := bapp2 P [48]
  have e3 : (⟨(P ++ [48]).toArray⟩ : ByteArray) ++ ⟨D.toArray⟩ = ⟨(P ++ ([48] ++ D)).toArray⟩ := by rw [bapp2, List.append_assoc]
  have e4 : (⟨P.toArray⟩ : ByteArray) ++ ⟨#[49, 50, 51, 52]⟩ = ⟨(P ++ [49, 50, 51, 52]).toArray⟩ := bapp2 P [49, 50, 51, 52]
  have e5 : (⟨(P ++ [49, 50, 51, 52]).toArray⟩ : ByteArray) ++ ⟨D.toArray⟩ = ⟨(P ++ ([49, 50, 51, 52] ++ D)).toArray⟩ := by rw [bapp2, List.append_assoc]
  have H1 := hid (lexed l1 (by rw [List.length_append]; omega))
  have H2 := hid (lexed l2 (by simp only [List.length_append, List.length_cons, List.length_nil]; omega))
  have H3 := hid (lexed l3 (by simp only [List.length_append, List.length_cons, List.length_nil]; omega))
  have z2 : (P ++ [48]).length = k + 1 := by rw [List.length_append, hpl]; rfl
  have z4 : (P ++ [49, 50, 51, 52]).length = k + 4 := by rw [List.length_append, hpl]; rfl
  clear l1 l2 l3
  generalize P ++ D = S1 at *
  generalize P ++ ([48] ++ D) = S2 at *
  generalize P ++ ([49, 50, 51, 52] ++ D) = S3 at *
  generalize P ++ [48] = P0 at *
  generalize P ++ [49, 50, 51, 52] = P4 at *
  have q1 : ¬ 9223372036854775807 < P.length + D.length := by omega
  have q2 : ¬ 9223372036854775807 < P.length + 1 := by omega
  have q3 : ¬ 9223372036854775807 < P0.length + D.length := by omega
  have q4 : ¬ 9223372036854775807 < P.length + 4 := by omega
  have q5 : ¬ 9223372036854775807 < P4.length + D.length := by omega
  have hb5 : (D.length : Int) ≤ 4 := by omega
  clear z2 z4
  subst hpl
  go_enter Tryd.func3, Tryd.ntmps3
  go_wp2_with (first
    | (go_at_call 4; refine (HI.out _ (by repeat (first | assumption | exact Nw.refl _ | refine Nw.alloc ?_ _ | refine Nw.drew ?_ | refine Nw.drewN2 ?_ _ | (refine Nw.trans ?_ (by assumption))))).mono ?_; rintro e w0 ⟨rfl, hn0⟩)
    | (go_at_call 5; (with_reducible refine (H1.out _).mono ?_); rintro e w1 ⟨v1, rfl, hown1, hn1⟩; obtain ⟨g, cap, rfl, hcap, hmx, hc⟩ := ts_open (TS.own hown1) (by simp); have c0 : w1.cell? ⟨g, 0, none⟩ = some (.int .i64 2) := hc 0 _ rfl 0 (by decide); have c1 : w1.cell? ⟨g, 1, none⟩ = some (.string ⟨#[]⟩) := hc 0 _ rfl 1 (by decide); have c2 : w1.cell? ⟨g, 2, none⟩ = some (.int .i64 v) := hc 0 _ rfl 2 (by decide); have c3 : w1.cell? ⟨g, 3, none⟩ = some (.int .i64 (P.length : Int)) := hc 0 _ rfl 3 (by decide); clear hc hown1)
    | (go_at_call 5; (with_reducible refine (H2.out _).mono ?_); rintro e w2 ⟨v2, rfl, _, hn2⟩; have d0 := hn2.cell c0; have d1 := hn2.cell c1; have d2 := hn2.cell c2; have d3 := hn2.cell c3)
    | (go_at_call 5; (with_reducible refine (H3.out _).mono ?_); rintro e w3 ⟨v3, rfl, _, hn3⟩; have c0 := hn3.cell d0; have c1 := hn3.cell d1; have c2 := hn3.cell d2; have c3 := hn3.cell d3; have hg := World.block_lt_of_cell? w3 _ c0; simp only at hg)
    | (go_at_call 6; refine (awake_c _).mono ?_; rintro e w4 ⟨rfl, hn4⟩)
    | fail)
  go_ret
  exact ⟨rfl, (by repeat (first | assumption | exact Nw.refl _ | refine Nw.alloc ?_ _ | refine Nw.drew ?_ | refine Nw.drewN2 ?_ _ | (refine Nw.trans ?_ (by assumption))))⟩
end Lx
end Go.Proofs.YtfbokhodcgpppaaDoor
