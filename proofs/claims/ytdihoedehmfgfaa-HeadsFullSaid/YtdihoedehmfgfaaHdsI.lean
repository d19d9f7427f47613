/- Pools of heads: New, Names. No condition but lengths. -/
import Derived.Test.YtdihoedehmfgfaaJHds
import Derived.Test.YtdihoedehmfgfaaScanG
set_option linter.unusedSimpArgs false
set_option linter.unusedVariables false
namespace Go.Proofs.Ytdihoedehmfgfaa
open Go.ChangeShapes Go.WideShapes Go.ChangeAt Go.RowKit
namespace Hp
open Go.Proofs.Ytdihoedehmfgfaa.Rec (none_ get i64s_open)
open Go.Proofs.Ytdihoedehmfgfaa.Sc (recP SI Ok record_c HandsRc HandsHo head_o miss headR_bd rt_bd)
open Go.Proofs.Ytdihoedehmfgfaa.Lx (strs_open)
open Go.Proofs.Ytdihoedehmfgfaa.Tr (lt_alloc clones_c strs_one)
open Go.Proofs.Ytdihoedehmfgfaa.Lg (headR)
open Go.Proofs.Ytdihoedehmfgfaa.Src (rt)
/-- A new pool. -/
def Made (w : World) (b : List UInt8) (sc : List Int) (r : Nat) (l : List ByteArray) (k size : Int) (e : Ending) (w' : World) : Prop :=
  ∃ c P, e = .returned (.tuple #[.pointer (some ⟨c.a, 0, none⟩), .int .i64 0]) ∧ (∃ n, n ≤ 2000 ∧ PI w' P c (.slice none 0 0) [] 0 n) ∧ c.b = b ∧ c.sc = sc ∧ c.r = r ∧ c.nm = l ∧ c.first = k ∧ c.size = size ∧ (∀ k, P k → w.heap.size ≤ k) ∧ w.heap.size ≤ c.s ∧ w.heap.size ≤ c.B ∧ Nw w w'
def NewO (w : World) (b : List UInt8) (sc : List Int) (r : Nat) (size : Int) (e : Ending) (w' : World) : Prop :=
  if size < 1 then e = .returned (.tuple #[.pointer none, .int .i64 1]) ∧ Nw w w' else
  match headR (b.take r) (miss b r) with
  | (l, k, er) => if er ≠ 0 then e = .returned (.tuple #[.pointer none, .int .i64 er]) ∧ Nw w w' else Made w b sc r l k size e w'
theorem made {w w3 : World} {b : List UInt8} {sc : List Int} {r : Nat} {l : List ByteArray} {k : Nat} {size : Int} {B a n : Nat} {v : Value} (hs : SI w3 B a b sc r n) (hv : Own w3 B 9 v (Lx.strs l)) (ok : Ok b sc r) (hl : l.length ≤ 64) (hk : k ≤ b.length) (hn : n ≤ 2000) (hB : w.heap.size ≤ B) (ha : w.heap.size ≤ a) (hw : Nw w w3) :
    Made w b sc r l k size (.returned (.tuple #[.pointer (some ⟨w3.heap.size, 0, none⟩), .int .i64 0])) (w3.alloc (.cells #[.pointer (some ⟨a, 0, none⟩), v, .int .i64 k, .int .i64 size, .slice none 0 0, .int .i64 0] 107)) := by
  have hn1 := (Nw.refl w3).alloc (.cells #[.pointer (some ⟨a, 0, none⟩), v, .int .i64 k, .int .i64 size, .slice none 0 0, .int .i64 0] 107)
  refine ⟨⟨B, a, w3.heap.size, b, sc, r, l, v, k, size⟩, fun j => j = w3.heap.size, rfl, ⟨n, hn, ⟨heap_new _ _, hs.nw hn1, hv.nw hn1, Own.nil _ _ _, (fun x hx => by cases hx), (fun i j x y hx => by cases hx), rfl, (fun k hk => by cases hk), fun j hj => ?_, ⟨Int.natCast_nonneg k, Int.ofNat_le.2 hk⟩, ⟨Int.le_refl _, by decide⟩, hl, ok⟩⟩, rfl, rfl, rfl, rfl, rfl, rfl, fun j hj => ?_, ha, hB, hw.alloc _⟩
  · subst hj
    exact ⟨hs.lt, lt_alloc _ _⟩
  · subst hj
    exact hw.size
set_option maxRecDepth 20000 in
set_option maxHeartbeats 800000 in
theorem poolnew_c (vb vs : Value) (b : List UInt8) (sc : List Int) (fault size : Int) (w : World) (hb : Bytes w vb b) (hs : Sl w vs (i64s sc)) (hlb : b.length ≤ 500000000) (hls : sc.length ≤ 1000000000) (hx : ∀ x ∈ sc, -9223372036854775808 ≤ x ∧ x ≤ 9223372036854775807) :
    Calls Try.prog 25 #[vb, vs, .int .i64 fault, .int .i64 size] w (NewO w b sc (rt b.length fault) size) := by
  have HNE := hid (Src.new_c vb vs b sc fault w hb hs (by omega) hls)
  have hrb := rt_bd b fault
  have hbd := headR_bd (b.take (rt b.length fault)) (miss b (rt b.length fault))
  have hcl : (b.take (rt b.length fault)).length ≤ b.length := by rw [List.length_take]; omega
  obtain ⟨pb, kb, rfl, _, _, _, _⟩ := hb.open
  obtain ⟨ps, ks, rfl, _, _, _, _⟩ := hs.open (i64s_length sc)
  clear hb hs
  generalize rt b.length fault = r at *
  have ok : Ok b sc r := ⟨hrb, by omega, hx⟩
  have HD := hid (fun B a w' (h : SI w' B a b sc r 0) => head_o B a b sc r 0 w' h ok (by omega))
  by_cases h1 : size < 1
  · have hd1 : decide (size < 1) = true := decide_eq_true h1
    have H1 := hid h1
    clear HD hbd ok
    go_enter Try.func25, Try.ntmps25
    go_wp2
    go_ret2
    refine (show NewO w b sc r size _ _ from ?_)
    unfold NewO
    rw [if_pos H1.out]
    exact ⟨rfl, Nw.refl _⟩
  · have hd1 : decide (size < 1) = false := decide_eq_false h1
    have H1 := hid h1
    generalize hX : headR (b.take r) (miss b r) = X at *
    obtain ⟨l, k, er⟩ := X
    dsimp only at hbd
    have HX := hid hX
    clear hX
    obtain ⟨hl64, k, rfl, hk⟩ := hbd
    have HOK := hid ok
    clear ok h1
    go_enter Try.func25, Try.ntmps25
    go_upto_region 4 with (first
      | (go_at_call 21; refine HNE.out.mono ?_; rintro e' w2 ⟨a, rfl, his, ha, hlt, hn2⟩)
      | fail)
    have HH2 := hid (HD.out w.heap.size a w2 his)
    clear HD HNE hlt
    go_upto_region 5 with (first
      | (go_at_call 22; refine HH2.out.mono ?_; rintro e' w3 ⟨v3, n3, rfl, ho3, hsi3, hn3, hm3⟩; dsimp only at ho3 ⊢; obtain ⟨p3, c3, rfl, _⟩ := strs_open ho3.sl)
      | fail)
    have hw3 : Nw w w3 := hn2.ofMods hm3 (fun j q => by omega)
    by_cases he : er = 0
    · subst he
      have HM := hid (made (size := size) hsi3 (ho3.mono hn2.size) HOK.out hl64 (Nat.le_trans hk hcl) (by omega) (Nat.le_refl _) ha hw3)
      clear HH2 his hsi3 ho3 hm3 hn2
      go_wp2
      go_ret2
      refine (show NewO w b sc r size _ _ from ?_)
      unfold NewO
      rw [if_neg (by have := H1.out; omega), HX.out]
      exact HM.out
    · have hde : (er != 0) = true := by simpa using he
      have HF := hid he
      clear HH2 his hsi3 ho3 hm3 hn2 he
      go_wp2
      go_ret2
      refine (show NewO w b sc r size _ _ from ?_)
      unfold NewO
      rw [if_neg (by have := H1.out; omega), HX.out]
      dsimp only
      rw [if_pos HF.out]
      exact ⟨rfl, hw3⟩
section
variable {w : World} {P : Nat → Prop} {c : Cf} {vh : Value} {rs : List (Option Hd)} {peak : Int} {n : Nat}
set_option maxRecDepth 20000 in
theorem names_c (h : PI w P c vh rs peak n) : Calls Try.prog 39 #[.pointer (some ⟨c.a, 0, none⟩)] w fun e w' => ∃ v, e = .returned v ∧ Own w' w.heap.size 9 v (Lx.strs c.nm) ∧ Nw w w' := by
  have y := h.blk
  have g0 := lt_of_heap y
  have k1 := heap_cell y 1
  simp only [List.getElem?_toArray, List.getElem?_cons_succ, List.getElem?_cons_zero] at k1
  have HC := hid (clones_c c.vn (Lx.strs c.nm) w h.nms.sl (strs_one _) (by rw [Lx.strs_length]; have := h.nl; omega))
  obtain ⟨pn, cn, en, _⟩ := strs_open h.nms.sl
  rw [en] at k1 HC
  clear y h en
  go_enter Try.func39, Try.ntmps39
  go_wp2_with (first
    | (go_at_call 72; refine HC.out.mono ?_; rintro e' w5 ⟨v5, rfl, ho5, hn5⟩)
    | fail)
  go_ret
  exact ⟨_, rfl, ho5, hn5⟩
end
end Hp
end Go.Proofs.Ytdihoedehmfgfaa
