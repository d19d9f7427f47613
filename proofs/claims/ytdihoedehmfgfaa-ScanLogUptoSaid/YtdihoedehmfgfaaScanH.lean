/- The laws' awake of layer 12; ScanAny walked. No condition but lengths. -/
import Derived.Test.YtdihoedehmfgfaaScanG
import Derived.Test.YtdihoedehmfgfaaLogC
set_option linter.unusedSimpArgs false
set_option linter.unusedVariables false
namespace Go.Proofs.Ytdihoedehmfgfaa
open Go.ChangeShapes Go.WideShapes Go.ChangeAt Go.RowKit
namespace Sc
open Go.Proofs.Ytdihoedehmfgfaa.Rec (none_ i64s_open HandsG)
open Go.Proofs.Ytdihoedehmfgfaa.Sum (Hands8)
open Go.Proofs.Ytdihoedehmfgfaa.Tr (T Es tm ids Evs EC Small box2 lt_alloc)
open Go.Proofs.Ytdihoedehmfgfaa.Lx (strs_open)
open Go.Proofs.Ytdihoedehmfgfaa.Src (rt)
open Go.Proofs.Ytdihoedehmfgfaa.Lg (Hd headR encP encode_c)
def aw : T := ⟨[⟨#[112]⟩], [(7, [0])]⟩
def awB : List UInt8 := encP aw
theorem aw_small : Small aw := by
  refine ⟨by decide, by decide, fun i hi => ?_, fun s hs => ?_⟩
  · match i, hi with
    | 0, _ => decide
  · simp only [aw, List.mem_cons, List.not_mem_nil, or_false] at hs
    subst hs
    decide
theorem aw_len : awB.length = 26 := by decide +kernel
theorem aw_head : headR awB 5 = ([⟨#[112]⟩], 11, 0) := by decide +kernel
theorem aw_rec : recP awB 26 11 1 = ((7, [0]), 26, 0) := by decide +kernel
theorem aw_rt : rt awB.length (-1) = 26 := by rw [aw_len]; rfl
theorem size_alloc (w : World) (o : Obj) : (w.alloc o).heap.size = w.heap.size + 1 := by
  show (w.heap.push _).size = _
  rw [Array.size_push]
theorem aw_reads (w : World) : Sl (((w.alloc (.cells #[.string ⟨#[112]⟩] 9)).alloc (.cells #[.int .i64 0] 3)).alloc (.cells #[.int .u64 7, .slice (some ⟨w.heap.size + 1, 0, none⟩) 1 1] 38)) (.slice (some ⟨w.heap.size, 0, none⟩) 1 1) (Lx.strs aw.names) ∧
    Evs (((w.alloc (.cells #[.string ⟨#[112]⟩] 9)).alloc (.cells #[.int .i64 0] 3)).alloc (.cells #[.int .u64 7, .slice (some ⟨w.heap.size + 1, 0, none⟩) 1 1] 38)) (.slice (some ⟨w.heap.size + 1 + 1, 0, none⟩) 1 1) aw.evs ∧
    Nw w (((w.alloc (.cells #[.string ⟨#[112]⟩] 9)).alloc (.cells #[.int .i64 0] 3)).alloc (.cells #[.int .u64 7, .slice (some ⟨w.heap.size + 1, 0, none⟩) 1 1] 38)) := by
  have s1 := Sl.newAt w (Lx.strs aw.names) 9 (0, 0) w.heap.size 1 rfl rfl (by decide)
  have z1 := size_alloc w (.cells #[.string ⟨#[112]⟩] 9)
  change Sl (w.alloc (.cells #[.string ⟨#[112]⟩] 9)) _ _ at s1
  have n1 := (Nw.refl w).alloc (.cells #[.string ⟨#[112]⟩] 9)
  generalize w.alloc (.cells #[.string ⟨#[112]⟩] 9) = w1 at *
  have s2 := Sl.newAt w1 [.int .i64 0] 3 (0, 0) (w.heap.size + 1) 1 z1.symm rfl (by decide)
  change Sl (w1.alloc (.cells #[.int .i64 0] 3)) _ _ at s2
  have z2 := size_alloc w1 (.cells #[.int .i64 0] 3)
  have n2 := (Nw.refl w1).alloc (.cells #[.int .i64 0] 3)
  generalize w1.alloc (.cells #[.int .i64 0] 3) = w2 at *
  rw [z1] at z2
  have b3 := box2 w2 (.int .u64 7) (.slice (some ⟨w.heap.size + 1, 0, none⟩) 1 1) 38
  have n3 := (Nw.refl w2).alloc (.cells #[.int .u64 7, .slice (some ⟨w.heap.size + 1, 0, none⟩) 1 1] 38)
  generalize w2.alloc (.cells #[.int .u64 7, .slice (some ⟨w.heap.size + 1, 0, none⟩) 1 1] 38) = w3 at *
  rw [z2] at b3
  refine ⟨s1.nw (n2.trans n3), ⟨_, _, rfl, by decide, by decide, (fun h => by cases h), fun i hi => ?_⟩, n1.trans (n2.trans n3)⟩
  match i, hi with
  | 0, _ => exact ⟨_, 0, _, rfl, b3.1, b3.2, s2.nw n3⟩
set_option maxRecDepth 20000 in
set_option maxHeartbeats 1600000 in
theorem awake_c (w : World) : Calls Try.prog 15 #[] w (Gives (.bool true) w) := by
  obtain ⟨h1, h2, hnA⟩ := aw_reads w
  have HEN := hid (show Calls Try.prog 20 #[.agg #[.slice (some ⟨w.heap.size, 0, none⟩) 1 1, .slice (some ⟨w.heap.size + 1 + 1, 0, none⟩) 1 1]] _ (Hands8 _ awB) from encode_c _ _ aw _ h1 h2 aw_small (by decide) (fun i hi => by
    match i, hi with
    | 0, _ => decide))
  have hx : ∀ x ∈ ([1, 2] : List Int), -9223372036854775808 ≤ x ∧ x ≤ 9223372036854775807 := by decide
  have HNE := hid (fun (v s : Value) w' (hv : Bytes w' v awB) (hs : Sl w' s (i64s [1, 2])) => show Calls Try.prog 21 #[v, s, .int .i64 (-1)] w' (Src.NewOk w' awB [1, 2] 26) by
    have := Src.new_c v s awB [1, 2] (-1) w' hv hs (by rw [aw_len]; decide) (by decide)
    rwa [aw_rt] at this)
  have ok : Ok awB [1, 2] 26 := ⟨by rw [aw_len]; decide, by rw [aw_len]; decide, hx⟩
  have HHD := hid (fun B a n w' h hn => show Calls Try.prog 22 #[.pointer (some ⟨a, 0, none⟩)] w' (HandsHs w' B a awB [1, 2] 26 n ([⟨#[112]⟩], 11, 0)) by
    have := head_c B a awB [1, 2] 26 n w' h ok hn
    rw [List.take_of_length_le (by rw [aw_len]; decide), show miss awB 26 = 5 by unfold miss; rw [aw_len]; rfl, aw_head] at this
    exact this)
  have HRC := hid (fun B a n w' h hn => show Calls Try.prog 23 #[.pointer (some ⟨a, 0, none⟩), .int .i64 11, .int .i64 1] w' (HandsRc w' B a awB [1, 2] 26 n ((7, [0]), 26, 0)) by
    have := record_c B a awB [1, 2] 26 n 11 1 w' h ok hn (by decide) (by decide) (by decide) (by decide)
    rwa [aw_rec] at this)
  have HL := hid aw_len
  clear h1 h2 ok hx
  generalize awB = Bt at *
  go_enter Try.func15, Try.ntmps15
  go_upto_region 2 with (first
    | (go_at_call 20; refine HEN.out.mono ?_; rintro e' w1 ⟨v1, rfl, hown1, hn1⟩; obtain ⟨p1, c1, rfl, _⟩ := hown1.sl.open (n := 26) ((u8s_length _).trans HL.out))
    | fail)
  have hb1 : Bytes w1 (.slice p1 26 c1) Bt := hown1.sl
  have hw1 := hnA.trans hn1
  have HN2 := hid (HNE.out (.slice p1 26 c1) (.slice (some ⟨w1.heap.size, 0, none⟩) 2 2) _ (hb1.nw ((Nw.refl w1).alloc (.cells #[.int .i64 1, .int .i64 2] 3))) (Sl.newAt w1 [.int .i64 1, .int .i64 2] 3 (0, 0) w1.heap.size 2 rfl rfl (by decide)))
  clear hown1 hn1 hnA HEN HNE
  go_upto_region 3 with (first
    | (go_at_call 21; refine HN2.out.mono ?_; rintro e' w2 ⟨a, rfl, his2, ha, hlt, hn2⟩)
    | fail)
  have hw2 : Nw w w2 := hw1.trans (((Nw.refl w1).alloc (.cells #[.int .i64 1, .int .i64 2] 3)).trans hn2)
  have hwa : w.heap.size ≤ a := Nat.le_trans (Nw.size (hw1.alloc (.cells #[.int .i64 1, .int .i64 2] 3))) ha
  have HH2 := hid (HHD.out _ a 0 w2 his2 (by omega))
  clear ha hlt HN2 hn2 hw1 hb1
  go_upto_region 4 with (first
    | (go_at_call 22; refine HH2.out.mono ?_; rintro e' w3 ⟨v3, n3, rfl, hs3, hsi3, hn3, hm3⟩; dsimp only at hs3 ⊢; obtain ⟨p3, c3, rfl, _⟩ := strs_open hs3)
    | fail)
  have HR3 := hid (HRC.out _ a n3 w3 hsi3 (by omega))
  go_upto_region 5 with (first
    | (go_at_call 23; refine HR3.out.mono ?_; rintro e' w4 ⟨v4, n4, rfl, hown4, hsi4, hn4, hm4⟩; dsimp only at hown4 ⊢; obtain ⟨p4, c4, rfl, _⟩ := i64s_open hown4.sl)
    | fail)
  obtain ⟨x0, x1⟩ := box2 w4 (.int .u64 7) (.slice p4 1 c4) 38
  have lA := lt_alloc w4 (.cells #[.int .u64 7, .slice p4 1 c4] 38)
  have hfin := (hw2.ofMods (hm3.trans hm4) (fun k hk => by omega)).alloc (.cells #[.int .u64 7, .slice p4 1 c4] 38)
  go_wp2
  go_ret
  exact Gives.b rfl hfin
set_option maxRecDepth 20000 in
theorem any_walk (vb vs : Value) (b : List UInt8) (sc : List Int) (fault at_ p : Int) (w : World) (hb : Bytes w vb b) (hs : Sl w vs (i64s sc)) (hlb : b.length ≤ 500000000) (hls : sc.length ≤ 1000000000) (hx : ∀ x ∈ sc, -9223372036854775808 ≤ x ∧ x ≤ 9223372036854775807)
    (hf1 : -9223372036854775808 ≤ fault) (hf2 : fault ≤ 9223372036854775807) (hat1 : -9223372036854775808 ≤ at_) (hat2 : at_ ≤ 9223372036854775807) (hp1 : -9223372036854775808 ≤ p) (hp2 : p ≤ 9223372036854775807) :
    Calls Try.prog 3 #[vb, vs, .int .i64 fault, .int .i64 at_, .int .i64 p] w fun e w' => e = .returned (.bool true) ∧ Nw w w' := by
  have HSC := hid (scanned_c vb vs b sc fault at_ p w hb hs hlb hls hx hf1 hf2 hat1 hat2 hp1 hp2)
  obtain ⟨pb, kb, rfl, _, _, _, _⟩ := hb.open
  obtain ⟨ps, ks, rfl, _, _, _, _⟩ := hs.open (i64s_length sc)
  clear hb hs
  go_enter Try.func3, Try.ntmps3
  go_wp2_with (first
    | (go_at_call 14; refine HSC.out.mono ?_; rintro e' w1 ⟨rfl, hn1⟩)
    | (go_at_call 15; refine (awake_c _).mono ?_; rintro e' w5 ⟨rfl, hn5⟩)
    | fail)
  go_ret
  exact ⟨rfl, (by repeat (first | assumption | exact Nw.refl _ | refine Nw.alloc ?_ _ | refine Nw.drew ?_ | refine Nw.drewN2 ?_ _ | (refine Nw.trans ?_ (by assumption))))⟩
end Sc
end Go.Proofs.Ytdihoedehmfgfaa
