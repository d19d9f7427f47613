/- Joined texts.
Pools of heads: New, Names. No condition but lengths.
One pool, seen from a law. No condition but lengths.
The laws' awake of layer 13; HeadsNil walked. No condition.
Heads on a log that is told: plain; Next and Seek seen from a law. No condition but lengths.
Calls on heads that come in, as data. No program in sight. No condition.
-/
import Derived.Test.YtdihoedehmfgfaaJHds
import Derived.Test.YtdihoedehmfgfaaScanG
import Derived.Test.YtdihoedehmfgfaaLogC
import Derived.Test.YtdihoedehmfgfaaJHe
import Derived.Test.YtdihoedehmfgfaaScanK
import Derived.Test.YtdihoedehmfgfaaBase
import Derived.Deep.Slices
set_option linter.unusedSimpArgs false
set_option linter.unusedVariables false
namespace Go.Proofs.Ytdihoedehmfgfaa
open Go.ChangeShapes Go.WideShapes Go.ChangeAt Go.RowKit
namespace Hp
open Go.Proofs.Ytdihoedehmfgfaa.Rec (none_ get i64s_open)
open Go.Proofs.Ytdihoedehmfgfaa.Sc (recP SI Ok record_c HandsRc HandsHo head_o miss headR_bd rt_bd)
open Go.Proofs.Ytdihoedehmfgfaa.Lx (strs_open)
open Go.Proofs.Ytdihoedehmfgfaa.Tr (lt_alloc clones_c strs_one)
open Go.Proofs.Ytdihoedehmfgfaa.Lg (headR)
open Go.Proofs.Ytdihoedehmfgfaa.Src (rt)
/-- A new pool. -/
def Made (w : World) (b : List UInt8) (sc : List Int) (r : Nat) (l : List ByteArray) (k size : Int) (e : Ending) (w' : World) : Prop :=
  ∃ c P, e = .returned (.tuple #[.pointer (some ⟨c.a, 0, none⟩), .int .i64 0]) ∧ (∃ n, n ≤ 2000 ∧ PI w' P c (.slice none 0 0) [] 0 n) ∧ c.b = b ∧ c.sc = sc ∧ c.r = r ∧ c.nm = l ∧ c.first = k ∧ c.size = size ∧ (∀ k, P k → w.heap.size ≤ k) ∧ w.heap.size ≤ c.s ∧ w.heap.size ≤ c.B ∧ Nw w w'
def NewO (w : World) (b : List UInt8) (sc : List Int) (r : Nat) (size : Int) (e : Ending) (w' : World) : Prop :=
  if size < 1 then e = .returned (.tuple #[.pointer none, .int .i64 1]) ∧ Nw w w' else
  match headR (b.take r) (miss b r) with
  | (l, k, er) => if er ≠ 0 then e = .returned (.tuple #[.pointer none, .int .i64 er]) ∧ Nw w w' else Made w b sc r l k size e w'
theorem made {w w3 : World} {b : List UInt8} {sc : List Int} {r : Nat} {l : List ByteArray} {k : Nat} {size : Int} {B a n : Nat} {v : Value} (hs : SI w3 B a b sc r n) (hv : Own w3 B 9 v (Lx.strs l)) (ok : Ok b sc r) (hl : l.length ≤ 64) (hk : k ≤ b.length) (hn : n ≤ 2000) (hB : w.heap.size ≤ B) (ha : w.heap.size ≤ a) (hw : Nw w w3) :
    Made w b sc r l k size (.returned (.tuple #[.pointer (some ⟨w3.heap.size, 0, none⟩), .int .i64 0])) (w3.alloc (.cells #[.pointer (some ⟨a, 0, none⟩), v, .int .i64 k, .int .i64 size, .slice none 0 0, .int .i64 0] 107)) := by
  have hn1 := (Nw.refl w3).alloc (.cells #[.pointer (some ⟨a, 0, none⟩), v, .int .i64 k, .int .i64 size, .slice none 0 0, .int .i64 0] 107)
  refine ⟨⟨B, a, w3.heap.size, b, sc, r, l, v, k, size⟩, fun j => j = w3.heap.size, rfl, ⟨n, hn, ⟨heap_new _ _, hs.nw hn1, hv.nw hn1, Own.nil _ _ _, (fun x hx => by cases hx), (fun i j x y hx => by cases hx), rfl, (fun k hk => by cases hk), fun j hj => ?_, ⟨Int.natCast_nonneg k, Int.ofNat_le.2 hk⟩, ⟨Int.le_refl _, by decide⟩, hl, ok⟩⟩, rfl, rfl, rfl, rfl, rfl, rfl, fun j hj => ?_, ha, hB, hw.alloc _⟩
  · subst hj
    exact ⟨hs.lt, lt_alloc _ _⟩
  · subst hj
    exact hw.size
set_option maxRecDepth 20000 in
set_option maxHeartbeats 800000 in
theorem poolnew_c (vb vs : Value) (b : List UInt8) (sc : List Int) (fault size : Int) (w : World) (hb : Bytes w vb b) (hs : Sl w vs (i64s sc)) (hlb : b.length ≤ 500000000) (hls : sc.length ≤ 1000000000) (hx : ∀ x ∈ sc, -9223372036854775808 ≤ x ∧ x ≤ 9223372036854775807) :
    Calls Try.prog 25 #[vb, vs, .int .i64 fault, .int .i64 size] w (NewO w b sc (rt b.length fault) size) := by
  have HNE := hid (Src.new_c vb vs b sc fault w hb hs (by omega) hls)
  have hrb := rt_bd b fault
  have hbd := headR_bd (b.take (rt b.length fault)) (miss b (rt b.length fault))
  have hcl : (b.take (rt b.length fault)).length ≤ b.length := by rw [List.length_take]; omega
  obtain ⟨pb, kb, rfl, _, _, _, _⟩ := hb.open
  obtain ⟨ps, ks, rfl, _, _, _, _⟩ := hs.open (i64s_length sc)
  clear hb hs
  generalize rt b.length fault = r at *
  have ok : Ok b sc r := ⟨hrb, by omega, hx⟩
  have HD := hid (fun B a w' (h : SI w' B a b sc r 0) => head_o B a b sc r 0 w' h ok (by omega))
  by_cases h1 : size < 1
  · have hd1 : decide (size < 1) = true := decide_eq_true h1
    have H1 := hid h1
    clear HD hbd ok
    go_enter Try.func25, Try.ntmps25
    go_wp2
    go_ret2
    refine (show NewO w b sc r size _ _ from ?_)
    unfold NewO
    rw [if_pos H1.out]
    exact ⟨rfl, Nw.refl _⟩
  · have hd1 : decide (size < 1) = false := decide_eq_false h1
    have H1 := hid h1
    generalize hX : headR (b.take r) (miss b r) = X at *
    obtain ⟨l, k, er⟩ := X
    dsimp only at hbd
    have HX := hid hX
    clear hX
    obtain ⟨hl64, k, rfl, hk⟩ := hbd
    have HOK := hid ok
    clear ok h1
    go_enter Try.func25, Try.ntmps25
    go_upto_region 4 with (first
      | (go_at_call 21; refine HNE.out.mono ?_; rintro e' w2 ⟨a, rfl, his, ha, hlt, hn2⟩)
      | fail)
    have HH2 := hid (HD.out w.heap.size a w2 his)
    clear HD HNE hlt
    go_upto_region 5 with (first
      | (go_at_call 22; refine HH2.out.mono ?_; rintro e' w3 ⟨v3, n3, rfl, ho3, hsi3, hn3, hm3⟩; dsimp only at ho3 ⊢; obtain ⟨p3, c3, rfl, _⟩ := strs_open ho3.sl)
      | fail)
    have hw3 : Nw w w3 := hn2.ofMods hm3 (fun j q => by omega)
    by_cases he : er = 0
    · subst he
      have HM := hid (made (size := size) hsi3 (ho3.mono hn2.size) HOK.out hl64 (Nat.le_trans hk hcl) (by omega) (Nat.le_refl _) ha hw3)
      clear HH2 his hsi3 ho3 hm3 hn2
      go_wp2
      go_ret2
      refine (show NewO w b sc r size _ _ from ?_)
      unfold NewO
      rw [if_neg (by have := H1.out; omega), HX.out]
      exact HM.out
    · have hde : (er != 0) = true := by simpa using he
      have HF := hid he
      clear HH2 his hsi3 ho3 hm3 hn2 he
      go_wp2
      go_ret2
      refine (show NewO w b sc r size _ _ from ?_)
      unfold NewO
      rw [if_neg (by have := H1.out; omega), HX.out]
      dsimp only
      rw [if_pos HF.out]
      exact ⟨rfl, hw3⟩
section
variable {w : World} {P : Nat → Prop} {c : Cf} {vh : Value} {rs : List (Option Hd)} {peak : Int} {n : Nat}
set_option maxRecDepth 20000 in
theorem names_c (h : PI w P c vh rs peak n) : Calls Try.prog 39 #[.pointer (some ⟨c.a, 0, none⟩)] w fun e w' => ∃ v, e = .returned v ∧ Own w' w.heap.size 9 v (Lx.strs c.nm) ∧ Nw w w' := by
  have y := h.blk
  have g0 := lt_of_heap y
  have k1 := heap_cell y 1
  simp only [List.getElem?_toArray, List.getElem?_cons_succ, List.getElem?_cons_zero] at k1
  have HC := hid (clones_c c.vn (Lx.strs c.nm) w h.nms.sl (strs_one _) (by rw [Lx.strs_length]; have := h.nl; omega))
  obtain ⟨pn, cn, en, _⟩ := strs_open h.nms.sl
  rw [en] at k1 HC
  clear y h en
  go_enter Try.func39, Try.ntmps39
  go_wp2_with (first
    | (go_at_call 72; refine HC.out.mono ?_; rintro e' w5 ⟨v5, rfl, ho5, hn5⟩)
    | fail)
  go_ret
  exact ⟨_, rfl, ho5, hn5⟩
end
end Hp
end Go.Proofs.Ytdihoedehmfgfaa
namespace Go.Proofs.Ytdihoedehmfgfaa
open Go.ChangeShapes Go.WideShapes Go.ChangeAt Go.RowKit
namespace Hp
open Go.Proofs.Ytdihoedehmfgfaa.Rec (none_ get i64s_open)
open Go.Proofs.Ytdihoedehmfgfaa.Sc (recP SI Ok)
/-- A pool between a law's calls: all that it is made of is new since W. -/
def HSt (W : World) (c : Cf) (hs : List (Option HS)) (peak : Int) (N : Nat) (w : World) : Prop :=
  ∃ P vh rs n, PI w P c vh rs peak n ∧ sts rs = hs ∧ n ≤ N ∧ (∀ k, P k → W.heap.size ≤ k) ∧ W.heap.size ≤ c.s ∧ Nw W w
section
variable {W w w' : World} {P : Nat → Prop} {c : Cf} {hs : List (Option HS)} {peak : Int} {N : Nat}
theorem HSt.base (h : HSt W c hs peak N w) : Nw W w := by obtain ⟨_, _, _, _, _, _, _, _, _, q⟩ := h; exact q
theorem HSt.nw (h : HSt W c hs peak N w) (hn : Nw w w') : HSt W c hs peak N w' := by
  obtain ⟨P, vh, rs, n, h1, h2, h3, h4, h5, h6⟩ := h
  exact ⟨P, vh, rs, n, h1.nw hn, h2, h3, h4, h5, h6.trans hn⟩
theorem HSt.po {vh : Value} {rs : List (Option Hd)} {n : Nat} {hs' : List (Option HS)} {peak' : Int} {M : Nat} (hP : ∀ k, P k → W.heap.size ≤ k) (hs : W.heap.size ≤ c.s) (hw : Nw W w) (h : PO w P c hs' peak' M w') : HSt W c hs' peak' M w' := by
  obtain ⟨P', vh', rs', n', h1, h2, h3, h4, h5, h6⟩ := h
  refine ⟨P', vh', rs', n', h3, h4, h5, fun k q => ?_, hs, hw.ofMods h6 (fun k q => ?_)⟩
  · rcases h2 k q with z | z
    · exact hP k z
    · exact Nat.le_trans hw.size z
  · rcases q with z | rfl
    · exact hP k z
    · exact hs
theorem made_st {b : List UInt8} {sc : List Int} {r : Nat} {l : List ByteArray} {k size : Int} {e : Ending} (h : Made w b sc r l k size e w') : ∃ c, e = .returned (.tuple #[.pointer (some ⟨c.a, 0, none⟩), .int .i64 0]) ∧ HSt w c [] 0 2000 w' ∧ c.b = b ∧ c.sc = sc ∧ c.r = r ∧ c.nm = l ∧ c.first = k ∧ c.size = size := by
  obtain ⟨c, P, h1, ⟨n, h2, h3⟩, h4, h5, h6, h7, h8, h9, h10, h11, h12, h13⟩ := h
  exact ⟨c, h1, ⟨P, _, _, n, h3, rfl, h2, h10, h11, h13⟩, h4, h5, h6, h7, h8, h9⟩
theorem HSt.open (h : HSt W c hs peak N w) (hl : hs.length ≤ 90000) {hs' : List (Option HS)} {peak' id er : Int} (he : openP c.size hs peak (hs0 c.first) = ((hs', peak'), (id, er))) :
    Calls Try.prog 26 #[.pointer (some ⟨c.a, 0, none⟩)] w fun e w' => e = .returned (.tuple #[.int .i64 id, .int .i64 er]) ∧ HSt W c hs' peak' N w' := by
  obtain ⟨P, vh, rs, n, h1, rfl, h3, h4, h5, h6⟩ := h
  refine (open_c h1 (by rw [← sts_length]; exact hl)).mono ?_
  rintro e w1 ⟨rfl, hp⟩
  rw [he] at hp ⊢
  exact ⟨rfl, HSt.po (vh := vh) (rs := rs) (n := n) h4 h5 h6 (by
    obtain ⟨P', vh', rs', n', a1, a2, a3, a4, a5, a6⟩ := hp
    exact ⟨P', vh', rs', n', a1, a2, a3, a4, by omega, a6⟩)⟩
theorem HSt.clone (h : HSt W c hs peak N w) (hl : hs.length ≤ 90000) {j : Int} {hs' : List (Option HS)} {peak' id er : Int} (he : cloneP c.size hs peak j = ((hs', peak'), (id, er))) :
    Calls Try.prog 28 #[.pointer (some ⟨c.a, 0, none⟩), .int .i64 j] w fun e w' => e = .returned (.tuple #[.int .i64 id, .int .i64 er]) ∧ HSt W c hs' peak' N w' := by
  obtain ⟨P, vh, rs, n, h1, rfl, h3, h4, h5, h6⟩ := h
  refine (clone_c h1 j (by rw [← sts_length]; exact hl)).mono ?_
  rintro e w1 ⟨rfl, hp⟩
  rw [he] at hp ⊢
  exact ⟨rfl, HSt.po (vh := vh) (rs := rs) (n := n) h4 h5 h6 (by
    obtain ⟨P', vh', rs', n', a1, a2, a3, a4, a5, a6⟩ := hp
    exact ⟨P', vh', rs', n', a1, a2, a3, a4, by omega, a6⟩)⟩
theorem HSt.close (h : HSt W c hs peak N w) {j : Int} {hs' : List (Option HS)} {q : Bool} (he : closeP hs j = (hs', q)) :
    Calls Try.prog 27 #[.pointer (some ⟨c.a, 0, none⟩), .int .i64 j] w fun e w' => e = .returned (.bool q) ∧ HSt W c hs' peak N w' := by
  obtain ⟨P, vh, rs, n, h1, rfl, h3, h4, h5, h6⟩ := h
  refine (close_c h1 j).mono ?_
  rintro e w1 ⟨rfl, hp⟩
  rw [he] at hp ⊢
  exact ⟨rfl, HSt.po (vh := vh) (rs := rs) (n := n) h4 h5 h6 (by
    obtain ⟨P', vh', rs', n', a1, a2, a3, a4, a5, a6⟩ := hp
    exact ⟨P', vh', rs', n', a1, a2, a3, a4, by omega, a6⟩)⟩
theorem HSt.count (h : HSt W c hs peak N w) {q : Int} (he : (cnt hs : Int) = q) : Calls Try.prog 29 #[.pointer (some ⟨c.a, 0, none⟩)] w fun e w' => e = .returned (.int .i64 q) ∧ w = w' := by
  subst he
  obtain ⟨P, vh, rs, n, h1, rfl, h3, h4, h5, h6⟩ := h
  exact count_c h1
theorem HSt.cells (h : HSt W c hs peak N w) (hl : hs.length ≤ 100000) {q : Int} (he : (cells hs : Int) = q) : Calls Try.prog 30 #[.pointer (some ⟨c.a, 0, none⟩)] w fun e w' => e = .returned (.int .i64 q) ∧ w = w' := by
  subst he
  obtain ⟨P, vh, rs, n, h1, rfl, h3, h4, h5, h6⟩ := h
  exact cells_c h1 (by rw [← sts_length]; exact hl)
theorem HSt.idx (h : HSt W c hs peak N w) (id : Int) : Calls Try.prog 31 #[.pointer (some ⟨c.a, 0, none⟩), .int .i64 id] w fun e w' => e = .returned (.tuple #[.int .i64 ((fnd hs id).elim 0 HS.idx), .bool (fnd hs id).isSome]) ∧ w = w' := by
  obtain ⟨P, vh, rs, n, h1, rfl, h3, h4, h5, h6⟩ := h
  exact idx_c h1 id
theorem HSt.peaks (h : HSt W c hs peak N w) : Calls Try.prog 32 #[.pointer (some ⟨c.a, 0, none⟩)] w fun e w' => e = .returned (.int .i64 peak) ∧ w = w' := by
  obtain ⟨P, vh, rs, n, h1, rfl, h3, h4, h5, h6⟩ := h
  exact peak_c h1
end
end Hp
end Go.Proofs.Ytdihoedehmfgfaa
namespace Go.Proofs.Ytdihoedehmfgfaa
open Go.ChangeShapes Go.WideShapes Go.ChangeAt Go.RowKit
namespace Hp
open Go.Proofs.Ytdihoedehmfgfaa.Rec (none_ get i64s_open)
open Go.Proofs.Ytdihoedehmfgfaa.Sc (recP SI Ok miss)
open Go.Proofs.Ytdihoedehmfgfaa.Sum (Hands8)
open Go.Proofs.Ytdihoedehmfgfaa.Tr (T Es Evs EC Small box2 lt_alloc same_c)
open Go.Proofs.Ytdihoedehmfgfaa.Lg (Hd headR encP encode_c)
open Go.Proofs.Ytdihoedehmfgfaa.Src (rt)
def ez : T := ⟨[], []⟩
def ezB : List UInt8 := encP ez
theorem ez_small : Small ez := ⟨by decide, by decide, (fun i hi => by cases hi), (fun s hs => by cases hs)⟩
theorem ez_len : ezB.length = 9 := by decide +kernel
theorem ez_head : headR ezB 5 = ([], 9, 0) := by decide +kernel
theorem ez_rt : rt ezB.length (-1) = 9 := by rw [ez_len]; rfl
theorem ez_evs (w : World) : Evs w (.slice none 0 0) ez.evs := ⟨_, _, rfl, by decide, by decide, (fun _ => rfl), fun i hi => by cases hi⟩
set_option maxRecDepth 20000 in
set_option maxHeartbeats 1600000 in
theorem awake_c (w : World) : Calls Try.prog 33 #[] w (Gives (.bool true) w) := by
  have HEN := hid (show Calls Try.prog 20 #[.agg #[.slice none 0 0, .slice none 0 0]] w (Hands8 w ezB) from encode_c _ _ ez w (Sl.nil w) (ez_evs w) ez_small (by decide) (fun i hi => by cases hi))
  have HNE := hid (fun (v : Value) w' (hv : Bytes w' v ezB) => show Calls Try.prog 25 #[v, .slice none 0 0, .int .i64 (-1), .int .i64 1] w' (Made w' ezB [] 9 [] 9 1) by
    have := poolnew_c v (.slice none 0 0) ezB [] (-1) 1 w' hv (Sl.nil w') (by rw [ez_len]; decide) (by decide) (by decide)
    rw [ez_rt] at this
    refine this.mono fun e w1 h => ?_
    unfold NewO at h
    rw [if_neg (by decide), List.take_of_length_le (by rw [ez_len]; decide), show miss ezB 9 = 5 by unfold miss; rw [ez_len]; rfl, ez_head] at h
    exact h)
  have HL := hid ez_len
  generalize ezB = Bt at *
  go_enter Try.func33, Try.ntmps33
  go_upto_region 2 with (first
    | (go_at_call 20; refine HEN.out.mono ?_; rintro e' w1 ⟨v1, rfl, hown1, hn1⟩; obtain ⟨p1, c1, rfl, _⟩ := hown1.sl.open (n := 9) ((u8s_length _).trans HL.out))
    | (go_at_call 25; refine (HNE.out _ _ hown1.sl).mono ?_; rintro e' w2 hmk; obtain ⟨c, rfl, hst, _, _, _, _, cf, cs⟩ := made_st hmk)
    | fail)
  have h1 := hid (hst.open (by decide) (hs' := [some (hs0 c.first)]) (peak' := 3) (id := 0) (er := 0) (by rw [cs]; rfl))
  clear hmk hst HNE HEN hown1
  go_upto_region 5 with (first
    | (go_at_call 26; refine h1.out.mono ?_; rintro e' w3 ⟨rfl, hst⟩)
    | fail)
  have h2 := hid (hst.open (by simp) (hs' := [some (hs0 c.first)]) (peak' := 3) (id := 0) (er := 12) (by rw [cs]; rfl))
  clear hst h1
  go_upto_region 6 with (first
    | (go_at_call 26; refine h2.out.mono ?_; rintro e' w4 ⟨rfl, hst⟩)
    | fail)
  have h3 := hid (hst.count (q := 1) rfl)
  have h4 := hid (hst.cells (by simp) (q := 3) rfl)
  have h5 := hid (hst.close (j := 0) (hs' := [none]) (q := true) rfl)
  clear h2 hst
  go_wp2_with (first
    | (go_at_call 29; refine h3.out.mono ?_; rintro e' w5 ⟨rfl, rfl⟩)
    | (go_at_call 30; refine h4.out.mono ?_; rintro e' w5 ⟨rfl, rfl⟩)
    | (go_at_call 27; refine h5.out.mono ?_; rintro e' w6 ⟨rfl, hst⟩)
    | (go_at_call 32; refine hst.peaks.mono ?_; rintro e' w5 ⟨rfl, rfl⟩)
    | fail)
  go_ret
  exact Gives.b rfl (hn1.trans hst.base)
/-! ### A pool that is none -/
section
variable (w : World)
set_option maxRecDepth 20000 in
theorem nil_open : Calls Try.prog 26 #[.pointer none] w fun e w' => e = .returned (.tuple #[.int .i64 0, .int .i64 1]) ∧ w = w' := by
  go_enter Try.func26, Try.ntmps26
  go_wp2
  go_ret2
  exact ⟨rfl, rfl⟩

set_option maxRecDepth 20000 in
theorem nil_names : Calls Try.prog 39 #[.pointer none] w fun e w' => e = .returned (.slice none 0 0) ∧ w = w' := by
  go_enter Try.func39, Try.ntmps39
  go_wp2
  go_ret
  exact ⟨rfl, rfl⟩

set_option maxRecDepth 20000 in
theorem nil_count : Calls Try.prog 29 #[.pointer none] w fun e w' => e = .returned (.int .i64 0) ∧ w = w' := by
  go_enter Try.func29, Try.ntmps29
  go_wp2
  go_ret
  exact ⟨rfl, rfl⟩

set_option maxRecDepth 20000 in
theorem nil_cells : Calls Try.prog 30 #[.pointer none] w fun e w' => e = .returned (.int .i64 0) ∧ w = w' := by
  go_enter Try.func30, Try.ntmps30
  go_wp2
  go_ret
  exact ⟨rfl, rfl⟩

set_option maxRecDepth 20000 in
theorem nil_peak : Calls Try.prog 32 #[.pointer none] w fun e w' => e = .returned (.int .i64 0) ∧ w = w' := by
  go_enter Try.func32, Try.ntmps32
  go_wp2
  go_ret
  exact ⟨rfl, rfl⟩

set_option maxRecDepth 20000 in
theorem nil_find (id : Int) : Calls Try.prog 63 #[.pointer none, .int .i64 id] w fun e w' => e = .returned (.tuple #[.pointer none, .int .i64 1]) ∧ w = w' := by
  go_enter Try.func63, Try.ntmps63
  go_wp2
  go_ret2
  exact ⟨rfl, rfl⟩

set_option maxRecDepth 20000 in
theorem nil_clone (id : Int) : Calls Try.prog 28 #[.pointer none, .int .i64 id] w fun e w' => e = .returned (.tuple #[.int .i64 0, .int .i64 1]) ∧ w = w' := by
  have HF := hid (nil_find w id)
  go_enter Try.func28, Try.ntmps28
  go_wp2_with (first
    | (go_at_call 63; refine HF.out.mono ?_; rintro e' w5 ⟨rfl, rfl⟩)
    | fail)
  go_ret2
  exact ⟨rfl, rfl⟩

set_option maxRecDepth 20000 in
theorem nil_index (id : Int) : Calls Try.prog 31 #[.pointer none, .int .i64 id] w fun e w' => e = .returned (.tuple #[.int .i64 0, .bool false]) ∧ w = w' := by
  have HF := hid (nil_find w id)
  go_enter Try.func31, Try.ntmps31
  go_wp2_with (first
    | (go_at_call 63; refine HF.out.mono ?_; rintro e' w5 ⟨rfl, rfl⟩)
    | fail)
  go_ret2
  exact ⟨rfl, rfl⟩

set_option maxRecDepth 20000 in
theorem nil_close (id : Int) : Calls Try.prog 27 #[.pointer none, .int .i64 id] w fun e w' => e = .returned (.bool false) ∧ w = w' := by
  have HF := hid (nil_find w id)
  go_enter Try.func27, Try.ntmps27
  go_wp2_with (first
    | (go_at_call 63; refine HF.out.mono ?_; rintro e' w5 ⟨rfl, rfl⟩)
    | fail)
  go_ret
  exact ⟨rfl, rfl⟩

set_option maxRecDepth 20000 in
theorem nil_seek (id k : Int) : Calls Try.prog 37 #[.pointer none, .int .i64 id, .int .i64 k] w fun e w' => e = .returned (.int .i64 1) ∧ w = w' := by
  have HF := hid (nil_find w id)
  go_enter Try.func37, Try.ntmps37
  go_wp2_with (first
    | (go_at_call 63; refine HF.out.mono ?_; rintro e' w5 ⟨rfl, rfl⟩)
    | fail)
  go_ret
  exact ⟨rfl, rfl⟩
theorem results_nil2 {P : Program} {fn : Func} {p u : Tmp} {ty : TypeId} (h : fn.results = #[.cell p ty, .tmp u]) (tmps : Array Value) (w : World) (g : Nat) (t : TypeId) (cs : Array Value) (fr : Nat × Nat) (d : TypeDesc)
    (hp : tmps.getD p undef = .pointer (some ⟨g, 0, none⟩)) (hg : w.heap[g]? = some (.cells cs t fr))
    (hu : P.underlying ty = some d) (hd : (match d with | .struct _ | .array _ _ => true | _ => false) = true) (hi : (P.info? ty).map (·.size) = some cs.size) :
    (results fn tmps).run P w = .ok (.tuple #[.agg cs, tmps.getD u undef]) w := by
  have hp' : tmps[p]?.getD undef = .pointer (some ⟨g, 0, none⟩) := by simpa using hp
  simp [results, h, hp', asAddr, run_loadVar_row w g t ty cs fr d hg hu hd hi]
set_option maxRecDepth 20000 in
theorem nil_next (id : Int) : Calls Try.prog 36 #[.pointer none, .int .i64 id] w fun e w' => e = .returned (.tuple #[.agg #[.int .u64 0, .slice none 0 0], .int .i64 1]) ∧ Nw w w' := by
  go_enter Try.func36, Try.ntmps36
  go_upto_region 1 with fail
  have y2 := heap_new w (.cells #[.int .u64 0, .slice none 0 0] 38)
  have hn := (Nw.refl w).alloc (.cells #[.int .u64 0, .slice none 0 0] 38)
  generalize w.alloc (.cells #[.int .u64 0, .slice none 0 0] 38) = wE at *
  have HF := hid (nil_find wE id)
  have d0 := heap_cell y2 0
  have d1 := heap_cell y2 1
  have f0 := heap_frozen y2 0
  have f1 := heap_frozen y2 1
  have g2 := lt_of_heap y2
  simp only [List.getElem?_toArray, List.getElem?_cons_succ, List.getElem?_cons_zero] at d0 d1
  obtain ⟨gE, hge⟩ : ∃ gE, gE = w.heap.size := ⟨_, rfl⟩
  rw [← hge] at y2 d0 d1 f0 f1 g2
  rw [← hge]
  have HG := hid hge
  clear hge
  go_wp2_with (first
    | (go_at_call 63; refine HF.out.mono ?_; rintro e' w5 ⟨rfl, rfl⟩)
    | fail)
  ((try simp only [Exit.inBlock, Exit.then]); refine bodyPost_ret (results_nil2 rfl _ _ _ _ _ _ _ rfl (heap_set (heap_set y2 0 (.int .u64 0)) 1 (.slice none 0 0)) Try.underlying38 rfl (by kernel_rfl)) rfl ?_)
  exact ⟨rfl, (hn.setCell (p := ⟨gE, 0, none⟩) (by rw [HG.out]; exact Nat.le_refl _) _).setCell (p := ⟨gE, 1, none⟩) (by rw [HG.out]; exact Nat.le_refl _) _⟩
end
set_option maxRecDepth 20000 in
set_option maxHeartbeats 1600000 in
theorem nil_walk (id k : Int) (w : World) : Calls Try.prog 13 #[.int .i64 id, .int .i64 k] w fun e w' => e = .returned (.bool true) ∧ Nw w w' := by
  go_enter Try.func13, Try.ntmps13
  go_upto_region 5 with (first
    | (go_at_call 26; refine (nil_open _).mono ?_; rintro e' w5 ⟨rfl, rfl⟩)
    | (go_at_call 28; refine (nil_clone _ _).mono ?_; rintro e' w5 ⟨rfl, rfl⟩)
    | (go_at_call 36; refine (nil_next _ _).mono ?_; rintro e' w1 ⟨rfl, hn1⟩)
    | fail)
  obtain ⟨x0, x1⟩ := box2 w1 (.int .u64 0) (.slice none 0 0) 38
  have hn2 := hn1.alloc (.cells #[.int .u64 0, .slice none 0 0] 38)
  have g2 := lt_alloc w1 (.cells #[.int .u64 0, .slice none 0 0] 38)
  generalize w1.alloc (.cells #[.int .u64 0, .slice none 0 0] 38) = w2 at *
  have HSM := hid (show Calls Try.prog 24 #[.agg #[.int .u64 0, .slice none 0 0], .agg #[.int .u64 0, .slice none 0 0]] w2 (Gives (.bool true) w2) by
    have := same_c (.slice none 0 0) (.slice none 0 0) 0 0 [] [] w2 (Sl.nil w2) (Sl.nil w2)
    rwa [decide_eq_true ⟨rfl, rfl⟩] at this)
  go_wp2_with (first
    | (go_at_call 31; refine (nil_index _ _).mono ?_; rintro e' w5 ⟨rfl, rfl⟩)
    | (go_at_call 39; refine (nil_names _).mono ?_; rintro e' w5 ⟨rfl, rfl⟩)
    | (go_at_call 24; refine HSM.out.mono ?_; rintro e' w6 ⟨rfl, hn6⟩)
    | (go_at_call 37; refine (nil_seek _ _ _).mono ?_; rintro e' w5 ⟨rfl, rfl⟩)
    | (go_at_call 27; refine (nil_close _ _).mono ?_; rintro e' w5 ⟨rfl, rfl⟩)
    | (go_at_call 29; refine (nil_count _).mono ?_; rintro e' w5 ⟨rfl, rfl⟩)
    | (go_at_call 30; refine (nil_cells _).mono ?_; rintro e' w5 ⟨rfl, rfl⟩)
    | (go_at_call 32; refine (nil_peak _).mono ?_; rintro e' w5 ⟨rfl, rfl⟩)
    | (go_at_call 33; refine (awake_c _).mono ?_; rintro e' w8 ⟨rfl, hn8⟩)
    | fail)
  go_ret
  exact ⟨rfl, (by repeat (first | assumption | exact Nw.refl _ | refine Nw.alloc ?_ _ | refine Nw.drew ?_ | refine Nw.drewN2 ?_ _ | (refine Nw.trans ?_ (by assumption))))⟩
end Hp
end Go.Proofs.Ytdihoedehmfgfaa
namespace Go.Proofs.Ytdihoedehmfgfaa
open Go.ChangeShapes Go.WideShapes Go.ChangeAt Go.RowKit
namespace Hp
open Go.Proofs.Ytdihoedehmfgfaa.Rec (none_ get i64s_open)
open Go.Proofs.Ytdihoedehmfgfaa.Sc (recP SI Ok place rec_in)
open Go.Proofs.Ytdihoedehmfgfaa.Tr (T Es tm ids)
open Go.Proofs.Ytdihoedehmfgfaa.Lg (headerP recsX)
/-- A head behind k records. -/
def stA (es : Es) (pl : Nat → Nat) (k : Nat) : HS := if k = 0 then hs0 (pl 0) else ⟨pl k, k, tm es (k - 1), ids es (k - 1), true⟩
theorem stA_succ (es : Es) (pl : Nat → Nat) (k : Nat) : stA es pl (k + 1) = ⟨pl (k + 1), (k : Int) + 1, tm es k, ids es k, true⟩ := by
  unfold stA; rw [if_neg (by omega)]; rfl
theorem stA_idx (es : Es) (pl : Nat → Nat) (k : Nat) : (stA es pl k).idx = k := by
  cases k with
  | zero => rfl
  | succ k => rw [stA_succ]; rfl
theorem stA_at (es : Es) (pl : Nat → Nat) (k : Nat) : (stA es pl k).at_ = pl k := by
  cases k with
  | zero => rfl
  | succ k => rw [stA_succ]
/-- What is told of a log: its events, where their records stand, the error behind them. -/
structure LogD (b : List UInt8) (r : Nat) (p : Int) (es : Es) (pl : Nat → Nat) (E : Int) : Prop where
  step : ∀ k, k < es.length → nxt b r p (stA es pl k) = (stA es pl (k + 1), 0)
  stop : nxt b r p (stA es pl es.length) = (stA es pl es.length, E)
  ne : E ≠ 0
theorem LogD.walk {b : List UInt8} {r : Nat} {p : Int} {es : Es} {pl : Nat → Nat} {E : Int} (h : LogD b r p es pl E) : ∀ k, k ≤ es.length → walk b r p k (stA es pl 0) = (stA es pl k, 0)
  | 0, _ => rfl
  | k + 1, hk => by
    rw [walk_snoc k _ _ (h.walk k (by omega))]
    exact h.step k (by omega)
theorem LogD.walk_end {b : List UInt8} {r : Nat} {p : Int} {es : Es} {pl : Nat → Nat} {E : Int} (h : LogD b r p es pl E) (k : Nat) (hk : es.length < k) : Hp.walk b r p k (stA es pl 0) = (stA es pl es.length, E) := by
  refine walk_stick (es.length + 1) k _ _ _ ?_ h.ne hk
  rw [walk_snoc es.length _ _ (h.walk es.length (Nat.le_refl _))]
  exact h.stop
/-- A step that a record gives. -/
theorem nxt_step {b : List UInt8} {r : Nat} {p : Int} {es : Es} {pl : Nat → Nat} {k : Nat} (h : recP b r (pl k : Int) p = ((tm es k, ids es k), (pl (k + 1) : Int), 0)) (ht : k = 0 ∨ ¬ tm es k < tm es (k - 1)) : nxt b r p (stA es pl k) = (stA es pl (k + 1), 0) := by
  unfold nxt
  rw [stA_at, h]
  dsimp only
  rw [if_neg (show ¬ ((0 : Int) ≠ 0) by decide), if_neg, stA_succ, stA_idx]
  rintro ⟨q1, q2⟩
  cases k with
  | zero => exact absurd (show false = true from q1) (by decide)
  | succ k =>
    rcases ht with z | z
    · cases z
    · rw [stA_succ] at q2; exact z q2
theorem nxt_stop {b : List UInt8} {r : Nat} {p : Int} {es : Es} {pl : Nat → Nat} {k : Nat} {x : Rec.Got} (h : recP b r (pl k : Int) p = x) (he : x.2.2 ≠ 0) : nxt b r p (stA es pl k) = (stA es pl k, x.2.2) := by
  unfold nxt
  rw [stA_at, h]
  obtain ⟨⟨t, l⟩, n, e⟩ := x
  dsimp only at he ⊢
  rw [if_pos he]
/-- A right log, all of it. -/
theorem enc_log {l : List ByteArray} {es : Es} {p : Int} (hf : Lg.Fine p [] es) (h0 : 0 ≤ p) (h1 : p ≤ 64) : LogD (headerP l ++ recsX es) (headerP l ++ recsX es).length p es (place l es) 13 := by
  refine ⟨fun k hk => nxt_step (rec_in hf h0 h1 hk (Sc.place_le hk)) ?_, ?_, by decide⟩
  · have := (hf k (Nat.zero_le _) hk).1
    rw [Lg.eOk_iff] at this
    exact this.2
  · have hlen : place l es es.length = (headerP l ++ recsX es).length := by unfold Sc.place; rw [List.take_length, List.length_append]
    refine nxt_stop (x := none_ 13) ?_ (by decide)
    unfold recP
    rw [if_neg (by omega), if_pos (by omega)]
/-! ### Next and Seek, seen from a law -/
section
variable {W w w' : World} {P : Nat → Prop} {c : Cf} {hs : List (Option HS)} {peak : Int} {N : Nat}
theorem HSt.more {M : Nat} (h : HSt W c hs peak N w) (hm : N ≤ M) : HSt W c hs peak M w := by
  obtain ⟨P, vh, rs, n, h1, h2, h3, h4⟩ := h
  exact ⟨P, vh, rs, n, h1, h2, by omega, h4⟩
theorem HSt.next (h : HSt W c hs peak N w) (hl : hs.length ≤ 90000) (hN : N ≤ 1000000000000) (id : Int) {hs' : List (Option HS)} {peak' t er : Int} {l : List Int} (he : nextP c.b c.r c.nm.length hs peak id = ((hs', peak'), ((t, l), er))) :
    Calls Try.prog 36 #[.pointer (some ⟨c.a, 0, none⟩), .int .i64 id] w fun e w' => ∃ v, e = .returned (.tuple #[.agg #[.int .u64 t, v], .int .i64 er]) ∧ Sl w' v (i64s l) ∧ HSt W c hs' peak' (N + 100) w' := by
  obtain ⟨P, vh, rs, n, h1, rfl, h3, h4, h5, h6⟩ := h
  refine (poolnext_c h1 id (by rw [← sts_length]; exact hl) (by omega)).mono ?_
  rintro e w1 ⟨v, rfl, hsl, hp⟩
  rw [he] at hp hsl ⊢
  exact ⟨v, rfl, hsl.sl, HSt.po (vh := vh) (rs := rs) (n := n) h4 h5 h6 (by
    obtain ⟨P', vh', rs', n', a1, a2, a3, a4, a5, a6⟩ := hp
    exact ⟨P', vh', rs', n', a1, a2, a3, a4, by omega, a6⟩)⟩
theorem HSt.seek (h : HSt W c hs peak N w) (hl : hs.length ≤ 90000) (hN : N + 100 * (c.b.length + 2) ≤ 1000000000000) (id k : Int) (hk : k ≤ 9223372036854775807) {hs' : List (Option HS)} {peak' er : Int} (he : seekP c.b c.r c.nm.length c.first hs peak id k = ((hs', peak'), er)) :
    Calls Try.prog 37 #[.pointer (some ⟨c.a, 0, none⟩), .int .i64 id, .int .i64 k] w fun e w' => e = .returned (.int .i64 er) ∧ HSt W c hs' peak' (N + 100 * (c.b.length + 2)) w' := by
  obtain ⟨P, vh, rs, n, h1, rfl, h3, h4, h5, h6⟩ := h
  refine (seek_c h1 id k (by rw [← sts_length]; exact hl) (by omega) hk).mono ?_
  rintro e w1 ⟨rfl, hp⟩
  rw [he] at hp ⊢
  exact ⟨rfl, HSt.po (vh := vh) (rs := rs) (n := n) h4 h5 h6 (by
    obtain ⟨P', vh', rs', n', a1, a2, a3, a4, a5, a6⟩ := hp
    exact ⟨P', vh', rs', n', a1, a2, a3, a4, by omega, a6⟩)⟩
/-! ### Blocks of the law's own are kept -/
def HSq (W : World) (K : Nat → Prop) (c : Cf) (hs : List (Option HS)) (peak : Int) (N : Nat) (w : World) : Prop :=
  ∃ P vh rs n, PI w P c vh rs peak n ∧ sts rs = hs ∧ n ≤ N ∧ (∀ k, P k → W.heap.size ≤ k) ∧ W.heap.size ≤ c.s ∧ Nw W w ∧ (∀ k, K k → ¬ P k ∧ k ≠ c.s ∧ k < w.heap.size)
theorem HSq.st {K : Nat → Prop} (h : HSq W K c hs peak N w) : HSt W c hs peak N w := by
  obtain ⟨P, vh, rs, n, h1, h2, h3, h4, h5, h6, _⟩ := h
  exact ⟨P, vh, rs, n, h1, h2, h3, h4, h5, h6⟩
theorem HSt.q (h : HSt W c hs peak N w) : HSq W (fun _ => False) c hs peak N w := by
  obtain ⟨P, vh, rs, n, h1, h2, h3, h4, h5, h6⟩ := h
  exact ⟨P, vh, rs, n, h1, h2, h3, h4, h5, h6, fun k q => q.elim⟩
theorem HSq.nw {K : Nat → Prop} (h : HSq W K c hs peak N w) (hn : Nw w w') : HSq W K c hs peak N w' := by
  obtain ⟨P, vh, rs, n, h1, h2, h3, h4, h5, h6, h7⟩ := h
  exact ⟨P, vh, rs, n, h1.nw hn, h2, h3, h4, h5, h6.trans hn, fun k q => ⟨(h7 k q).1, (h7 k q).2.1, Nat.lt_of_lt_of_le (h7 k q).2.2 hn.size⟩⟩
/-- A new block is kept besides. -/
theorem HSq.keep {K : Nat → Prop} (h : HSq W K c hs peak N w) (hn : Nw w w') (g : Nat) (hg : w.heap.size ≤ g) (hg2 : g < w'.heap.size) : HSq W (fun k => K k ∨ k = g) c hs peak N w' := by
  obtain ⟨P, vh, rs, n, h1, h2, h3, h4, h5, h6, h7⟩ := h
  refine ⟨P, vh, rs, n, h1.nw hn, h2, h3, h4, h5, h6.trans hn, fun k q => ?_⟩
  rcases q with q | rfl
  · exact ⟨(h7 k q).1, (h7 k q).2.1, Nat.lt_of_lt_of_le (h7 k q).2.2 hn.size⟩
  · have := h1.src.lt
    exact ⟨fun q => by have := (h1.low _ q).2; omega, by omega, hg2⟩
theorem HSq.base {K : Nat → Prop} (h : HSq W K c hs peak N w) : Nw W w := h.st.base
theorem HSq.less {K K' : Nat → Prop} (h : HSq W K c hs peak N w) (hk : ∀ k, K' k → K k) : HSq W K' c hs peak N w := by
  obtain ⟨P, vh, rs, n, h1, h2, h3, h4, h5, h6, h7⟩ := h
  exact ⟨P, vh, rs, n, h1, h2, h3, h4, h5, h6, fun k q => h7 k (hk k q)⟩
theorem HSq.more {K : Nat → Prop} {M : Nat} (h : HSq W K c hs peak N w) (hm : N ≤ M) : HSq W K c hs peak M w := by
  obtain ⟨P, vh, rs, n, h1, h2, h3, h4⟩ := h
  exact ⟨P, vh, rs, n, h1, h2, by omega, h4⟩
theorem HSq.po {K : Nat → Prop} {hs' : List (Option HS)} {peak' : Int} {M : Nat} (hP : ∀ k, P k → W.heap.size ≤ k) (hs : W.heap.size ≤ c.s) (hw : Nw W w) (hK : ∀ k, K k → ¬ P k ∧ k ≠ c.s ∧ k < w.heap.size) (h : PO w P c hs' peak' M w') : HSq W K c hs' peak' M w' ∧ Mods (fun k => ¬ K k) w w' := by
  obtain ⟨P', vh', rs', n', h1, h2, h3, h4, h5, h6⟩ := h
  refine ⟨⟨P', vh', rs', n', h3, h4, h5, fun k q => ?_, hs, hw.ofMods h6 (fun k q => ?_), fun k q => ⟨fun z => ?_, (hK k q).2.1, Nat.lt_of_lt_of_le (hK k q).2.2 h6.size⟩⟩, h6.mono (fun k q z => ?_)⟩
  · rcases h2 k q with z | z
    · exact hP k z
    · exact Nat.le_trans hw.size z
  · rcases q with z | rfl
    · exact hP k z
    · exact hs
  · rcases h2 k z with y | y
    · exact (hK k q).1 y
    · have := (hK k q).2.2; omega
  · rcases q with y | y
    · exact (hK k z).1 y
    · exact (hK k z).2.1 y
theorem HSq.next {K : Nat → Prop} (h : HSq W K c hs peak N w) (hl : hs.length ≤ 90000) (hN : N ≤ 1000000000000) (id : Int) {hs' : List (Option HS)} {peak' t er : Int} {l : List Int} (he : nextP c.b c.r c.nm.length hs peak id = ((hs', peak'), ((t, l), er))) :
    Calls Try.prog 36 #[.pointer (some ⟨c.a, 0, none⟩), .int .i64 id] w fun e w' => ∃ v, e = .returned (.tuple #[.agg #[.int .u64 t, v], .int .i64 er]) ∧ Sl w' v (i64s l) ∧ HSq W K c hs' peak' (N + 100) w' ∧ Mods (fun k => ¬ K k) w w' := by
  obtain ⟨P, vh, rs, n, h1, rfl, h3, h4, h5, h6, h7⟩ := h
  refine (poolnext_c h1 id (by rw [← sts_length]; exact hl) (by omega)).mono ?_
  rintro e w1 ⟨v, rfl, hsl, hp⟩
  rw [he] at hp hsl ⊢
  have := HSq.po (M := N + 100) h4 h5 h6 h7 (by
    obtain ⟨P', vh', rs', n', a1, a2, a3, a4, a5, a6⟩ := hp
    exact ⟨P', vh', rs', n', a1, a2, a3, a4, by omega, a6⟩)
  exact ⟨v, rfl, hsl.sl, this.1, this.2⟩
theorem HSq.nextO {K : Nat → Prop} (h : HSq W K c hs peak N w) (hl : hs.length ≤ 90000) (hN : N ≤ 1000000000000) (id : Int) {hs' : List (Option HS)} {peak' t er : Int} {l : List Int} (he : nextP c.b c.r c.nm.length hs peak id = ((hs', peak'), ((t, l), er))) :
    Calls Try.prog 36 #[.pointer (some ⟨c.a, 0, none⟩), .int .i64 id] w fun e w' => ∃ v, e = .returned (.tuple #[.agg #[.int .u64 t, v], .int .i64 er]) ∧ Own w' w.heap.size 3 v (i64s l) ∧ HSq W K c hs' peak' (N + 100) w' ∧ Mods (fun k => ¬ K k) w w' := by
  obtain ⟨P, vh, rs, n, h1, rfl, h3, h4, h5, h6, h7⟩ := h
  refine (poolnext_c h1 id (by rw [← sts_length]; exact hl) (by omega)).mono ?_
  rintro e w1 ⟨v, rfl, hsl, hp⟩
  rw [he] at hp hsl ⊢
  have := HSq.po (M := N + 100) h4 h5 h6 h7 (by
    obtain ⟨P', vh', rs', n', a1, a2, a3, a4, a5, a6⟩ := hp
    exact ⟨P', vh', rs', n', a1, a2, a3, a4, by omega, a6⟩)
  exact ⟨v, rfl, hsl, this.1, this.2⟩
theorem HSq.seek {K : Nat → Prop} (h : HSq W K c hs peak N w) (hl : hs.length ≤ 90000) (hN : N + 100 * (c.b.length + 2) ≤ 1000000000000) (id k : Int) (hk : k ≤ 9223372036854775807) {hs' : List (Option HS)} {peak' er : Int} (he : seekP c.b c.r c.nm.length c.first hs peak id k = ((hs', peak'), er)) :
    Calls Try.prog 37 #[.pointer (some ⟨c.a, 0, none⟩), .int .i64 id, .int .i64 k] w fun e w' => e = .returned (.int .i64 er) ∧ HSq W K c hs' peak' (N + 100 * (c.b.length + 2)) w' ∧ Mods (fun k => ¬ K k) w w' := by
  obtain ⟨P, vh, rs, n, h1, rfl, h3, h4, h5, h6, h7⟩ := h
  refine (seek_c h1 id k (by rw [← sts_length]; exact hl) (by omega) hk).mono ?_
  rintro e w1 ⟨rfl, hp⟩
  rw [he] at hp ⊢
  have := HSq.po (M := N + 100 * (c.b.length + 2)) h4 h5 h6 h7 (by
    obtain ⟨P', vh', rs', n', a1, a2, a3, a4, a5, a6⟩ := hp
    exact ⟨P', vh', rs', n', a1, a2, a3, a4, by omega, a6⟩)
  exact ⟨rfl, this.1, this.2⟩
end
end Hp
end Go.Proofs.Ytdihoedehmfgfaa
namespace Go.Proofs.Ytdihoedehmfgfaa
open Go.ChangeShapes Go.WideShapes Go.ChangeAt Go.RowKit
namespace Hp
/-- A call: what, of which head, a place. -/
structure Ha where
  m : Int
  id : Int
  k : Int
def noHa : Ha := ⟨0, 0, 0⟩
def ha (l : List Ha) (i : Nat) : Ha := l.getD i noHa
structure HaOk (x : Ha) : Prop where
  m : 0 ≤ x.m ∧ x.m ≤ 255
  id : -9223372036854775808 ≤ x.id ∧ x.id ≤ 9223372036854775807
  k : -9223372036854775808 ≤ x.k ∧ x.k ≤ 9223372036854775807
def HaC (w : World) (p : Option Addr) (l : List Ha) : Prop := ∀ i, i < l.length → ∃ (b off : Nat), p = some ⟨b, off, none⟩ ∧ HaOk (ha l i) ∧ w.cell? ⟨b, off + i * 3, none⟩ = some (.int .u8 (ha l i).m) ∧ w.cell? ⟨b, off + i * 3 + 1, none⟩ = some (.int .i64 (ha l i).id) ∧ w.cell? ⟨b, off + i * 3 + 2, none⟩ = some (.int .i64 (ha l i).k)
def Has (w : World) (v : Value) (l : List Ha) : Prop := ∃ p cap, v = .slice p l.length cap ∧ l.length ≤ cap ∧ cap ≤ maxLen ∧ (p = none → cap = 0) ∧ HaC w p l
section
variable {H : Type} {enc : TypeId × Value → H} {P : Program}
theorem open_hacts {t e : TypeId} {f0 f1 f2 : Field} {W : World} {base : Nat} {v : Value} {d : DataW H} {p : List MemPlace} (ht : P.underlying t = some (.slice e)) (he : P.underlying e = some (.struct #[f0, f1, f2]))
    (ce : P.cellsOf e = 3) (o0 : f0.offset = 0) (o1 : f1.offset = 1) (o2 : f2.offset = 2) (c0 : P.cellsOf f0.type = 1) (c1 : P.cellsOf f1.type = 1) (c2 : P.cellsOf f2.type = 1)
    (h0 : P.underlying f0.type = some (.int .u8)) (h1 : P.underlying f1.type = some (.int .i64)) (h2 : P.underlying f2.type = some (.int .i64))
    (hval : Value.okWide P W .any base t v) (hj : DataW.Trod enc P W 0 (fun _ => true) true t v d p) : ∃ l : List Ha, Has W v l := by
  obtain ⟨a0, len, cap, rfl⟩ := okWide_slice ht hval
  obtain ⟨fuel, hf⟩ := hj
  simp only [Value.cells] at hf
  rcases Deep.open_slice ht hf with ⟨hcs, hx⟩ | ⟨a, len', cap', m, n, D, Pl, hcs, hb, hl, hm, hmm, hx, hel⟩
  · simp at hcs
    obtain ⟨rfl, rfl, rfl⟩ := hcs
    exact ⟨[], none, 0, rfl, Nat.le_refl _, Nat.zero_le _, fun _ => rfl, fun i hi => by cases hi⟩
  · simp at hcs
    obtain ⟨rfl, rfl, rfl⟩ := hcs
    simp only [if_true] at hmm
    subst hmm
    have each : ∀ i, i < len → ∃ x : Ha, HaOk x ∧ W.cell? (a.add (i * 3)) = some (.int .u8 x.m) ∧ W.cell? (a.add (i * 3 + 1)) = some (.int .i64 x.id) ∧ W.cell? (a.add (i * 3 + 2)) = some (.int .i64 x.k) := by
      intro i hi
      obtain ⟨cs', k1, k2⟩ := hel i (by omega)
      rw [ce] at k1
      obtain ⟨_, hlen, hcell⟩ := World.cells?_some k1
      obtain ⟨xs, k, hk, hxy, _, hxl, hg⟩ := DataW.trod_struct he k2
      match xs, hxl, cs', hlen with
      | [y0, y1, y2], _, [v0, v1, v2], _ =>
        have g0 := hg 0 f0 rfl
        have g1 := hg 1 f1 rfl
        have g2 := hg 2 f2 rfl
        simp [o0, o1, o2, c0, c1, c2] at g0 g1 g2
        have e0 := hcell 0 (by omega)
        have e1 := hcell 1 (by omega)
        have e2 := hcell 2 (by omega)
        rw [Deep.add_add] at e0 e1 e2
        obtain ⟨z0, hz0, _, hw0⟩ := DataW.trod_int h0 g0
        obtain ⟨z1, hz1, _, hw1⟩ := DataW.trod_int h1 g1
        obtain ⟨z2, hz2, _, hw2⟩ := DataW.trod_int h2 g2
        have b0 := bounds_u8 hw0
        have b1 := bounds_i64 hw1
        have b2 := bounds_i64 hw2
        simp at hz0 hz1 hz2
        refine ⟨⟨z0, z1, z2⟩, ⟨b0, b1, b2⟩, ?_, ?_, ?_⟩
        · rw [← hz0]; simpa using e0
        · rw [← hz1]; simpa using e1
        · rw [← hz2]; simpa using e2
    have : ∃ l : List Ha, l.length = len ∧ ∀ i, i < len → HaOk (ha l i) ∧ W.cell? (a.add (i * 3)) = some (.int .u8 (ha l i).m) ∧ W.cell? (a.add (i * 3 + 1)) = some (.int .i64 (ha l i).id) ∧ W.cell? (a.add (i * 3 + 2)) = some (.int .i64 (ha l i).k) := by
      haveI : Inhabited Ha := ⟨noHa⟩
      obtain ⟨g, hg⟩ := Deep.choose_lt each
      refine ⟨(List.range len).map g, by simp, fun i hi => ?_⟩
      have e : ha ((List.range len).map g) i = g i := by simp [ha, hi]
      rw [e]
      exact hg i hi
    obtain ⟨l, hll, hal⟩ := this
    subst hll
    refine ⟨l, some a, m, rfl, hl, hm, (fun h => by cases h), fun i hi => ?_⟩
    obtain ⟨k0, k1, k2, k3⟩ := hal i hi
    obtain ⟨_, z, _⟩ := hal 0 (by omega)
    have ea := addr_add_of_cell (w := W) (a := a) (v := .int .u8 (ha l 0).m) (by simpa using z)
    rw [ea] at k1 k2 k3
    rw [addr_add] at k1 k2 k3
    exact ⟨a.block, a.off, by rw [← ea], k0, k1, k2, k3⟩
end
end Hp
end Go.Proofs.Ytdihoedehmfgfaa
