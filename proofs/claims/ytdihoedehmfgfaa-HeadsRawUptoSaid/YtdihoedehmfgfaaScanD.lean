/- The contract of scan.Head. No condition but lengths. -/
import Derived.Test.YtdihoedehmfgfaaScanC
import Derived.Test.YtdihoedehmfgfaaLogE
set_option linter.unusedSimpArgs false
set_option linter.unusedVariables false
namespace Go.Proofs.Ytdihoedehmfgfaa
open Go.ChangeShapes Go.WideShapes Go.ChangeAt Go.RowKit
theorem row_ne {w : World} {B B' : Nat} {e e' : TypeId} {v u : Value} {xs ys : List Value} (h : Own w B e v xs) (h' : Own w B' e' u ys) (he : e ≠ e') : ∀ k, v.ownBlock = some k → u.ownBlock ≠ some k := by
  intro k hk hu
  obtain ⟨_, h2⟩ := h
  obtain ⟨_, h3⟩ := h'
  rcases h2 with ⟨rfl, _⟩ | ⟨g, cap, cur, rfl, _, hh, _⟩
  · cases hk
  · rcases h3 with ⟨rfl, _⟩ | ⟨g', cap', cur', rfl, _, hh', _⟩
    · cases hu
    · cases hk
      cases hu
      rw [hh] at hh'
      injection hh' with q
      injection q with _ q2 _
      exact he q2
theorem own_at2 {w : World} {B : Nat} {e : TypeId} {v : Value} {xs : List Value} {n : Nat} (h : Own w B e v xs) (hn : xs.length = n) (h0 : 0 < n) : ∃ g cap, v = .slice (some ⟨g, 0, none⟩) n cap ∧ B ≤ g ∧ n ≤ cap ∧ cap ≤ maxLen ∧ Cells w (some ⟨g, 0, none⟩) xs := by
  subst hn
  obtain ⟨g, cap, h1, h2, h3, h4⟩ := h.opened h0
  subst h1
  obtain ⟨_, _, e, _, _, _, hc⟩ := h.sl
  cases e
  exact ⟨g, cap, rfl, h2, h3, h4, hc⟩
theorem Mods.absorb {S T : Nat → Prop} {w w1 w2 : World} (h : Mods S w w1) (h2 : Mods T w1 w2) (hT : ∀ j, T j → S j ∨ w.heap.size ≤ j) : Mods S w w2 :=
  ⟨h2.os.trans h.os, h2.tape.trans h.tape, h2.output.trans h.output, Nat.le_trans h.size h2.size, fun k hk hs => (h2.block k (Nat.lt_of_lt_of_le hk h.size) (fun q => by
    rcases hT k q with z | z
    · exact hs z
    · omega)).trans (h.block k hk hs)⟩
namespace Sc
open Go.Proofs.Ytdihoedehmfgfaa.Lx (isIn nameB strs_open strs_cell)
open Go.Proofs.Ytdihoedehmfgfaa.Sum (byte put right Hands8 HandsR)
open Go.Proofs.Ytdihoedehmfgfaa.Tr (namesP nmB nOk namesTo nm_c strs_one info_str lt_alloc)
open Go.Proofs.Ytdihoedehmfgfaa.Lg (Hd noHd headR finR rgo sz sz_lt cutS cutS_size str mark mark_eq mark_ne headE strs_snoc bcell headR_fin rgo_1 rgo_2 rgo_3 rgo_4 rgo_5 finR_0 HandsHd)
/-- What a header lacks that ends. -/
def miss (b : List UInt8) (r : Nat) : Int := if r < b.length then 10 else 5
theorem miss_ne (b : List UInt8) (r : Nat) : miss b r ≠ 0 := by unfold miss; split <;> decide
theorem hd_ok {b : List UInt8} {r i k : Nat} (h : i + k ≤ r) : rd b r i (k : Int) = (((b.take r).drop i).take k, 0) := rd_full k rfl h
theorem hd_err {b : List UInt8} {r i k : Nat} (hr : r ≤ b.length) (hi : i ≤ r) (h : ¬ i + k ≤ r) : ∃ xs y, rd b r i (k : Int) = (xs, y) ∧ (y = 10 ∨ y = 13) ∧ (if y = 10 then (10 : Int) else 5) = miss b r := by
  unfold rd miss
  rw [if_neg (by omega)]
  by_cases q : r < b.length
  · exact ⟨_, 10, by rw [if_pos ⟨q, by omega⟩], Or.inl rfl, by rw [if_pos q]; rfl⟩
  · exact ⟨_, 13, by rw [if_neg (fun h => q h.1)], Or.inr rfl, by rw [if_neg q]; rfl⟩
/-- A call hands back names, a place and an error; the source has gone on. -/
def HandsHs (w : World) (B a : Nat) (b : List UInt8) (sc : List Int) (r n : Nat) (x : Hd) (e : Ending) (w' : World) : Prop :=
  ∃ v n', e = .returned (.tuple #[v, .int .i64 x.2.1, .int .i64 x.2.2]) ∧ Sl w' v (Lx.strs x.1) ∧ SI w' B a b sc r n' ∧ n' ≤ n + 2000 ∧ Mods (· = a) w w'
/-- The same, where the names' row is the call's own. -/
def HandsHo (w : World) (B a : Nat) (b : List UInt8) (sc : List Int) (r n : Nat) (x : Hd) (e : Ending) (w' : World) : Prop :=
  ∃ v n', e = .returned (.tuple #[v, .int .i64 x.2.1, .int .i64 x.2.2]) ∧ Own w' w.heap.size 9 v (Lx.strs x.1) ∧ SI w' B a b sc r n' ∧ n' ≤ n + 2000 ∧ Mods (· = a) w w'
/-- What holds between a header's parts. -/
structure HdL (w wr : World) (B a g : Nat) (b : List UInt8) (sc : List Int) (r : Nat) (acc : List UInt8) (e : Int) (vb : Value) (n : Nat) (vn : Value) (l : List ByteArray) (v0 : Value) (x0 : List UInt8) : Prop where
  st : HSt wr B a g b sc r acc e vb n
  nm : Own wr (g + 1) 9 vn (Lx.strs l)
  b0 : Own wr (g + 1) 5 v0 (u8s x0)
  ap : ∀ j, vb.ownBlock = some j → v0.ownBlock ≠ some j
  md : Mods (· = a) w wr
  lo : w.heap.size ≤ g
section
variable {w wr w' : World} {B a g : Nat} {b : List UInt8} {sc : List Int} {r : Nat} {acc acc' : List UInt8} {e e' : Int} {vb vb' : Value} {n n' : Nat} {vn vn' : Value} {l l' : List ByteArray} {v0 : Value} {x0 : List UInt8}
theorem HdL.other (h : HdL w wr B a g b sc r acc e vb n vn l v0 x0) {T : Nat → Prop} (hm : Mods T wr w') (hT : ∀ j, T j → j = a ∨ j = g ∨ vb.ownBlock = some j) (hs : HSt w' B a g b sc r acc' e' vb' n') (hap : ∀ j, vb'.ownBlock = some j → vb.ownBlock = some j ∨ wr.heap.size ≤ j) : HdL w w' B a g b sc r acc' e' vb' n' vn l v0 x0 := by
  have hag := hs.2.2.2
  refine ⟨hs, Own.modsR h.nm hm ?_, Own.modsR h.b0 hm ?_, ?_, h.md.absorb hm ?_, h.lo⟩
  · intro k hk q
    have h1 := (World.ownsRow.lt h.nm k hk).1
    rcases hT k q with z | z | z
    · omega
    · omega
    · exact row_ne h.st.2.1 h.nm (by decide) k z hk
  · intro k hk q
    have h1 := (World.ownsRow.lt h.b0 k hk).1
    rcases hT k q with z | z | z
    · omega
    · omega
    · exact h.ap k z hk
  · intro j hj hq
    rcases hap j hj with z | z
    · exact h.ap j z hq
    · have h1 := (World.ownsRow.lt h.b0 j hq).2
      omega
  · intro j hj
    have hlo := h.lo
    rcases hT j hj with z | z | z
    · exact Or.inl z
    · right; omega
    · right
      have h1 := (World.ownsRow.lt h.st.2.1 j z).1
      omega
theorem HdL.app (h : HdL w wr B a g b sc r acc e vb n vn l v0 x0) (hg : wr.grownBy w' vn.ownBlock) (ho : Own w' (g + 1) 9 vn' (Lx.strs l')) : HdL w w' B a g b sc r acc e vb n vn' l' v0 x0 := by
  have hm : Mods (fun j => vn.ownBlock = some j) wr w' := ⟨hg.os, hg.tape, hg.output, hg.size, fun q hq hs => hg.block q hq (fun e => hs e.symm)⟩
  have hlt := fun j hj => (World.ownsRow.lt h.nm j hj).1
  have hlo := h.lo
  refine ⟨h.st.mods hm (fun k hk => by have := hlt k hk; omega) (fun k hk q => row_ne h.st.2.1 h.nm (by decide) k hk q), ho, Own.modsR h.b0 hm (fun k hk q => row_ne h.b0 h.nm (by decide) k hk q), h.ap, h.md.absorb hm (fun j hj => Or.inr (by have := hlt j hj; omega)), hlo⟩
theorem HdL.nw (h : HdL w wr B a g b sc r acc e vb n vn l v0 x0) (hn : Nw wr w') : HdL w w' B a g b sc r acc e vb n vn l v0 x0 :=
  ⟨h.st.nw hn, h.nm.nw hn, h.b0.nw hn, h.ap, h.md.nw hn, h.lo⟩
end
set_option maxRecDepth 20000 in
set_option maxHeartbeats 3200000 in
theorem head_o (B a : Nat) (b : List UInt8) (sc : List Int) (r n : Nat) (w : World) (h : SI w B a b sc r n) (ok : Ok b sc r) (hn : n ≤ 10000000000000) :
    Calls Try.prog 22 #[.pointer (some ⟨a, 0, none⟩)] w (HandsHo w B a b sc r n (headR (b.take r) (miss b r))) := by
  have hrl := ok.le
  have hbl := ok.len
  have hal := h.lt
  have hcl : (b.take r).length = r := by rw [List.length_take]; omega
  have hmn := miss_ne b r
  have hag : a < w.heap.size := hal
  generalize hX : headR (b.take r) (miss b r) = X
  have HX := hid hX
  clear hX
  go_enter Try.func22, Try.ntmps22
  go_upto_region 4 with fail
  have hst : HSt (w.alloc (.cells #[.pointer (some ⟨a, 0, none⟩), .slice none 0 0, .int .i64 0] 94)) B a w.heap.size b sc r [] 0 (.slice none 0 0) n := ⟨heap_new _ _, Own.nil _ _ _, h.nw ((Nw.refl w).alloc _), hal⟩
  have hn0 := (Nw.refl w).alloc (.cells #[.pointer (some ⟨a, 0, none⟩), .slice none 0 0, .int .i64 0] 94)
  clear h hal
  generalize w.alloc (.cells #[.pointer (some ⟨a, 0, none⟩), .slice none 0 0, .int .i64 0] 94) = w1 at *
  generalize hg : w.heap.size = g at *
  have hgw : w.heap.size ≤ g := by omega
  clear hg
  by_cases h5 : r < 5
  · obtain ⟨xs, y, hrd, hy, hmy⟩ := hd_err (b := b) (r := r) (i := 0) (k := 5) hrl (by omega) (by omega)
    have HPE := hid (part_err B a g b sc r [] xs _ n 5 y w1 hst ok (by omega) (by simp) (by omega) hrd hy)
    rw [hmy] at HPE
    have HF := hid (HX.out.symm.trans (show headR (b.take r) (miss b r) = noHd (miss b r) by unfold Lg.headR; rw [if_pos (by omega)]))
    clear hst hrd hy hmy HX
    generalize miss b r = e at *
    have hacl : ([] : List UInt8).length ≤ 1000000000 := by simp
    have hde : (e != 0) = true := by simpa using hmn
    have hde0 : (e == 0) = false := beq_eq_false_iff_ne.2 hmn
    have he := hmn
    go_upto_region 5 with (first
      | (go_at_call 53; refine HPE.out.mono ?_; rintro e' w2 ⟨rfl, ⟨n2, hn2, hst2⟩, hm2⟩)
      | fail)
    have hL : HdL w w2 B a g b sc r [] e (.slice none 0 0) n2 (.slice none 0 0) [] (.slice none 0 0) [] := ⟨hst2, Own.nil _ _ _, Own.nil _ _ _, (fun j hj => by cases hj), (hn0.mods (· = a)).absorb hm2 (fun j hj => by rcases hj with z | z; exact Or.inl z; exact Or.inr (by omega)), hgw⟩
    have HWN := hid (want_no B a g b sc r _ _ _ _ false w2 hst2 (Or.inl he))
    have d0 := heap_cell hL.st.1 0
    have d1 := heap_cell hL.st.1 1
    have d2 := heap_cell hL.st.1 2
    have gl := hL.st.lt
    simp only [List.getElem?_toArray, List.getElem?_cons_succ, List.getElem?_cons_zero] at d0 d1 d2
    clear hst2 hm2 HPE
    go_upto_region 6 with (first
      | (go_at_call 54; refine HWN.out.mono ?_; rintro e' w' ⟨rfl, rfl⟩)
      | fail)
    clear d0 d1 d2 gl
    -- the loop is not entered: w2: the world; hL, he, hde, hde0, HF
    go_wp2
    go_loopw [7, 8, 9] (fun vn _ _ wr => vn = .slice none 0 0 ∧ wr = w2) (fun _ _ _ _ => 0)
    case atStart => exact ⟨rfl, rfl⟩
    case round =>
      obtain ⟨rfl, rfl⟩ := hrel
      have d0 := heap_cell hL.st.1 0
      have d1 := heap_cell hL.st.1 1
      have d2 := heap_cell hL.st.1 2
      have gl := hL.st.lt
      simp only [List.getElem?_toArray, List.getElem?_cons_succ, List.getElem?_cons_zero] at d0 d1 d2
      go_upto_region 14 with fail
      clear d0 d1 d2 gl
      -- wr: the world; hL : HdL w wr .. with an error e (he, hde, hde0); HF
      have d0 := heap_cell hL.st.1 0
      have d1 := heap_cell hL.st.1 1
      have d2 := heap_cell hL.st.1 2
      have gl := hL.st.lt
      simp only [List.getElem?_toArray, List.getElem?_cons_succ, List.getElem?_cons_zero] at d0 d1 d2
      have HN4 := hid (part_no B a g b sc r _ _ _ _ 4 wr hL.st he)
      go_upto_region 15 with (first
        | (go_at_call 53; refine HN4.out.mono ?_; rintro e' w' ⟨rfl, rfl⟩)
        | fail)
      clear d0 d1 d2 gl HN4
      -- behind the last part: wr: the world; ([] : List UInt8): the bytes; hL : HdL w wr .. with an error e (he, hde, hde0); HF; hacl; hnN
      have d0 := heap_cell hL.st.1 0
      have d1 := heap_cell hL.st.1 1
      have d2 := heap_cell hL.st.1 2
      have gl := hL.st.lt
      simp only [List.getElem?_toArray, List.getElem?_cons_succ, List.getElem?_cons_zero] at d0 d1 d2
      have HRI := hid (fun w' (h : Nw wr w') => Sum.right_c _ ([] : List UInt8) w' (Bytes.nw (show Bytes wr _ ([] : List UInt8) from hL.st.2.1.sl) h) (Nat.le_trans hacl (by decide)))
      have HWN := hid (fun q w' (h : Nw wr w') => want_no B a g b sc r _ _ _ _ q w' (hL.st.nw h) (Or.inl he))
      have hsiR := hL.st.2.2.1
      have hmdR := hL.md
      clear hL
      go_upto_region 18 with (first
        | (go_at_call 57; refine (HRI.out _ (by repeat (first | assumption | exact Nw.refl _ | refine Nw.alloc ?_ _ | refine Nw.drew ?_ | refine Nw.drewN2 ?_ _ | (refine Nw.trans ?_ (by assumption))))).mono ?_; rintro e' w2 ⟨v2, rfl, hb2, hn2⟩; obtain ⟨p2, c2, rfl, _⟩ := hb2.open; clear hb2; replace d0 := hn2.cell d0; replace d1 := hn2.cell d1; replace d2 := hn2.cell d2; replace gl := Nat.lt_of_lt_of_le gl hn2.size)
        | (go_at_call 54; refine (HWN.out _ _ (by repeat (first | assumption | exact Nw.refl _ | refine Nw.alloc ?_ _ | refine Nw.drew ?_ | refine Nw.drewN2 ?_ _ | (refine Nw.trans ?_ (by assumption))))).mono ?_; rintro e' w' ⟨rfl, rfl⟩)
        | fail)
      refine wp_region_stairs (by kernel_rfl) (by kernel_rfl) (by kernel_rfl) ?_
      iterate 7
        refine Stairs.is ?_ ?_ ?_
        rotate_left 1
        · intro x wR hR hd K hK
          simp only [Act.put, List.setIfInBounds_toArray, List.set_cons_zero, List.set_cons_succ, Nat.reduceAdd, List.length_nil, List.length_cons, List.nil_append, List.cons_append, Say.ok] at hK ⊢
          clear hd
          change Hid _ at hK
          obtain ⟨hcR, hfR, hzR⟩ := nwc hR
          first | (refine wanted_yes ?_ ?_; rfl) | (refine wanted_no ?_ ?_; rfl)
          go_wp2_with (first | fail)
          all_goals (refine hK.out _ _ ?_ ?_ <;> first | (solve | (repeat (first | assumption | exact Nw.refl _ | refine Nw.alloc ?_ _ | refine Nw.drew ?_ | refine Nw.drewN2 ?_ _ | (refine Nw.trans ?_ (by assumption))))) | exact rfl)
        try simp only [Act.put, List.setIfInBounds_toArray, List.set_cons_zero, List.set_cons_succ, Nat.reduceAdd, List.length_nil, List.length_cons, List.nil_append, List.cons_append]
      refine Stairs.nil ?_
      intro x wR hR hx
      clear hx
      obtain ⟨hcR, hfR, hzR⟩ := nwc hR
      go_wp2
      go_ret3
      exact ⟨_, _, by rw [HF.out]; rfl, by rw [HF.out]; exact Own.nil _ _ _, (hsiR.nw hn2).nw hR, by omega, (hmdR.nw hn2).nw hR⟩
  · have hrd0 := hd_ok (b := b) (r := r) (i := 0) (k := 5) (by omega)
    rw [List.drop_zero] at hrd0
    have HOK := hid (fun i k (h : i + k ≤ r) => hd_ok (b := b) h)
    have HER := hid (fun i k (hi : i ≤ r) (h : ¬ i + k ≤ r) => hd_err (b := b) hrl hi h)
    have HPO := hid (part_ok B a g b sc r [] ((b.take r).take 5) _ n 5 w1 hst ok (by omega) (by simp) (by omega) hrd0)
    have HM := hid (show ∀ y : Int, (if y = 10 then (10 : Int) else 5) = miss b r → (if y = 10 then (10 : Int) else 5) = miss b r from fun _ h => h)
    clear hrd0
    generalize miss b r = mm at *
    generalize b.take r = c at *
    have hlo1 : g + 1 ≤ w1.heap.size := hst.lt
    clear hst
    go_upto_region 5 with (first
      | (go_at_call 53; refine HPO.out.mono ?_; rintro e' w2 ⟨v0, vb, n2, rfl, hown0, hst2, hn2, hap2, hm2⟩; rw [List.nil_append] at hst2; obtain ⟨g0, c0, rfl, hg0, hc0, hx0, hcs0⟩ := own_at2 hown0 (n := 5) (by rw [u8s_length, List.length_take]; omega) (by omega))
      | fail)
    have hL : HdL w w2 B a g b sc r (c.take 5) 0 vb n2 (.slice none 0 0) [] (.slice (some ⟨g0, 0, none⟩) 5 c0) (c.take 5) := ⟨hst2, Own.nil _ _ _, Own.mono hown0 hlo1, fun j hj => (hap2 j hj).2, (hn0.mods (· = a)).absorb hm2 (fun j hj => by rcases hj with z | z | z; exact Or.inl z; exact Or.inr (by omega); cases z), hgw⟩
    have q4 := bcell hcs0 4 (by rw [List.length_take]; omega)
    have hz4 : sz (c.take 5) 4 = sz c 4 := by
      unfold Lg.sz
      simp only [List.getD_eq_getElem?_getD]
      rw [List.getElem?_take_of_lt (by omega)]
    rw [hz4, Nat.zero_add] at q4
    have hs4 : (convert 22 9 (.slice (some ⟨g0, 0, none⟩) 4 c0)).run Try.prog w2 = .ok (.string (str (c.take 4))) w2 := by
      have := str_ok (bytes_front hcs0 (by rw [List.length_take]; omega) hx0 (fun h => by cases h) 4 (by rw [List.length_take]; omega))
      rwa [List.take_take] at this
    have hlt4 := sz_lt c 4
    have hacl : (c.take 5).length ≤ 1000000000 := by rw [List.length_take]; omega
    have HM1 := hid (mark_eq c)
    have HM2 := hid (mark_ne c)
    have HN := hid (fun (h : c.take 4 ≠ Lg.mark ∨ 64 < sz c 4) => show X = noHd 5 from HX.out.symm.trans (by unfold Lg.headR; rw [if_neg (by omega), if_pos h]))
    have HC := hid (fun (h : ¬ (c.take 4 ≠ Lg.mark ∨ 64 < sz c 4)) => show X = finR c mm (rgo c mm (sz c 4) 5 []) from HX.out.symm.trans (headR_fin rfl (by omega) h))
    unfold maxLen at hx0
    clear hst2 hap2 hm2 hown0 hcs0 HPO hn0 hz4 HX
    generalize hz0 : sz c 4 = z0 at *
    have HZ0 := hid hz0
    clear hz0
    generalize str (c.take 4) = st at *
    by_cases hm : c.take 4 = Lg.mark
    · have hst := HM1.out hm
      subst hst
      by_cases h64 : 64 < z0
      · have hd2 : decide ((z0 : Int) ≤ 64) = false := decide_eq_false (by omega)
        have HF := hid (HN.out (Or.inr h64))
        have HWY := hid (want_yes B a g b sc r _ _ _ w2 hL.st)
        have d0 := heap_cell hL.st.1 0
        have d1 := heap_cell hL.st.1 1
        have d2 := heap_cell hL.st.1 2
        have gl := hL.st.lt
        simp only [List.getElem?_toArray, List.getElem?_cons_succ, List.getElem?_cons_zero] at d0 d1 d2
        go_upto_region 6 with (first
          | (go_at_call 54; refine HWY.out.mono ?_; rintro e' w3 ⟨rfl, hst3, hm3⟩)
          | fail)
        replace hL := HdL.other hL hm3 (fun j hj => Or.inr (Or.inl hj)) hst3 (fun j hj => Or.inl hj)
        have he : (5 : Int) ≠ 0 := by decide
        have hde : ((5 : Int) != 0) = true := rfl
        have hde0 : ((5 : Int) == 0) = false := rfl
        clear d0 d1 d2 gl HWY hst3 hm3 q4 hs4
        -- the loop is not entered: w3: the world; hL, he, hde, hde0, HF
        go_wp2
        go_loopw [7, 8, 9] (fun vn _ _ wr => vn = .slice none 0 0 ∧ wr = w3) (fun _ _ _ _ => 0)
        case atStart => exact ⟨rfl, rfl⟩
        case round =>
          obtain ⟨rfl, rfl⟩ := hrel
          have d0 := heap_cell hL.st.1 0
          have d1 := heap_cell hL.st.1 1
          have d2 := heap_cell hL.st.1 2
          have gl := hL.st.lt
          simp only [List.getElem?_toArray, List.getElem?_cons_succ, List.getElem?_cons_zero] at d0 d1 d2
          go_upto_region 14 with fail
          clear d0 d1 d2 gl
          -- wr: the world; hL : HdL w wr .. with an error e (he, hde, hde0); HF
          have d0 := heap_cell hL.st.1 0
          have d1 := heap_cell hL.st.1 1
          have d2 := heap_cell hL.st.1 2
          have gl := hL.st.lt
          simp only [List.getElem?_toArray, List.getElem?_cons_succ, List.getElem?_cons_zero] at d0 d1 d2
          have HN4 := hid (part_no B a g b sc r _ _ _ _ 4 wr hL.st he)
          go_upto_region 15 with (first
            | (go_at_call 53; refine HN4.out.mono ?_; rintro e' w' ⟨rfl, rfl⟩)
            | fail)
          clear d0 d1 d2 gl HN4
          -- behind the last part: wr: the world; (c.take 5): the bytes; hL : HdL w wr .. with an error e (he, hde, hde0); HF; hacl; hnN
          have d0 := heap_cell hL.st.1 0
          have d1 := heap_cell hL.st.1 1
          have d2 := heap_cell hL.st.1 2
          have gl := hL.st.lt
          simp only [List.getElem?_toArray, List.getElem?_cons_succ, List.getElem?_cons_zero] at d0 d1 d2
          have HRI := hid (fun w' (h : Nw wr w') => Sum.right_c _ (c.take 5) w' (Bytes.nw (show Bytes wr _ (c.take 5) from hL.st.2.1.sl) h) (Nat.le_trans hacl (by decide)))
          have HWN := hid (fun q w' (h : Nw wr w') => want_no B a g b sc r _ _ _ _ q w' (hL.st.nw h) (Or.inl he))
          have hsiR := hL.st.2.2.1
          have hmdR := hL.md
          clear hL
          go_upto_region 18 with (first
            | (go_at_call 57; refine (HRI.out _ (by repeat (first | assumption | exact Nw.refl _ | refine Nw.alloc ?_ _ | refine Nw.drew ?_ | refine Nw.drewN2 ?_ _ | (refine Nw.trans ?_ (by assumption))))).mono ?_; rintro e' w2 ⟨v2, rfl, hb2, hn2⟩; obtain ⟨p2, c2, rfl, _⟩ := hb2.open; clear hb2; replace d0 := hn2.cell d0; replace d1 := hn2.cell d1; replace d2 := hn2.cell d2; replace gl := Nat.lt_of_lt_of_le gl hn2.size)
            | (go_at_call 54; refine (HWN.out _ _ (by repeat (first | assumption | exact Nw.refl _ | refine Nw.alloc ?_ _ | refine Nw.drew ?_ | refine Nw.drewN2 ?_ _ | (refine Nw.trans ?_ (by assumption))))).mono ?_; rintro e' w' ⟨rfl, rfl⟩)
            | fail)
          refine wp_region_stairs (by kernel_rfl) (by kernel_rfl) (by kernel_rfl) ?_
          iterate 7
            refine Stairs.is ?_ ?_ ?_
            rotate_left 1
            · intro x wR hR hd K hK
              simp only [Act.put, List.setIfInBounds_toArray, List.set_cons_zero, List.set_cons_succ, Nat.reduceAdd, List.length_nil, List.length_cons, List.nil_append, List.cons_append, Say.ok] at hK ⊢
              clear hd
              change Hid _ at hK
              obtain ⟨hcR, hfR, hzR⟩ := nwc hR
              first | (refine wanted_yes ?_ ?_; rfl) | (refine wanted_no ?_ ?_; rfl)
              go_wp2_with (first | fail)
              all_goals (refine hK.out _ _ ?_ ?_ <;> first | (solve | (repeat (first | assumption | exact Nw.refl _ | refine Nw.alloc ?_ _ | refine Nw.drew ?_ | refine Nw.drewN2 ?_ _ | (refine Nw.trans ?_ (by assumption))))) | exact rfl)
            try simp only [Act.put, List.setIfInBounds_toArray, List.set_cons_zero, List.set_cons_succ, Nat.reduceAdd, List.length_nil, List.length_cons, List.nil_append, List.cons_append]
          refine Stairs.nil ?_
          intro x wR hR hx
          clear hx
          obtain ⟨hcR, hfR, hzR⟩ := nwc hR
          go_wp2
          go_ret3
          exact ⟨_, _, by rw [HF.out]; rfl, by rw [HF.out]; exact Own.nil _ _ _, (hsiR.nw hn2).nw hR, by omega, (hmdR.nw hn2).nw hR⟩
      · have hd2 : decide ((z0 : Int) ≤ 64) = true := decide_eq_true (by omega)
        have HP0 := hid (HC.out (by rintro (h | h); exact h hm; exact h64 h))
        have hwno := hid (want_no B a g b sc r _ _ _ _ true w2 hL.st (Or.inr rfl))
        have d0 := heap_cell hL.st.1 0
        have d1 := heap_cell hL.st.1 1
        have d2 := heap_cell hL.st.1 2
        have gl := hL.st.lt
        simp only [List.getElem?_toArray, List.getElem?_cons_succ, List.getElem?_cons_zero] at d0 d1 d2
        have hz64 : z0 ≤ 64 := by omega
        have hlenc : c.length = r := hcl
        clear HM1 HM2 HN HC h64 hm
        go_upto_region 7 with (first
          | (go_at_call 54; refine hwno.out.mono ?_; rintro e' w' ⟨rfl, rfl⟩)
          | fail)
        clear d0 d1 d2 gl hwno q4 hs4
        go_loopw [7, 8, 9] (fun vn _ _ wr => ∃ (i : Nat) (e : Int) (vb : Value) (n' : Nat) (l : List ByteArray), HdL w wr B a g b sc r (c.take i) e vb n' vn l (.slice (some ⟨g0, 0, none⟩) 5 c0) (c.take 5) ∧ i ≤ r ∧ l.length ≤ z0 ∧ n' ≤ n + 5 + 17 * l.length ∧ lenOf vn = l.length ∧ Hid (e = 0 → X = finR c mm (rgo c mm (z0 - l.length) i l)) ∧ Hid (e ≠ 0 → X = noHd e)) (fun vn _ _ _ => z0 - lenOf vn)
        case atStart => exact ⟨5, 0, vb, n2, [], hL, by omega, Nat.zero_le _, by simp; omega, rfl, hid (fun _ => HP0.out), hid (fun q => absurd rfl q)⟩
        case round =>
          clear hL HP0
          obtain ⟨i, e, vb, n', l, hL, hir, hll, hnn, hlv, HP, HE⟩ := hrel
          obtain ⟨pv, cv, rfl, _⟩ := strs_open hL.nm.sl
          have hacl : (c.take i).length ≤ 1000000000 := by rw [List.length_take]; omega
          have hti : (c.take i).length = i := by rw [List.length_take]; omega
          have HTI := hid hti
          obtain ⟨_, _, e9, _, _, _, hcs⟩ := hL.b0.sl.open (n := 5) (by rw [u8s_length, List.length_take]; omega)
          cases e9
          have q4 := bcell hcs 4 (by rw [List.length_take]; omega)
          rw [show sz (c.take 5) 4 = z0 by
            rw [← HZ0.out]
            unfold Lg.sz
            simp only [List.getD_eq_getElem?_getD]
            rw [List.getElem?_take_of_lt (by omega)], Nat.zero_add] at q4
          have gq := World.block_lt_of_cell? wr _ q4
          simp only at gq
          clear hlv hcs hti
          by_cases he : e = 0
          · subst he
            have HP0 := hid (HP.out rfl)
            clear HP HE
            by_cases hlt : l.length < z0
            · have hdl : decide (l.length < z0) = true := decide_eq_true hlt
              obtain ⟨kk, hkk⟩ : ∃ kk, z0 - l.length = kk + 1 := ⟨z0 - l.length - 1, by omega⟩
              rw [hkk] at HP0
              have hkk2 : z0 - (l.length + 1) = kk := by omega
              by_cases h1 : i < r
              · have HPK := hid (part_ok B a g b sc r (c.take i) ((c.drop i).take 1) vb n' 1 wr hL.st ok (by omega) hacl (by omega) (by rw [HTI.out]; exact HOK.out i 1 (by omega)))
                have hj1 : c.take i ++ (c.drop i).take 1 = c.take (i + 1) := by rw [List.take_add]
                replace hacl : (c.take (i + 1)).length ≤ 1000000000 := by rw [List.length_take]; omega
                have HT1 := hid (show (c.take (i + 1)).length = i + 1 by rw [List.length_take]; omega)
                have HL1 := hid (show ((c.drop i).take 1).length = 1 by rw [List.length_take, List.length_drop]; omega)
                have d0 := heap_cell hL.st.1 0
                have d1 := heap_cell hL.st.1 1
                have d2 := heap_cell hL.st.1 2
                have gl := hL.st.lt
                simp only [List.getElem?_toArray, List.getElem?_cons_succ, List.getElem?_cons_zero] at d0 d1 d2
                go_upto_region 9 with (first
                  | (go_at_call 53; refine HPK.out.mono ?_; rintro e' w3 ⟨v3, vb3, n3, rfl, hown3, hst3, hn3, hap3, hm3⟩; rw [hj1] at hst3; obtain ⟨g3, c3, rfl, hg3, hc3, hx3, hcs3⟩ := own_at2 hown3 (n := 1) ((u8s_length _).trans HL1.out) (by omega))
                  | fail)
                replace hL := HdL.other hL hm3 (fun j hj => hj) hst3 (fun j hj => (hap3 j hj).1)
                clear d0 d1 d2 gl hst3 hm3 HPK q4 gq hap3 hown3 hj1
                have q1 := bcell hcs3 0 (by rw [HL1.out]; decide)
                rw [show sz ((c.drop i).take 1) 0 = sz c i by
                  unfold Lg.sz
                  simp only [List.getD_eq_getElem?_getD]
                  rw [List.getElem?_take_of_lt (by omega), List.getElem?_drop, Nat.add_zero], Nat.zero_add] at q1
                have gq1 := World.block_lt_of_cell? w3 _ q1
                simp only at gq1
                have hz256 := sz_lt c i
                obtain ⟨z, hz⟩ : ∃ z, sz c i = z := ⟨_, rfl⟩
                rw [hz] at q1 hz256
                have HZ := hid hz
                clear hz hcs3
                obtain ⟨pb3, cb3, rfl, _⟩ := hL.st.2.1.sl.open (n := i + 1) ((u8s_length _).trans HT1.out)
                unfold maxLen at hx3
                have d0 := heap_cell hL.st.1 0
                have d1 := heap_cell hL.st.1 1
                have d2 := heap_cell hL.st.1 2
                have gl := hL.st.lt
                simp only [List.getElem?_toArray, List.getElem?_cons_succ, List.getElem?_cons_zero] at d0 d1 d2
                by_cases hz1 : z < 1
                · have hd5 : decide ((1 : Int) ≤ (z : Int)) = false := decide_eq_false (by omega)
                  have hd5b : decide (1 ≤ z) = false := decide_eq_false (by omega)
                  have hd5c : decide (0 < z) = false := decide_eq_false (by omega)
                  have HWY := hid (want_yes B a g b sc r _ _ _ w3 hL.st)
                  have HF := hid (show X = noHd 5 from HP0.out.trans (rgo_2 (by omega) (by rw [HZ.out]; omega)))
                  have HF0 := HF
                  go_upto_region 10 with (first
                    | (go_at_call 54; refine HWY.out.mono ?_; rintro e' w4 ⟨rfl, hst4, hm4⟩)
                    | fail)
                  replace hL := HdL.other hL hm4 (fun j hj => Or.inr (Or.inl hj)) hst4 (fun j hj => Or.inl hj)
                  have he : (5 : Int) ≠ 0 := by decide
                  have hde : ((5 : Int) != 0) = true := rfl
                  have hde0 : ((5 : Int) == 0) = false := rfl
                  clear d0 d1 d2 gl HWY hst4 hm4 q1 gq1 HP0 HF0
                  have d0 := heap_cell hL.st.1 0
                  have d1 := heap_cell hL.st.1 1
                  have d2 := heap_cell hL.st.1 2
                  have gl := hL.st.lt
                  simp only [List.getElem?_toArray, List.getElem?_cons_succ, List.getElem?_cons_zero] at d0 d1 d2
                  go_upto_region 14 with fail
                  clear d0 d1 d2 gl
                  -- w4: the world; hL : HdL w w4 .. with an error e (he, hde, hde0); HF
                  have d0 := heap_cell hL.st.1 0
                  have d1 := heap_cell hL.st.1 1
                  have d2 := heap_cell hL.st.1 2
                  have gl := hL.st.lt
                  simp only [List.getElem?_toArray, List.getElem?_cons_succ, List.getElem?_cons_zero] at d0 d1 d2
                  have HN4 := hid (part_no B a g b sc r _ _ _ _ 4 w4 hL.st he)
                  go_upto_region 15 with (first
                    | (go_at_call 53; refine HN4.out.mono ?_; rintro e' w' ⟨rfl, rfl⟩)
                    | fail)
                  clear d0 d1 d2 gl HN4
                  -- behind the last part: w4: the world; (c.take (i + 1)): the bytes; hL : HdL w w4 .. with an error e (he, hde, hde0); HF; hacl; hnN
                  have d0 := heap_cell hL.st.1 0
                  have d1 := heap_cell hL.st.1 1
                  have d2 := heap_cell hL.st.1 2
                  have gl := hL.st.lt
                  simp only [List.getElem?_toArray, List.getElem?_cons_succ, List.getElem?_cons_zero] at d0 d1 d2
                  have HRI := hid (fun w' (h : Nw w4 w') => Sum.right_c _ (c.take (i + 1)) w' (Bytes.nw (show Bytes w4 _ (c.take (i + 1)) from hL.st.2.1.sl) h) (Nat.le_trans hacl (by decide)))
                  have HWN := hid (fun q w' (h : Nw w4 w') => want_no B a g b sc r _ _ _ _ q w' (hL.st.nw h) (Or.inl he))
                  have hsiR := hL.st.2.2.1
                  have hmdR := hL.md
                  clear hL
                  go_upto_region 18 with (first
                    | (go_at_call 57; refine (HRI.out _ (by repeat (first | assumption | exact Nw.refl _ | refine Nw.alloc ?_ _ | refine Nw.drew ?_ | refine Nw.drewN2 ?_ _ | (refine Nw.trans ?_ (by assumption))))).mono ?_; rintro e' w2 ⟨v2, rfl, hb2, hn2⟩; obtain ⟨p2, c2, rfl, _⟩ := hb2.open; clear hb2; replace d0 := hn2.cell d0; replace d1 := hn2.cell d1; replace d2 := hn2.cell d2; replace gl := Nat.lt_of_lt_of_le gl hn2.size)
                    | (go_at_call 54; refine (HWN.out _ _ (by repeat (first | assumption | exact Nw.refl _ | refine Nw.alloc ?_ _ | refine Nw.drew ?_ | refine Nw.drewN2 ?_ _ | (refine Nw.trans ?_ (by assumption))))).mono ?_; rintro e' w' ⟨rfl, rfl⟩)
                    | fail)
                  refine wp_region_stairs (by kernel_rfl) (by kernel_rfl) (by kernel_rfl) ?_
                  iterate 7
                    refine Stairs.is ?_ ?_ ?_
                    rotate_left 1
                    · intro x wR hR hd K hK
                      simp only [Act.put, List.setIfInBounds_toArray, List.set_cons_zero, List.set_cons_succ, Nat.reduceAdd, List.length_nil, List.length_cons, List.nil_append, List.cons_append, Say.ok] at hK ⊢
                      clear hd
                      change Hid _ at hK
                      obtain ⟨hcR, hfR, hzR⟩ := nwc hR
                      first | (refine wanted_yes ?_ ?_; rfl) | (refine wanted_no ?_ ?_; rfl)
                      go_wp2_with (first | fail)
                      all_goals (refine hK.out _ _ ?_ ?_ <;> first | (solve | (repeat (first | assumption | exact Nw.refl _ | refine Nw.alloc ?_ _ | refine Nw.drew ?_ | refine Nw.drewN2 ?_ _ | (refine Nw.trans ?_ (by assumption))))) | exact rfl)
                    try simp only [Act.put, List.setIfInBounds_toArray, List.set_cons_zero, List.set_cons_succ, Nat.reduceAdd, List.length_nil, List.length_cons, List.nil_append, List.cons_append]
                  refine Stairs.nil ?_
                  intro x wR hR hx
                  clear hx
                  obtain ⟨hcR, hfR, hzR⟩ := nwc hR
                  go_wp2
                  go_ret3
                  exact ⟨_, _, by rw [HF.out]; rfl, by rw [HF.out]; exact Own.nil _ _ _, (hsiR.nw hn2).nw hR, by omega, (hmdR.nw hn2).nw hR⟩
                · have hd5 : decide ((1 : Int) ≤ (z : Int)) = true := decide_eq_true (by omega)
                  have hd5b : decide (1 ≤ z) = true := decide_eq_true (by omega)
                  have hd5c : decide (0 < z) = true := decide_eq_true (by omega)
                  by_cases hz16 : 16 < z
                  · have hd6 : decide ((z : Int) ≤ 16) = false := decide_eq_false (by omega)
                    have hd6b : decide (z ≤ 16) = false := decide_eq_false (by omega)
                    have HWY := hid (want_yes B a g b sc r _ _ _ w3 hL.st)
                    have HF := hid (show X = noHd 5 from HP0.out.trans (rgo_2 (by omega) (by rw [HZ.out]; omega)))
                    have HF0 := HF
                    go_upto_region 10 with (first
                      | (go_at_call 54; refine HWY.out.mono ?_; rintro e' w4 ⟨rfl, hst4, hm4⟩)
                      | fail)
                    replace hL := HdL.other hL hm4 (fun j hj => Or.inr (Or.inl hj)) hst4 (fun j hj => Or.inl hj)
                    have he : (5 : Int) ≠ 0 := by decide
                    have hde : ((5 : Int) != 0) = true := rfl
                    have hde0 : ((5 : Int) == 0) = false := rfl
                    clear d0 d1 d2 gl HWY hst4 hm4 q1 gq1 HP0 HF0
                    have d0 := heap_cell hL.st.1 0
                    have d1 := heap_cell hL.st.1 1
                    have d2 := heap_cell hL.st.1 2
                    have gl := hL.st.lt
                    simp only [List.getElem?_toArray, List.getElem?_cons_succ, List.getElem?_cons_zero] at d0 d1 d2
                    go_upto_region 14 with fail
                    clear d0 d1 d2 gl
                    -- w4: the world; hL : HdL w w4 .. with an error e (he, hde, hde0); HF
                    have d0 := heap_cell hL.st.1 0
                    have d1 := heap_cell hL.st.1 1
                    have d2 := heap_cell hL.st.1 2
                    have gl := hL.st.lt
                    simp only [List.getElem?_toArray, List.getElem?_cons_succ, List.getElem?_cons_zero] at d0 d1 d2
                    have HN4 := hid (part_no B a g b sc r _ _ _ _ 4 w4 hL.st he)
                    go_upto_region 15 with (first
                      | (go_at_call 53; refine HN4.out.mono ?_; rintro e' w' ⟨rfl, rfl⟩)
                      | fail)
                    clear d0 d1 d2 gl HN4
                    -- behind the last part: w4: the world; (c.take (i + 1)): the bytes; hL : HdL w w4 .. with an error e (he, hde, hde0); HF; hacl; hnN
                    have d0 := heap_cell hL.st.1 0
                    have d1 := heap_cell hL.st.1 1
                    have d2 := heap_cell hL.st.1 2
                    have gl := hL.st.lt
                    simp only [List.getElem?_toArray, List.getElem?_cons_succ, List.getElem?_cons_zero] at d0 d1 d2
                    have HRI := hid (fun w' (h : Nw w4 w') => Sum.right_c _ (c.take (i + 1)) w' (Bytes.nw (show Bytes w4 _ (c.take (i + 1)) from hL.st.2.1.sl) h) (Nat.le_trans hacl (by decide)))
                    have HWN := hid (fun q w' (h : Nw w4 w') => want_no B a g b sc r _ _ _ _ q w' (hL.st.nw h) (Or.inl he))
                    have hsiR := hL.st.2.2.1
                    have hmdR := hL.md
                    clear hL
                    go_upto_region 18 with (first
                      | (go_at_call 57; refine (HRI.out _ (by repeat (first | assumption | exact Nw.refl _ | refine Nw.alloc ?_ _ | refine Nw.drew ?_ | refine Nw.drewN2 ?_ _ | (refine Nw.trans ?_ (by assumption))))).mono ?_; rintro e' w2 ⟨v2, rfl, hb2, hn2⟩; obtain ⟨p2, c2, rfl, _⟩ := hb2.open; clear hb2; replace d0 := hn2.cell d0; replace d1 := hn2.cell d1; replace d2 := hn2.cell d2; replace gl := Nat.lt_of_lt_of_le gl hn2.size)
                      | (go_at_call 54; refine (HWN.out _ _ (by repeat (first | assumption | exact Nw.refl _ | refine Nw.alloc ?_ _ | refine Nw.drew ?_ | refine Nw.drewN2 ?_ _ | (refine Nw.trans ?_ (by assumption))))).mono ?_; rintro e' w' ⟨rfl, rfl⟩)
                      | fail)
                    refine wp_region_stairs (by kernel_rfl) (by kernel_rfl) (by kernel_rfl) ?_
                    iterate 7
                      refine Stairs.is ?_ ?_ ?_
                      rotate_left 1
                      · intro x wR hR hd K hK
                        simp only [Act.put, List.setIfInBounds_toArray, List.set_cons_zero, List.set_cons_succ, Nat.reduceAdd, List.length_nil, List.length_cons, List.nil_append, List.cons_append, Say.ok] at hK ⊢
                        clear hd
                        change Hid _ at hK
                        obtain ⟨hcR, hfR, hzR⟩ := nwc hR
                        first | (refine wanted_yes ?_ ?_; rfl) | (refine wanted_no ?_ ?_; rfl)
                        go_wp2_with (first | fail)
                        all_goals (refine hK.out _ _ ?_ ?_ <;> first | (solve | (repeat (first | assumption | exact Nw.refl _ | refine Nw.alloc ?_ _ | refine Nw.drew ?_ | refine Nw.drewN2 ?_ _ | (refine Nw.trans ?_ (by assumption))))) | exact rfl)
                      try simp only [Act.put, List.setIfInBounds_toArray, List.set_cons_zero, List.set_cons_succ, Nat.reduceAdd, List.length_nil, List.length_cons, List.nil_append, List.cons_append]
                    refine Stairs.nil ?_
                    intro x wR hR hx
                    clear hx
                    obtain ⟨hcR, hfR, hzR⟩ := nwc hR
                    go_wp2
                    go_ret3
                    exact ⟨_, _, by rw [HF.out]; rfl, by rw [HF.out]; exact Own.nil _ _ _, (hsiR.nw hn2).nw hR, by omega, (hmdR.nw hn2).nw hR⟩
                  · have hd6 : decide ((z : Int) ≤ 16) = true := decide_eq_true (by omega)
                    have hd6b : decide (z ≤ 16) = true := decide_eq_true (by omega)
                    have hwno := hid (want_no B a g b sc r _ _ _ _ true w3 hL.st (Or.inr rfl))
                    go_upto_region 11 with (first
                      | (go_at_call 54; refine hwno.out.mono ?_; rintro e' w' ⟨rfl, rfl⟩)
                      | fail)
                    clear hwno
                    by_cases h2 : i + 1 + z ≤ r
                    · have HPZ := hid (part_ok B a g b sc r (c.take (i + 1)) ((c.drop (i + 1)).take z) _ n3 z w3 hL.st ok (by omega) hacl (by omega) (by rw [HT1.out]; exact HOK.out (i + 1) z h2))
                      have hj2 : c.take (i + 1) ++ (c.drop (i + 1)).take z = c.take (i + 1 + z) := (List.take_add (l := c) (i := i + 1) (j := z)).symm
                      obtain ⟨s, hs⟩ : ∃ s, s = cutS c (i + 1) z := ⟨_, rfl⟩
                      have HS := hid hs
                      have HZL := hid (show ((c.drop (i + 1)).take z).length = z by rw [List.length_take, List.length_drop]; omega)
                      have hss : s.size ≤ 1000000000 := by rw [hs]; have := cutS_size c (i + 1) z; omega
                      clear hs
                      go_upto_region 12 with (first
                        | (go_at_call 53; refine HPZ.out.mono ?_; rintro e' w5 ⟨v5, vb5, n5, rfl, hown5, hst5, hn5, hap5, hm5⟩; rw [hj2] at hst5; have hs5 : ∀ x, x = v5 → (convert 22 9 x).run Try.prog w5 = .ok (.string s) w5 := (by rintro x rfl; rw [HS.out]; exact str_ok (show Bytes w5 _ _ from hown5.sl)); obtain ⟨p5, c5, rfl, _⟩ := hown5.sl.open (n := z) ((u8s_length _).trans HZL.out); have hs6 := hs5 _ rfl; clear hs5)
                        | fail)
                      replace hL := HdL.other hL hm5 (fun j hj => hj) hst5 (fun j hj => (hap5 j hj).1)
                      clear d0 d1 d2 gl hst5 hm5 HPZ q1 gq1 hap5 hown5 hj2 hs6
                      have HNM := hid (fun w' => nm_c s hss w')
                      have HCN := hid (fun w' (h : Nw w5 w') => Lx.contains_c _ l s w' (hL.nm.sl.nw h))
                      have HF4 := hid (fun (h4 : nmB s = false ∨ isIn s l = true) => show X = noHd 5 from HP0.out.trans (rgo_4 (b := c) (m := mm) (k := kk) (i := i) (acc := l) (by omega) (by rw [HZ.out]; omega) (by rw [HZ.out]; omega) (by rw [HZ.out, ← HS.out]; exact h4)))
                      have HF5 := hid (fun (h4 : ¬ (nmB s = false ∨ isIn s l = true)) => HP0.out.trans (congrArg (finR c mm) (rgo_5 (b := c) (m := mm) (k := kk) (i := i) (acc := l) (by omega) (by rw [HZ.out]; omega) (by rw [HZ.out]; omega) (by rw [HZ.out, ← HS.out]; exact h4))))
                      obtain ⟨pb5, cb5, hv5, _⟩ := hL.st.2.1.sl.open (n := (c.take (i + 1 + z)).length) (u8s_length _)
                      subst hv5
                      have d0 := heap_cell hL.st.1 0
                      have d1 := heap_cell hL.st.1 1
                      have d2 := heap_cell hL.st.1 2
                      have gl := hL.st.lt
                      simp only [List.getElem?_toArray, List.getElem?_cons_succ, List.getElem?_cons_zero] at d0 d1 d2
                      clear HP0
                      cases hq1 : nmB s with
                      | false =>
                        rw [hq1] at HNM HF4
                        have HF := hid (HF4.out (Or.inl rfl))
                        clear HF4 HF5
                        -- a name that may not be: HF : X = noHd 5
                        have HWY := hid (fun w' (h : Nw w5 w') => want_yes B a g b sc r _ _ _ w' (hL.st.nw h))
                        go_upto_region 13 with (first
                          | (go_at_call 55; refine (HNM.out _).mono ?_; rintro e' w8 ⟨rfl, hn8⟩)
                          | (go_at_call 56; refine (HCN.out _ (by repeat (first | assumption | exact Nw.refl _ | refine Nw.alloc ?_ _ | refine Nw.drew ?_ | refine Nw.drewN2 ?_ _ | (refine Nw.trans ?_ (by assumption))))).mono ?_; rintro e' w9 ⟨rfl, hn9⟩)
                          | (go_at_call 54; refine (HWY.out _ (by repeat (first | assumption | exact Nw.refl _ | refine Nw.alloc ?_ _ | refine Nw.drew ?_ | refine Nw.drewN2 ?_ _ | (refine Nw.trans ?_ (by assumption))))).mono ?_; rintro e' w6 ⟨rfl, hst6, hm6⟩)
                          | fail)
                        replace hL := HdL.other (hL.nw hn8) hm6 (fun j hj => Or.inr (Or.inl hj)) hst6 (fun j hj => Or.inl hj)
                        clear d0 d1 d2 gl hst6 hm6 HWY
                        -- a name is appended and the round ends: w6: the world; 5: the error; (i + 1 + z): the place; n5: reads; s: the name; hid (fun q => absurd q (by decide)): e = 0 ->; hid (fun _ => HF.out): e ≠ 0 ->
                        have hB := hL.st.lt
                        go_upto_region 14 with (first
                          | (at_builtin; refine app1g rfl _ _ _ rfl _ _ _ Try.underlying31 info_str rfl (by decide) (B := g + 1) (show g + 1 ≤ (World.alloc w6 _).heap.size from Nat.le_of_lt (Nat.lt_of_le_of_lt hB (lt_alloc w6 _))) (hL.nm.nw ((Nw.refl _).alloc _)) rfl (Sl.new w6 [_] _ _ (by simp [maxLen])) rfl (by simp [Value.oneCell']) ?_ ?_; rotate_left; (rw [Lx.strs_length]; simp only [List.length_cons, List.length_nil]; omega); intro v7 w7 hown7 hg7 ha7; have hL7 := HdL.app (l' := l ++ [s]) (hL.nw ((Nw.refl w6).alloc _)) hg7 (by rw [strs_snoc]; exact hown7); obtain ⟨p7, c7, rfl, _⟩ := hown7.sl.open (n := l.length + 1) (by rw [List.length_append, Lx.strs_length]; rfl))
                          | fail)
                        go_roundw
                        case rel => exact ⟨(i + 1 + z), 5, _, n5, l ++ [s], hL7, by omega, by rw [List.length_append, List.length_singleton]; omega, by rw [List.length_append, List.length_singleton]; omega, by rw [List.length_append, List.length_singleton]; rfl, hid (fun q => absurd q (by decide)), hid (fun _ => HF.out)⟩
                        case measure => simp only [lenOf]; omega
                      | true =>
                        rw [hq1] at HNM HF4 HF5
                        cases hq2 : isIn s l with
                        | true =>
                          rw [hq2] at HCN HF4
                          have HF := hid (HF4.out (Or.inr rfl))
                          clear HF4 HF5
                          -- a name that may not be: HF : X = noHd 5
                          have HWY := hid (fun w' (h : Nw w5 w') => want_yes B a g b sc r _ _ _ w' (hL.st.nw h))
                          go_upto_region 13 with (first
                            | (go_at_call 55; refine (HNM.out _).mono ?_; rintro e' w8 ⟨rfl, hn8⟩)
                            | (go_at_call 56; refine (HCN.out _ (by repeat (first | assumption | exact Nw.refl _ | refine Nw.alloc ?_ _ | refine Nw.drew ?_ | refine Nw.drewN2 ?_ _ | (refine Nw.trans ?_ (by assumption))))).mono ?_; rintro e' w9 ⟨rfl, hn9⟩)
                            | (go_at_call 54; refine (HWY.out _ (by repeat (first | assumption | exact Nw.refl _ | refine Nw.alloc ?_ _ | refine Nw.drew ?_ | refine Nw.drewN2 ?_ _ | (refine Nw.trans ?_ (by assumption))))).mono ?_; rintro e' w6 ⟨rfl, hst6, hm6⟩)
                            | fail)
                          replace hL := HdL.other (hL.nw (hn8.trans hn9)) hm6 (fun j hj => Or.inr (Or.inl hj)) hst6 (fun j hj => Or.inl hj)
                          clear d0 d1 d2 gl hst6 hm6 HWY
                          -- a name is appended and the round ends: w6: the world; 5: the error; (i + 1 + z): the place; n5: reads; s: the name; hid (fun q => absurd q (by decide)): e = 0 ->; hid (fun _ => HF.out): e ≠ 0 ->
                          have hB := hL.st.lt
                          go_upto_region 14 with (first
                            | (at_builtin; refine app1g rfl _ _ _ rfl _ _ _ Try.underlying31 info_str rfl (by decide) (B := g + 1) (show g + 1 ≤ (World.alloc w6 _).heap.size from Nat.le_of_lt (Nat.lt_of_le_of_lt hB (lt_alloc w6 _))) (hL.nm.nw ((Nw.refl _).alloc _)) rfl (Sl.new w6 [_] _ _ (by simp [maxLen])) rfl (by simp [Value.oneCell']) ?_ ?_; rotate_left; (rw [Lx.strs_length]; simp only [List.length_cons, List.length_nil]; omega); intro v7 w7 hown7 hg7 ha7; have hL7 := HdL.app (l' := l ++ [s]) (hL.nw ((Nw.refl w6).alloc _)) hg7 (by rw [strs_snoc]; exact hown7); obtain ⟨p7, c7, rfl, _⟩ := hown7.sl.open (n := l.length + 1) (by rw [List.length_append, Lx.strs_length]; rfl))
                            | fail)
                          go_roundw
                          case rel => exact ⟨(i + 1 + z), 5, _, n5, l ++ [s], hL7, by omega, by rw [List.length_append, List.length_singleton]; omega, by rw [List.length_append, List.length_singleton]; omega, by rw [List.length_append, List.length_singleton]; rfl, hid (fun q => absurd q (by decide)), hid (fun _ => HF.out)⟩
                          case measure => simp only [lenOf]; omega
                        | false =>
                          rw [hq2] at HCN HF5
                          have HF := hid (HF5.out (by simp))
                          clear HF4 HF5
                          have HWN := hid (fun w' (h : Nw w5 w') => want_no B a g b sc r _ _ _ _ true w' (hL.st.nw h) (Or.inr rfl))
                          go_upto_region 13 with (first
                            | (go_at_call 55; refine (HNM.out _).mono ?_; rintro e' w8 ⟨rfl, hn8⟩)
                            | (go_at_call 56; refine (HCN.out _ (by repeat (first | assumption | exact Nw.refl _ | refine Nw.alloc ?_ _ | refine Nw.drew ?_ | refine Nw.drewN2 ?_ _ | (refine Nw.trans ?_ (by assumption))))).mono ?_; rintro e' w9 ⟨rfl, hn9⟩)
                            | (go_at_call 54; refine (HWN.out _ (by repeat (first | assumption | exact Nw.refl _ | refine Nw.alloc ?_ _ | refine Nw.drew ?_ | refine Nw.drewN2 ?_ _ | (refine Nw.trans ?_ (by assumption))))).mono ?_; rintro e' w6 ⟨rfl, rfl⟩)
                            | fail)
                          replace hL := hL.nw (hn8.trans hn9)
                          clear d0 d1 d2 gl HWN
                          -- a name is appended and the round ends: w9: the world; 0: the error; (i + 1 + z): the place; n5: reads; s: the name; hid (fun _ => by rw [List.length_append, List.length_singleton, hkk2]; rw [HZ.out, ← HS.out] at HF; exact HF.out): e = 0 ->; hid (fun q => absurd rfl q): e ≠ 0 ->
                          have hB := hL.st.lt
                          go_upto_region 14 with (first
                            | (at_builtin; refine app1g rfl _ _ _ rfl _ _ _ Try.underlying31 info_str rfl (by decide) (B := g + 1) (show g + 1 ≤ (World.alloc w9 _).heap.size from Nat.le_of_lt (Nat.lt_of_le_of_lt hB (lt_alloc w9 _))) (hL.nm.nw ((Nw.refl _).alloc _)) rfl (Sl.new w9 [_] _ _ (by simp [maxLen])) rfl (by simp [Value.oneCell']) ?_ ?_; rotate_left; (rw [Lx.strs_length]; simp only [List.length_cons, List.length_nil]; omega); intro v7 w7 hown7 hg7 ha7; have hL7 := HdL.app (l' := l ++ [s]) (hL.nw ((Nw.refl w9).alloc _)) hg7 (by rw [strs_snoc]; exact hown7); obtain ⟨p7, c7, rfl, _⟩ := hown7.sl.open (n := l.length + 1) (by rw [List.length_append, Lx.strs_length]; rfl))
                            | fail)
                          go_roundw
                          case rel => exact ⟨(i + 1 + z), 0, _, n5, l ++ [s], hL7, by omega, by rw [List.length_append, List.length_singleton]; omega, by rw [List.length_append, List.length_singleton]; omega, by rw [List.length_append, List.length_singleton]; rfl, hid (fun _ => by rw [List.length_append, List.length_singleton, hkk2]; rw [HZ.out, ← HS.out] at HF; exact HF.out), hid (fun q => absurd rfl q)⟩
                          case measure => simp only [lenOf]; omega
                    · obtain ⟨xs, y, hrd, hy, hmy⟩ := HER.out (i + 1) z (by omega) h2
                      have HPE := hid (part_err B a g b sc r (c.take (i + 1)) xs _ n3 z y w3 hL.st ok (by omega) hacl (by omega) (by rw [HT1.out]; exact hrd) hy)
                      rw [hmy] at HPE
                      have HF := hid (show X = noHd mm from HP0.out.trans (rgo_3 hmn (by omega) (by rw [HZ.out]; omega) (by rw [HZ.out]; omega)))
                      clear HP0
                      have hs6 : ∀ w', (convert 22 9 (.slice none 0 0)).run Try.prog w' = .ok (.string ⟨#[]⟩) w' := fun w' => str_ok (Bytes.nil w')
                      go_upto_region 12 with (first
                        | (go_at_call 53; refine HPE.out.mono ?_; rintro e' w5 ⟨rfl, ⟨n5, hn5, hst5⟩, hm5⟩; have hs7 := hs6 w5)
                        | fail)
                      replace hL := HdL.other hL hm5 (fun j hj => by rcases hj with z | z; exact Or.inl z; exact Or.inr (Or.inl z)) hst5 (fun j hj => Or.inl hj)
                      have he := hmn
                      have hde : (mm != 0) = true := by simpa using hmn
                      have hde0 : (mm == 0) = false := beq_eq_false_iff_ne.2 hmn
                      clear d0 d1 d2 gl hst5 hm5 HPE q1 gq1 hs6 hs7
                      have HNM := hid (fun w' => show Calls Try.prog 55 #[.string ⟨#[]⟩] w' (Gives (.bool false) w') from nm_c ⟨#[]⟩ (by decide) w')
                      have HWN := hid (fun w' (h : Nw w5 w') => want_no B a g b sc r _ _ _ _ false w' (hL.st.nw h) (Or.inl he))
                      have d0 := heap_cell hL.st.1 0
                      have d1 := heap_cell hL.st.1 1
                      have d2 := heap_cell hL.st.1 2
                      have gl := hL.st.lt
                      simp only [List.getElem?_toArray, List.getElem?_cons_succ, List.getElem?_cons_zero] at d0 d1 d2
                      go_upto_region 13 with (first
                        | (go_at_call 55; refine (HNM.out _).mono ?_; rintro e' w8 ⟨rfl, hn8⟩)
                        | (go_at_call 54; refine (HWN.out _ (by repeat (first | assumption | exact Nw.refl _ | refine Nw.alloc ?_ _ | refine Nw.drew ?_ | refine Nw.drewN2 ?_ _ | (refine Nw.trans ?_ (by assumption))))).mono ?_; rintro e' w6 ⟨rfl, rfl⟩)
                        | fail)
                      replace hL := hL.nw hn8
                      clear d0 d1 d2 gl HWN
                      -- a name is appended and the round ends: w8: the world; mm: the error; (i + 1): the place; n5: reads; (⟨#[]⟩ : ByteArray): the name; hid (fun q => absurd q hmn): e = 0 ->; hid (fun _ => HF.out): e ≠ 0 ->
                      have hB := hL.st.lt
                      go_upto_region 14 with (first
                        | (at_builtin; refine app1g rfl _ _ _ rfl _ _ _ Try.underlying31 info_str rfl (by decide) (B := g + 1) (show g + 1 ≤ (World.alloc w8 _).heap.size from Nat.le_of_lt (Nat.lt_of_le_of_lt hB (lt_alloc w8 _))) (hL.nm.nw ((Nw.refl _).alloc _)) rfl (Sl.new w8 [_] _ _ (by simp [maxLen])) rfl (by simp [Value.oneCell']) ?_ ?_; rotate_left; (rw [Lx.strs_length]; simp only [List.length_cons, List.length_nil]; omega); intro v7 w7 hown7 hg7 ha7; have hL7 := HdL.app (l' := l ++ [(⟨#[]⟩ : ByteArray)]) (hL.nw ((Nw.refl w8).alloc _)) hg7 (by rw [strs_snoc]; exact hown7); obtain ⟨p7, c7, rfl, _⟩ := hown7.sl.open (n := l.length + 1) (by rw [List.length_append, Lx.strs_length]; rfl))
                        | fail)
                      go_roundw
                      case rel => exact ⟨(i + 1), mm, _, n5, l ++ [(⟨#[]⟩ : ByteArray)], hL7, by omega, by rw [List.length_append, List.length_singleton]; omega, by rw [List.length_append, List.length_singleton]; omega, by rw [List.length_append, List.length_singleton]; rfl, hid (fun q => absurd q hmn), hid (fun _ => HF.out)⟩
                      case measure => simp only [lenOf]; omega
              · obtain ⟨xs, y, hrd, hy, hmy⟩ := HER.out i 1 hir (by omega)
                have HPE := hid (part_err B a g b sc r (c.take i) xs vb n' 1 y wr hL.st ok (by omega) hacl (by omega) (by rw [HTI.out]; exact hrd) hy)
                rw [hmy] at HPE
                have HF := hid (show X = noHd mm from HP0.out.trans (rgo_1 hmn (by omega)))
                have d0 := heap_cell hL.st.1 0
                have d1 := heap_cell hL.st.1 1
                have d2 := heap_cell hL.st.1 2
                have gl := hL.st.lt
                simp only [List.getElem?_toArray, List.getElem?_cons_succ, List.getElem?_cons_zero] at d0 d1 d2
                go_upto_region 9 with (first
                  | (go_at_call 53; refine HPE.out.mono ?_; rintro e' w3 ⟨rfl, ⟨n3, hn3, hst3⟩, hm3⟩)
                  | fail)
                replace hL := HdL.other hL hm3 (fun j hj => by rcases hj with z | z; exact Or.inl z; exact Or.inr (Or.inl z)) hst3 (fun j hj => Or.inl hj)
                have he := hmn
                have hde : (mm != 0) = true := by simpa using hmn
                have hde0 : (mm == 0) = false := beq_eq_false_iff_ne.2 hmn
                clear d0 d1 d2 gl hst3 hm3 HPE q4 gq HP0
                have hwno := hid (want_no B a g b sc r _ _ _ _ false w3 hL.st (Or.inl he))
                have d0 := heap_cell hL.st.1 0
                have d1 := heap_cell hL.st.1 1
                have d2 := heap_cell hL.st.1 2
                have gl := hL.st.lt
                simp only [List.getElem?_toArray, List.getElem?_cons_succ, List.getElem?_cons_zero] at d0 d1 d2
                go_upto_region 14 with (first
                  | (go_at_call 54; refine hwno.out.mono ?_; rintro e' w' ⟨rfl, rfl⟩)
                  | fail)
                clear d0 d1 d2 gl hwno
                -- w3: the world; hL : HdL w w3 .. with an error e (he, hde, hde0); HF
                have d0 := heap_cell hL.st.1 0
                have d1 := heap_cell hL.st.1 1
                have d2 := heap_cell hL.st.1 2
                have gl := hL.st.lt
                simp only [List.getElem?_toArray, List.getElem?_cons_succ, List.getElem?_cons_zero] at d0 d1 d2
                have HN4 := hid (part_no B a g b sc r _ _ _ _ 4 w3 hL.st he)
                go_upto_region 15 with (first
                  | (go_at_call 53; refine HN4.out.mono ?_; rintro e' w' ⟨rfl, rfl⟩)
                  | fail)
                clear d0 d1 d2 gl HN4
                -- behind the last part: w3: the world; (c.take i): the bytes; hL : HdL w w3 .. with an error e (he, hde, hde0); HF; hacl; hnN
                have d0 := heap_cell hL.st.1 0
                have d1 := heap_cell hL.st.1 1
                have d2 := heap_cell hL.st.1 2
                have gl := hL.st.lt
                simp only [List.getElem?_toArray, List.getElem?_cons_succ, List.getElem?_cons_zero] at d0 d1 d2
                have HRI := hid (fun w' (h : Nw w3 w') => Sum.right_c _ (c.take i) w' (Bytes.nw (show Bytes w3 _ (c.take i) from hL.st.2.1.sl) h) (Nat.le_trans hacl (by decide)))
                have HWN := hid (fun q w' (h : Nw w3 w') => want_no B a g b sc r _ _ _ _ q w' (hL.st.nw h) (Or.inl he))
                have hsiR := hL.st.2.2.1
                have hmdR := hL.md
                clear hL
                go_upto_region 18 with (first
                  | (go_at_call 57; refine (HRI.out _ (by repeat (first | assumption | exact Nw.refl _ | refine Nw.alloc ?_ _ | refine Nw.drew ?_ | refine Nw.drewN2 ?_ _ | (refine Nw.trans ?_ (by assumption))))).mono ?_; rintro e' w2 ⟨v2, rfl, hb2, hn2⟩; obtain ⟨p2, c2, rfl, _⟩ := hb2.open; clear hb2; replace d0 := hn2.cell d0; replace d1 := hn2.cell d1; replace d2 := hn2.cell d2; replace gl := Nat.lt_of_lt_of_le gl hn2.size)
                  | (go_at_call 54; refine (HWN.out _ _ (by repeat (first | assumption | exact Nw.refl _ | refine Nw.alloc ?_ _ | refine Nw.drew ?_ | refine Nw.drewN2 ?_ _ | (refine Nw.trans ?_ (by assumption))))).mono ?_; rintro e' w' ⟨rfl, rfl⟩)
                  | fail)
                refine wp_region_stairs (by kernel_rfl) (by kernel_rfl) (by kernel_rfl) ?_
                iterate 7
                  refine Stairs.is ?_ ?_ ?_
                  rotate_left 1
                  · intro x wR hR hd K hK
                    simp only [Act.put, List.setIfInBounds_toArray, List.set_cons_zero, List.set_cons_succ, Nat.reduceAdd, List.length_nil, List.length_cons, List.nil_append, List.cons_append, Say.ok] at hK ⊢
                    clear hd
                    change Hid _ at hK
                    obtain ⟨hcR, hfR, hzR⟩ := nwc hR
                    first | (refine wanted_yes ?_ ?_; rfl) | (refine wanted_no ?_ ?_; rfl)
                    go_wp2_with (first | fail)
                    all_goals (refine hK.out _ _ ?_ ?_ <;> first | (solve | (repeat (first | assumption | exact Nw.refl _ | refine Nw.alloc ?_ _ | refine Nw.drew ?_ | refine Nw.drewN2 ?_ _ | (refine Nw.trans ?_ (by assumption))))) | exact rfl)
                  try simp only [Act.put, List.setIfInBounds_toArray, List.set_cons_zero, List.set_cons_succ, Nat.reduceAdd, List.length_nil, List.length_cons, List.nil_append, List.cons_append]
                refine Stairs.nil ?_
                intro x wR hR hx
                clear hx
                obtain ⟨hcR, hfR, hzR⟩ := nwc hR
                go_wp2
                go_ret3
                exact ⟨_, _, by rw [HF.out]; rfl, by rw [HF.out]; exact Own.nil _ _ _, (hsiR.nw hn2).nw hR, by omega, (hmdR.nw hn2).nw hR⟩
            · have hdl : decide (l.length < z0) = false := decide_eq_false hlt
              obtain rfl : z0 = l.length := by omega
              rw [Nat.sub_self] at HP0
              have HQ := hid (show X = if c.length < i + 4 then noHd mm else headE c l i from HP0.out)
              clear HP0
              by_cases h4 : i + 4 ≤ r
              · have HPK := hid (part_ok B a g b sc r (c.take i) ((c.drop i).take 4) vb n' 4 wr hL.st ok (by omega) hacl (by omega) (by rw [HTI.out]; exact HOK.out i 4 h4))
                have hj4 : c.take i ++ (c.drop i).take 4 = c.take (i + 4) := by rw [List.take_add]
                rw [if_neg (by omega)] at HQ
                have HQ2 := hid (show X = if (right (c.take (i + 4))).isSome = true then (l, (i : Int) + 4, 0) else noHd 5 from HQ.out)
                have hac4 : (c.take (i + 4)).length ≤ 1000000000 := by rw [List.length_take]; omega
                have HT4 := hid (show (c.take (i + 4)).length = i + 4 by rw [List.length_take]; omega)
                have d0 := heap_cell hL.st.1 0
                have d1 := heap_cell hL.st.1 1
                have d2 := heap_cell hL.st.1 2
                have gl := hL.st.lt
                simp only [List.getElem?_toArray, List.getElem?_cons_succ, List.getElem?_cons_zero] at d0 d1 d2
                go_upto_region 15 with (first
                  | (go_at_call 53; refine HPK.out.mono ?_; rintro e' w3 ⟨v3, vb3, n3, rfl, hown3, hst3, hn3, hap3, hm3⟩; rw [hj4] at hst3; obtain ⟨p3, c3, rfl, _⟩ := hown3.sl.open (n := ((c.drop i).take 4).length) (u8s_length _))
                  | fail)
                replace hL := HdL.other hL hm3 (fun j hj => hj) hst3 (fun j hj => (hap3 j hj).1)
                clear d0 d1 d2 gl hst3 hm3 HPK q4 gq hap3 hown3 hj4 HQ
                obtain ⟨pb3, cb3, rfl, _⟩ := hL.st.2.1.sl.open (n := i + 4) ((u8s_length _).trans HT4.out)
                have d0 := heap_cell hL.st.1 0
                have d1 := heap_cell hL.st.1 1
                have d2 := heap_cell hL.st.1 2
                have gl := hL.st.lt
                simp only [List.getElem?_toArray, List.getElem?_cons_succ, List.getElem?_cons_zero] at d0 d1 d2
                have HRI := hid (fun w' (h : Nw w3 w') => Sum.right_c _ (c.take (i + 4)) w' (Bytes.nw (show Bytes w3 _ (c.take (i + 4)) from hL.st.2.1.sl) h) (Nat.le_trans hac4 (by decide)))
                generalize c.take (i + 4) = c4 at *
                cases hG : (right c4).isSome with
                | true =>
                  rw [hG] at HQ2
                  have HF := hid (HQ2.out.trans (if_pos (by trivial)))
                  have HWN := hid (fun w' (h : Nw w3 w') => want_no B a g b sc r _ _ _ _ true w' (hL.st.nw h) (Or.inr rfl))
                  have hsiR := hL.st.2.2.1
                  have hmdR := hL.md
                  have hnmR := Own.mono hL.nm (Nat.le_succ_of_le hL.lo)
                  clear hL HQ2
                  go_upto_region 19 with (first
                    | (go_at_call 57; refine (HRI.out _ (by repeat (first | assumption | exact Nw.refl _ | refine Nw.alloc ?_ _ | refine Nw.drew ?_ | refine Nw.drewN2 ?_ _ | (refine Nw.trans ?_ (by assumption))))).mono ?_; rintro e' w2 ⟨v2, rfl, hb2, hn2⟩; rw [hG]; obtain ⟨p2, c2, rfl, _⟩ := hb2.open; clear hb2; replace d0 := hn2.cell d0; replace d1 := hn2.cell d1; replace d2 := hn2.cell d2; replace gl := Nat.lt_of_lt_of_le gl hn2.size)
                    | (go_at_call 54; refine (HWN.out _ (by repeat (first | assumption | exact Nw.refl _ | refine Nw.alloc ?_ _ | refine Nw.drew ?_ | refine Nw.drewN2 ?_ _ | (refine Nw.trans ?_ (by assumption))))).mono ?_; rintro e' w' ⟨rfl, rfl⟩)
                    | fail)
                  refine wp_region_stairs (by kernel_rfl) (by kernel_rfl) (by kernel_rfl) ?_
                  iterate 9
                    refine Stairs.is ?_ ?_ ?_
                    rotate_left 1
                    · intro x wR hR hd K hK
                      simp only [Act.put, List.setIfInBounds_toArray, List.set_cons_zero, List.set_cons_succ, Nat.reduceAdd, List.length_nil, List.length_cons, List.nil_append, List.cons_append, Say.ok] at hK ⊢
                      clear hd
                      change Hid _ at hK
                      obtain ⟨hcR, hfR, hzR⟩ := nwc hR
                      first | (refine wanted_yes ?_ ?_; rfl) | (refine wanted_no ?_ ?_; rfl)
                      go_wp2_with (first | fail)
                      all_goals (refine hK.out _ _ ?_ ?_ <;> first | (solve | (repeat (first | assumption | exact Nw.refl _ | refine Nw.alloc ?_ _ | refine Nw.drew ?_ | refine Nw.drewN2 ?_ _ | (refine Nw.trans ?_ (by assumption))))) | exact rfl)
                    try simp only [Act.put, List.setIfInBounds_toArray, List.set_cons_zero, List.set_cons_succ, Nat.reduceAdd, List.length_nil, List.length_cons, List.nil_append, List.cons_append]
                  refine Stairs.nil ?_
                  intro x wR hR hx
                  clear hx
                  obtain ⟨hcR, hfR, hzR⟩ := nwc hR
                  go_wp2
                  go_ret3
                  exact ⟨.slice pv l.length cv, _, by rw [HF.out]; simp, by rw [HF.out]; exact (hnmR.nw hn2).nw hR, (hsiR.nw hn2).nw hR, by omega, (hmdR.nw hn2).nw hR⟩
                | false =>
                  rw [hG] at HQ2
                  have HF := hid (HQ2.out.trans (if_neg (by decide)))
                  have hsiR := hL.st.2.2.1
                  have hmdR := hL.md
                  clear HQ2
                  have HWY := hid (fun w' (h : Nw w3 w') => want_yes B a g b sc r _ _ _ w' (hL.st.nw h))
                  go_upto_region 17 with (first
                    | (go_at_call 57; refine (HRI.out _ (by repeat (first | assumption | exact Nw.refl _ | refine Nw.alloc ?_ _ | refine Nw.drew ?_ | refine Nw.drewN2 ?_ _ | (refine Nw.trans ?_ (by assumption))))).mono ?_; rintro e' w2 ⟨v2, rfl, hb2, hn2⟩; rw [hG]; obtain ⟨p2, c2, rfl, _⟩ := hb2.open; clear hb2)
                    | (go_at_call 54; refine (HWY.out _ (by repeat (first | assumption | exact Nw.refl _ | refine Nw.alloc ?_ _ | refine Nw.drew ?_ | refine Nw.drewN2 ?_ _ | (refine Nw.trans ?_ (by assumption))))).mono ?_; rintro e' w5 ⟨rfl, hst5, hm5⟩)
                    | fail)
                  replace hL := HdL.other (hL.nw hn2) hm5 (fun j hj => Or.inr (Or.inl hj)) hst5 (fun j hj => Or.inl hj)
                  clear d0 d1 d2 gl
                  have d0 := heap_cell hL.st.1 0
                  have d1 := heap_cell hL.st.1 1
                  have d2 := heap_cell hL.st.1 2
                  have gl := hL.st.lt
                  simp only [List.getElem?_toArray, List.getElem?_cons_succ, List.getElem?_cons_zero] at d0 d1 d2
                  have hsi5 := hL.st.2.2.1
                  have hmd5 := hL.md
                  clear hL hst5 hm5 HWY hsiR hmdR
                  go_upto_region 18 with fail
                  refine wp_region_stairs (by kernel_rfl) (by kernel_rfl) (by kernel_rfl) ?_
                  iterate 7
                    refine Stairs.is ?_ ?_ ?_
                    rotate_left 1
                    · intro x wR hR hd K hK
                      simp only [Act.put, List.setIfInBounds_toArray, List.set_cons_zero, List.set_cons_succ, Nat.reduceAdd, List.length_nil, List.length_cons, List.nil_append, List.cons_append, Say.ok] at hK ⊢
                      clear hd
                      change Hid _ at hK
                      obtain ⟨hcR, hfR, hzR⟩ := nwc hR
                      first | (refine wanted_yes ?_ ?_; rfl) | (refine wanted_no ?_ ?_; rfl)
                      go_wp2_with (first | fail)
                      all_goals (refine hK.out _ _ ?_ ?_ <;> first | (solve | (repeat (first | assumption | exact Nw.refl _ | refine Nw.alloc ?_ _ | refine Nw.drew ?_ | refine Nw.drewN2 ?_ _ | (refine Nw.trans ?_ (by assumption))))) | exact rfl)
                    try simp only [Act.put, List.setIfInBounds_toArray, List.set_cons_zero, List.set_cons_succ, Nat.reduceAdd, List.length_nil, List.length_cons, List.nil_append, List.cons_append]
                  refine Stairs.nil ?_
                  intro x wR hR hx
                  clear hx
                  obtain ⟨hcR, hfR, hzR⟩ := nwc hR
                  go_wp2
                  go_ret3
                  exact ⟨_, _, by rw [HF.out]; rfl, by rw [HF.out]; exact Own.nil _ _ _, hsi5.nw hR, by omega, hmd5.nw hR⟩
              · obtain ⟨xs, y, hrd, hy, hmy⟩ := HER.out i 4 hir h4
                have HPE := hid (part_err B a g b sc r (c.take i) xs vb n' 4 y wr hL.st ok (by omega) hacl (by omega) (by rw [HTI.out]; exact hrd) hy)
                rw [hmy] at HPE
                have HF := hid (show X = noHd mm by rw [HQ.out, if_pos (by omega)])
                have d0 := heap_cell hL.st.1 0
                have d1 := heap_cell hL.st.1 1
                have d2 := heap_cell hL.st.1 2
                have gl := hL.st.lt
                simp only [List.getElem?_toArray, List.getElem?_cons_succ, List.getElem?_cons_zero] at d0 d1 d2
                go_upto_region 15 with (first
                  | (go_at_call 53; refine HPE.out.mono ?_; rintro e' w3 ⟨rfl, ⟨n3, hn3, hst3⟩, hm3⟩)
                  | fail)
                replace hL := HdL.other hL hm3 (fun j hj => by rcases hj with z | z; exact Or.inl z; exact Or.inr (Or.inl z)) hst3 (fun j hj => Or.inl hj)
                have he := hmn
                have hde : (mm != 0) = true := by simpa using hmn
                have hde0 : (mm == 0) = false := beq_eq_false_iff_ne.2 hmn
                clear d0 d1 d2 gl hst3 hm3 HPE q4 gq
                -- behind the last part: w3: the world; (c.take i): the bytes; hL : HdL w w3 .. with an error e (he, hde, hde0); HF; hacl; hnN
                have d0 := heap_cell hL.st.1 0
                have d1 := heap_cell hL.st.1 1
                have d2 := heap_cell hL.st.1 2
                have gl := hL.st.lt
                simp only [List.getElem?_toArray, List.getElem?_cons_succ, List.getElem?_cons_zero] at d0 d1 d2
                have HRI := hid (fun w' (h : Nw w3 w') => Sum.right_c _ (c.take i) w' (Bytes.nw (show Bytes w3 _ (c.take i) from hL.st.2.1.sl) h) (Nat.le_trans hacl (by decide)))
                have HWN := hid (fun q w' (h : Nw w3 w') => want_no B a g b sc r _ _ _ _ q w' (hL.st.nw h) (Or.inl he))
                have hsiR := hL.st.2.2.1
                have hmdR := hL.md
                clear hL
                go_upto_region 18 with (first
                  | (go_at_call 57; refine (HRI.out _ (by repeat (first | assumption | exact Nw.refl _ | refine Nw.alloc ?_ _ | refine Nw.drew ?_ | refine Nw.drewN2 ?_ _ | (refine Nw.trans ?_ (by assumption))))).mono ?_; rintro e' w2 ⟨v2, rfl, hb2, hn2⟩; obtain ⟨p2, c2, rfl, _⟩ := hb2.open; clear hb2; replace d0 := hn2.cell d0; replace d1 := hn2.cell d1; replace d2 := hn2.cell d2; replace gl := Nat.lt_of_lt_of_le gl hn2.size)
                  | (go_at_call 54; refine (HWN.out _ _ (by repeat (first | assumption | exact Nw.refl _ | refine Nw.alloc ?_ _ | refine Nw.drew ?_ | refine Nw.drewN2 ?_ _ | (refine Nw.trans ?_ (by assumption))))).mono ?_; rintro e' w' ⟨rfl, rfl⟩)
                  | fail)
                refine wp_region_stairs (by kernel_rfl) (by kernel_rfl) (by kernel_rfl) ?_
                iterate 7
                  refine Stairs.is ?_ ?_ ?_
                  rotate_left 1
                  · intro x wR hR hd K hK
                    simp only [Act.put, List.setIfInBounds_toArray, List.set_cons_zero, List.set_cons_succ, Nat.reduceAdd, List.length_nil, List.length_cons, List.nil_append, List.cons_append, Say.ok] at hK ⊢
                    clear hd
                    change Hid _ at hK
                    obtain ⟨hcR, hfR, hzR⟩ := nwc hR
                    first | (refine wanted_yes ?_ ?_; rfl) | (refine wanted_no ?_ ?_; rfl)
                    go_wp2_with (first | fail)
                    all_goals (refine hK.out _ _ ?_ ?_ <;> first | (solve | (repeat (first | assumption | exact Nw.refl _ | refine Nw.alloc ?_ _ | refine Nw.drew ?_ | refine Nw.drewN2 ?_ _ | (refine Nw.trans ?_ (by assumption))))) | exact rfl)
                  try simp only [Act.put, List.setIfInBounds_toArray, List.set_cons_zero, List.set_cons_succ, Nat.reduceAdd, List.length_nil, List.length_cons, List.nil_append, List.cons_append]
                refine Stairs.nil ?_
                intro x wR hR hx
                clear hx
                obtain ⟨hcR, hfR, hzR⟩ := nwc hR
                go_wp2
                go_ret3
                exact ⟨_, _, by rw [HF.out]; rfl, by rw [HF.out]; exact Own.nil _ _ _, (hsiR.nw hn2).nw hR, by omega, (hmdR.nw hn2).nw hR⟩
          · have HF := hid (HE.out he)
            have hde : (e != 0) = true := by simpa using he
            have hde0 : (e == 0) = false := beq_eq_false_iff_ne.2 he
            clear HP HE
            have d0 := heap_cell hL.st.1 0
            have d1 := heap_cell hL.st.1 1
            have d2 := heap_cell hL.st.1 2
            have gl := hL.st.lt
            simp only [List.getElem?_toArray, List.getElem?_cons_succ, List.getElem?_cons_zero] at d0 d1 d2
            go_upto_region 14 with fail
            clear d0 d1 d2 gl q4 gq
            -- wr: the world; hL : HdL w wr .. with an error e (he, hde, hde0); HF
            have d0 := heap_cell hL.st.1 0
            have d1 := heap_cell hL.st.1 1
            have d2 := heap_cell hL.st.1 2
            have gl := hL.st.lt
            simp only [List.getElem?_toArray, List.getElem?_cons_succ, List.getElem?_cons_zero] at d0 d1 d2
            have HN4 := hid (part_no B a g b sc r _ _ _ _ 4 wr hL.st he)
            go_upto_region 15 with (first
              | (go_at_call 53; refine HN4.out.mono ?_; rintro e' w' ⟨rfl, rfl⟩)
              | fail)
            clear d0 d1 d2 gl HN4
            -- behind the last part: wr: the world; (c.take i): the bytes; hL : HdL w wr .. with an error e (he, hde, hde0); HF; hacl; hnN
            have d0 := heap_cell hL.st.1 0
            have d1 := heap_cell hL.st.1 1
            have d2 := heap_cell hL.st.1 2
            have gl := hL.st.lt
            simp only [List.getElem?_toArray, List.getElem?_cons_succ, List.getElem?_cons_zero] at d0 d1 d2
            have HRI := hid (fun w' (h : Nw wr w') => Sum.right_c _ (c.take i) w' (Bytes.nw (show Bytes wr _ (c.take i) from hL.st.2.1.sl) h) (Nat.le_trans hacl (by decide)))
            have HWN := hid (fun q w' (h : Nw wr w') => want_no B a g b sc r _ _ _ _ q w' (hL.st.nw h) (Or.inl he))
            have hsiR := hL.st.2.2.1
            have hmdR := hL.md
            clear hL
            go_upto_region 18 with (first
              | (go_at_call 57; refine (HRI.out _ (by repeat (first | assumption | exact Nw.refl _ | refine Nw.alloc ?_ _ | refine Nw.drew ?_ | refine Nw.drewN2 ?_ _ | (refine Nw.trans ?_ (by assumption))))).mono ?_; rintro e' w2 ⟨v2, rfl, hb2, hn2⟩; obtain ⟨p2, c2, rfl, _⟩ := hb2.open; clear hb2; replace d0 := hn2.cell d0; replace d1 := hn2.cell d1; replace d2 := hn2.cell d2; replace gl := Nat.lt_of_lt_of_le gl hn2.size)
              | (go_at_call 54; refine (HWN.out _ _ (by repeat (first | assumption | exact Nw.refl _ | refine Nw.alloc ?_ _ | refine Nw.drew ?_ | refine Nw.drewN2 ?_ _ | (refine Nw.trans ?_ (by assumption))))).mono ?_; rintro e' w' ⟨rfl, rfl⟩)
              | fail)
            refine wp_region_stairs (by kernel_rfl) (by kernel_rfl) (by kernel_rfl) ?_
            iterate 7
              refine Stairs.is ?_ ?_ ?_
              rotate_left 1
              · intro x wR hR hd K hK
                simp only [Act.put, List.setIfInBounds_toArray, List.set_cons_zero, List.set_cons_succ, Nat.reduceAdd, List.length_nil, List.length_cons, List.nil_append, List.cons_append, Say.ok] at hK ⊢
                clear hd
                change Hid _ at hK
                obtain ⟨hcR, hfR, hzR⟩ := nwc hR
                first | (refine wanted_yes ?_ ?_; rfl) | (refine wanted_no ?_ ?_; rfl)
                go_wp2_with (first | fail)
                all_goals (refine hK.out _ _ ?_ ?_ <;> first | (solve | (repeat (first | assumption | exact Nw.refl _ | refine Nw.alloc ?_ _ | refine Nw.drew ?_ | refine Nw.drewN2 ?_ _ | (refine Nw.trans ?_ (by assumption))))) | exact rfl)
              try simp only [Act.put, List.setIfInBounds_toArray, List.set_cons_zero, List.set_cons_succ, Nat.reduceAdd, List.length_nil, List.length_cons, List.nil_append, List.cons_append]
            refine Stairs.nil ?_
            intro x wR hR hx
            clear hx
            obtain ⟨hcR, hfR, hzR⟩ := nwc hR
            go_wp2
            go_ret3
            exact ⟨_, _, by rw [HF.out]; rfl, by rw [HF.out]; exact Own.nil _ _ _, (hsiR.nw hn2).nw hR, by omega, (hmdR.nw hn2).nw hR⟩
    · have hst := HM2.out hm
      have hd3 : ¬ st.toList = [87, 71, 76, 1] := toList_ne hst
      have HF := hid (HN.out (Or.inl hm))
      have HWY := hid (want_yes B a g b sc r _ _ _ w2 hL.st)
      have d0 := heap_cell hL.st.1 0
      have d1 := heap_cell hL.st.1 1
      have d2 := heap_cell hL.st.1 2
      have gl := hL.st.lt
      simp only [List.getElem?_toArray, List.getElem?_cons_succ, List.getElem?_cons_zero] at d0 d1 d2
      go_upto_region 6 with (first
        | (go_at_call 54; refine HWY.out.mono ?_; rintro e' w3 ⟨rfl, hst3, hm3⟩)
        | fail)
      replace hL := HdL.other hL hm3 (fun j hj => Or.inr (Or.inl hj)) hst3 (fun j hj => Or.inl hj)
      have he : (5 : Int) ≠ 0 := by decide
      have hde : ((5 : Int) != 0) = true := rfl
      have hde0 : ((5 : Int) == 0) = false := rfl
      clear d0 d1 d2 gl HWY hst3 hm3 q4 hs4
      -- the loop is not entered: w3: the world; hL, he, hde, hde0, HF
      go_wp2
      go_loopw [7, 8, 9] (fun vn _ _ wr => vn = .slice none 0 0 ∧ wr = w3) (fun _ _ _ _ => 0)
      case atStart => exact ⟨rfl, rfl⟩
      case round =>
        obtain ⟨rfl, rfl⟩ := hrel
        have d0 := heap_cell hL.st.1 0
        have d1 := heap_cell hL.st.1 1
        have d2 := heap_cell hL.st.1 2
        have gl := hL.st.lt
        simp only [List.getElem?_toArray, List.getElem?_cons_succ, List.getElem?_cons_zero] at d0 d1 d2
        go_upto_region 14 with fail
        clear d0 d1 d2 gl
        -- wr: the world; hL : HdL w wr .. with an error e (he, hde, hde0); HF
        have d0 := heap_cell hL.st.1 0
        have d1 := heap_cell hL.st.1 1
        have d2 := heap_cell hL.st.1 2
        have gl := hL.st.lt
        simp only [List.getElem?_toArray, List.getElem?_cons_succ, List.getElem?_cons_zero] at d0 d1 d2
        have HN4 := hid (part_no B a g b sc r _ _ _ _ 4 wr hL.st he)
        go_upto_region 15 with (first
          | (go_at_call 53; refine HN4.out.mono ?_; rintro e' w' ⟨rfl, rfl⟩)
          | fail)
        clear d0 d1 d2 gl HN4
        -- behind the last part: wr: the world; (c.take 5): the bytes; hL : HdL w wr .. with an error e (he, hde, hde0); HF; hacl; hnN
        have d0 := heap_cell hL.st.1 0
        have d1 := heap_cell hL.st.1 1
        have d2 := heap_cell hL.st.1 2
        have gl := hL.st.lt
        simp only [List.getElem?_toArray, List.getElem?_cons_succ, List.getElem?_cons_zero] at d0 d1 d2
        have HRI := hid (fun w' (h : Nw wr w') => Sum.right_c _ (c.take 5) w' (Bytes.nw (show Bytes wr _ (c.take 5) from hL.st.2.1.sl) h) (Nat.le_trans hacl (by decide)))
        have HWN := hid (fun q w' (h : Nw wr w') => want_no B a g b sc r _ _ _ _ q w' (hL.st.nw h) (Or.inl he))
        have hsiR := hL.st.2.2.1
        have hmdR := hL.md
        clear hL
        go_upto_region 18 with (first
          | (go_at_call 57; refine (HRI.out _ (by repeat (first | assumption | exact Nw.refl _ | refine Nw.alloc ?_ _ | refine Nw.drew ?_ | refine Nw.drewN2 ?_ _ | (refine Nw.trans ?_ (by assumption))))).mono ?_; rintro e' w2 ⟨v2, rfl, hb2, hn2⟩; obtain ⟨p2, c2, rfl, _⟩ := hb2.open; clear hb2; replace d0 := hn2.cell d0; replace d1 := hn2.cell d1; replace d2 := hn2.cell d2; replace gl := Nat.lt_of_lt_of_le gl hn2.size)
          | (go_at_call 54; refine (HWN.out _ _ (by repeat (first | assumption | exact Nw.refl _ | refine Nw.alloc ?_ _ | refine Nw.drew ?_ | refine Nw.drewN2 ?_ _ | (refine Nw.trans ?_ (by assumption))))).mono ?_; rintro e' w' ⟨rfl, rfl⟩)
          | fail)
        refine wp_region_stairs (by kernel_rfl) (by kernel_rfl) (by kernel_rfl) ?_
        iterate 7
          refine Stairs.is ?_ ?_ ?_
          rotate_left 1
          · intro x wR hR hd K hK
            simp only [Act.put, List.setIfInBounds_toArray, List.set_cons_zero, List.set_cons_succ, Nat.reduceAdd, List.length_nil, List.length_cons, List.nil_append, List.cons_append, Say.ok] at hK ⊢
            clear hd
            change Hid _ at hK
            obtain ⟨hcR, hfR, hzR⟩ := nwc hR
            first | (refine wanted_yes ?_ ?_; rfl) | (refine wanted_no ?_ ?_; rfl)
            go_wp2_with (first | fail)
            all_goals (refine hK.out _ _ ?_ ?_ <;> first | (solve | (repeat (first | assumption | exact Nw.refl _ | refine Nw.alloc ?_ _ | refine Nw.drew ?_ | refine Nw.drewN2 ?_ _ | (refine Nw.trans ?_ (by assumption))))) | exact rfl)
          try simp only [Act.put, List.setIfInBounds_toArray, List.set_cons_zero, List.set_cons_succ, Nat.reduceAdd, List.length_nil, List.length_cons, List.nil_append, List.cons_append]
        refine Stairs.nil ?_
        intro x wR hR hx
        clear hx
        obtain ⟨hcR, hfR, hzR⟩ := nwc hR
        go_wp2
        go_ret3
        exact ⟨_, _, by rw [HF.out]; rfl, by rw [HF.out]; exact Own.nil _ _ _, (hsiR.nw hn2).nw hR, by omega, (hmdR.nw hn2).nw hR⟩
theorem head_c (B a : Nat) (b : List UInt8) (sc : List Int) (r n : Nat) (w : World) (h : SI w B a b sc r n) (ok : Ok b sc r) (hn : n ≤ 10000000000000) :
    Calls Try.prog 22 #[.pointer (some ⟨a, 0, none⟩)] w (HandsHs w B a b sc r n (headR (b.take r) (miss b r))) :=
  (head_o B a b sc r n w h ok hn).mono fun _ _ ⟨v, n', h1, h2, h3, h4, h5⟩ => ⟨v, n', h1, h2.sl, h3, h4, h5⟩
end Sc
end Go.Proofs.Ytdihoedehmfgfaa
