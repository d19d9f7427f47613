/- The contract of slices.Insert of one bucket. No condition but lengths. -/
import Derived.Test.YthellicimicieaaWinN
set_option linter.unusedSimpArgs false
set_option linter.unusedVariables false
namespace Go.Proofs.Ythellicimicieaa
open Go.ChangeShapes Go.WideShapes Go.ChangeAt Go.RowKit
namespace Wn
open Ival Words
/-- What Insert hands back: a row of the call's own. -/
def HandsI (w : World) (B : Nat) (bs : Bs) (e : Ending) (w' : World) : Prop := ∃ v, e = .returned v ∧ BkOwn w' B v bs ∧ ∀ w00, Nw w00 w → w00.heap.size ≤ B → Nw w00 w'
theorem bucket_size : (Try.prog.info? 60).map (·.size) = some 2 := by kernel_rfl
theorem bucket_sizeOf (w : World) : (sizeOf 60).run Try.prog w = .ok 2 w := by
  obtain ⟨i, hi, h0, h1, h2⟩ := info_parts info_bucket
  simp [sizeOf, typeInfo, hi, h1]
set_option maxRecDepth 20000 in
set_option maxHeartbeats 1600000 in
theorem insert_end (B : Nat) (v : Value) (bs : Bs) (c : Int) (s : List Wd) (u : Value) (w : World) (h : BkOwn w B v bs) (hB : B ≤ w.heap.size) (hu : Words.Set w u s) (hne : ∀ k, u.ownBlock = some k → v.ownBlock ≠ some k) (hlen : bs.length ≤ 1000000) :
    Calls Try.prog 67 #[v, .int .i64 (bs.length : Int), .slice (some ⟨w.heap.size, 0, none⟩) 1 1] (w.alloc (.cells #[.int .i64 c, u] 60)) (HandsI w B (bs ++ [(c, s)])) := by
  obtain ⟨q, cap, rfl, hcap, hmx, _⟩ := h.bks
  unfold maxLen at hmx
  by_cases hcn : cap = bs.length
  · subst hcn
    go_enter Try.func67, Try.ntmps67
    go_wp2_with (first
      | (at_builtin; refine appBk rfl _ _ _ rfl Try.underlying28 h hB rfl rfl hu hne (by omega) ?_; intro v6 w6 hadd6 hn6 hm6)
      | fail)
    go_ret
    exact ⟨_, rfl, hadd6, hn6⟩
  · skip
    go_enter Try.func67, Try.ntmps67
    go_wp2_with (first
      | (at_builtin; refine appBk rfl _ _ _ rfl Try.underlying28 h hB rfl rfl hu hne (by omega) ?_; intro v6 w6 hadd6 hn6 hm6)
      | fail)
    go_ret
    exact ⟨_, rfl, hadd6, hn6⟩
theorem ins_getD {α : Type} (l : List α) (i : Nat) (hi : i ≤ l.length) (x d : α) (j : Nat) : (l.take i ++ x :: l.drop i).getD j d = if j < i then l.getD j d else if j = i then x else l.getD (j - 1) d := by
  have hl : (l.take i).length = i := by rw [List.length_take]; omega
  simp only [List.getD_eq_getElem?_getD]
  by_cases h : j < i
  · rw [if_pos h, List.getElem?_append_left (by omega), List.getElem?_take, if_pos h]
  · rw [if_neg h, List.getElem?_append_right (by omega), hl]
    by_cases h2 : j = i
    · rw [if_pos h2, h2, Nat.sub_self]; rfl
    · rw [if_neg h2, show j - i = (j - i - 1) + 1 by omega, List.getElem?_cons_succ, List.getElem?_drop, show i + (j - i - 1) = j - 1 by omega]
theorem bkOwn_ins {W : World} {B g c0 i : Nat} {bs : Bs} {vs : List Value} {c : Int} {s : List Wd} {u : Value} {L2 : List Value} (hi : i < bs.length) (h1 : vs.length = bs.length) (hBg : B ≤ g) (hmx : c0 ≤ maxLen) (hroom : bs.length + 1 ≤ c0) (hW : W.heap[g]? = some (.cells L2.toArray 60 (0, 0)))
    (hl2 : L2.length = c0 * 2) (ht : L2.take ((bs.length + 1) * 2) = (bkc bs vs).take (i * 2) ++ [.int .i64 c, u] ++ (bkc bs vs).drop (i * 2))
    (hs : ∀ j, j < bs.length → Words.Set W (vs.getD j undef) (st bs j) ∧ (st bs j ≠ [] → ∀ k, (vs.getD j undef).ownBlock = some k → k ≠ g)) (hu : Words.Set W u s) (hug : s ≠ [] → ∀ k, u.ownBlock = some k → k ≠ g) :
    BkOwn W B (.slice (some ⟨g, 0, none⟩) (bs.length + 1) c0) (bs.take i ++ (c, s) :: bs.drop i) := by
  have hln : (bs.take i ++ (c, s) :: bs.drop i).length = bs.length + 1 := by simp only [List.length_append, List.length_take, List.length_cons, List.length_drop]; omega
  have hlv : (vs.take i ++ u :: vs.drop i).length = bs.length + 1 := by simp only [List.length_append, List.length_take, List.length_cons, List.length_drop]; omega
  refine ⟨vs.take i ++ u :: vs.drop i, by rw [hlv, hln], ?_, fun j hj => ?_⟩
  · rw [hln, bkc_ins bs vs h1 i (by omega)]
    refine ⟨?_, .inr ⟨g, c0, L2.toArray, rfl, hBg, hW, hroom, hmx, by simpa using hl2, by simpa using ht⟩⟩
    rw [← ht, List.length_take]
    omega
  · rw [hln] at hj
    have e1 := ins_getD vs i (by omega) u undef j
    have e2 : st (bs.take i ++ (c, s) :: bs.drop i) j = if j < i then st bs j else if j = i then s else st bs (j - 1) := by
      have := ins_getD bs i (by omega) (c, s) (0, []) j
      unfold st
      rw [this]
      split
      · rfl
      · split <;> rfl
    rw [e1, e2]
    by_cases h : j < i
    · rw [if_pos h, if_pos h]
      exact ⟨(hs j (by omega)).1, fun h0 k hk q => (hs j (by omega)).2 h0 k hk (by cases q; rfl)⟩
    · rw [if_neg h, if_neg h]
      by_cases h2 : j = i
      · rw [if_pos h2, if_pos h2]
        exact ⟨hu, fun h0 k hk q => hug h0 k hk (by cases q; rfl)⟩
      · rw [if_neg h2, if_neg h2]
        exact ⟨(hs (j - 1) (by omega)).1, fun h0 k hk q => (hs (j - 1) (by omega)).2 h0 k hk (by cases q; rfl)⟩
set_option maxRecDepth 20000 in
set_option maxHeartbeats 600000 in
theorem insert_room (B g n c0 : Nat) (bs : Bs) (c : Int) (s : List Wd) (q : Option Addr) (ul uc : Nat) (i : Nat) (w : World) (h : BkOwn w B (.slice (some ⟨g, 0, none⟩) n c0) bs) (hn : bs.length = n) (hB : B ≤ w.heap.size) (hu : Words.Set w (.slice q ul uc) s) (hne : ∀ k, (Value.slice q ul uc).ownBlock = some k → k ≠ g) (hlen : n ≤ 1000000) (hi : i < n) (hroom : n + 1 ≤ c0) :
    Calls Try.prog 67 #[.slice (some ⟨g, 0, none⟩) n c0, .int .i64 (i : Int), .slice (some ⟨w.heap.size, 0, none⟩) 1 1] (w.alloc (.cells #[.int .i64 c, .slice q ul uc] 60)) (HandsI w B (bs.take i ++ (c, s) :: bs.drop i)) := by
  subst hn
  obtain ⟨vs, h1, h2, h3⟩ := id h
  obtain ⟨hBg, hgl⟩ := h.lt g rfl
  obtain ⟨cur, hg, hmx, hcs, htake⟩ : ∃ cur, w.heap[g]? = some (.cells cur 60 (0, 0)) ∧ c0 ≤ maxLen ∧ cur.size = c0 * 2 ∧ cur.toList.take (bs.length * 2) = bkc bs vs := by
    rcases h2.2 with ⟨e, _⟩ | ⟨g', cap, cur, e, _, hg, hn, hm, hs, ht⟩
    · cases e
    · cases e
      exact ⟨cur, hg, hm, hs, ht⟩
  unfold maxLen at hmx
  have hXl : (bkc bs vs).length = bs.length * 2 := bkc_len bs vs h1
  obtain ⟨l1, l2, l3⟩ := ins_room cur.toList (bkc bs vs) bs.length i (.int .i64 c) (.slice q ul uc) htake hXl hi (by have e : cur.toList.length = cur.size := Array.length_toList; rw [e, hcs]; omega)
  have hnA := (Nw.refl w).alloc (.cells #[.int .i64 c, .slice q ul uc] 60)
  have hgA := hnA.heap hg
  have hcA : Cells (w.alloc (.cells #[.int .i64 c, .slice q ul uc] 60)) (some ⟨w.heap.size, 0, none⟩) [.int .i64 c, .slice q ul uc] := cells_newAt w [_, _] _ _ _ rfl
  have hw7 := heap_new w (.cells #[.int .i64 c, .slice q ul uc] 60)
  have hov : ∀ lb cb, (callFunc 73 #[.slice (some ⟨w.heap.size, 0, none⟩) 1 1, .slice (some ⟨g, (i + 1) * 2, none⟩) lb cb]).run Try.prog (w.alloc (.cells #[.int .i64 c, .slice q ul uc] 60)) = .ok (.value (.bool false)) (w.alloc (.cells #[.int .i64 c, .slice q ul uc] 60)) := fun lb cb => by
    rw [run_callFunc_extern Try.func73 (by kernel_rfl) (by kernel_rfl) (by kernel_rfl) (e := Extern.SlicesOverlaps.overlaps #[28, 28] #[4]) (by kernel_rfl),
      Lib.run_overlaps_apart _ 28 4 60 Try.underlying28 2 bucket_sizeOf ⟨w.heap.size, 0, none⟩ ⟨g, (i + 1) * 2, none⟩ 1 1 lb cb (by simp; omega) 60 60 2 (c0 * 2) (by unfold World.shape?; dsimp only; rw [hw7]; rfl) (by unfold World.shape?; dsimp only; rw [hgA]; dsimp only; rw [hcs]) (by omega) (by unfold World.frozen?; dsimp only; rw [hw7]; rfl) (by unfold World.frozen?; dsimp only; rw [hw7]; rfl)]
    rfl
  have hfull : ∀ W, Nw w W → ∀ j v', ((bkc bs vs).drop (i * 2))[j]? = some v' → W.cell? ((⟨g, i * 2, none⟩ : Addr).add j) = some v' := fun W hW j v' hj => by
    have hj2 : (bkc bs vs)[i * 2 + j]? = some v' := by rwa [List.getElem?_drop] at hj
    have := (hW.ownsRow h2).cells (g := g) rfl (i * 2 + j) v' hj2
    rw [addr_add] at this ⊢
    simpa using this
  have hone : ∀ x ∈ bkc bs vs, x.oneCell' = true := fun x hx => by
    unfold bkc at hx
    obtain ⟨⟨b, y⟩, hm, hx⟩ := List.mem_flatMap.1 hx
    simp only [List.mem_cons, List.not_mem_nil, or_false] at hx
    rcases hx with rfl | rfl
    · rfl
    · have hy := (List.of_mem_zip hm).2
      obtain ⟨k, hk, e⟩ := List.getElem_of_mem hy
      obtain ⟨qq, cc, e2, _⟩ := (h3 k (by omega)).1.open
      have e3 : vs.getD k undef = x := by simp [List.getD_eq_getElem?_getD, hk, e]
      rw [← e3, e2]; rfl
  generalize hL1 : cur.toList.take ((i + 1) * 2) ++ (bkc bs vs).drop (i * 2) ++ cur.toList.drop ((i + 1) * 2 + ((bkc bs vs).drop (i * 2)).length) = L1 at l1 l2 l3
  generalize hL2 : L1.take (i * 2) ++ [.int .i64 c, .slice q ul uc] ++ L1.drop (i * 2 + 2) = L2 at l2 l3
  generalize hW0 : w.alloc (.cells #[.int .i64 c, .slice q ul uc] 60) = W0 at *
  have hdl : ((bkc bs vs).drop (i * 2)).length = (bs.length - i) * 2 := by rw [List.length_drop, hXl]; omega
  have hcul : cur.toList.length = cur.size := Array.length_toList
  have hcp1 : ∀ ty dc sc, (Builtin.copy_ #[28, 28] ty #[.slice (some ⟨g, (i + 1) * 2, none⟩) (bs.length + 1 - (i + 1)) dc, .slice (some ⟨g, i * 2, none⟩) (bs.length + 1 - i) sc]).run Try.prog W0.drew = .ok (goInt (Nat.min (bs.length + 1 - i) (bs.length + 1 - (i + 1)))) (W0.drew.setRow g L1.toArray) := fun ty dc sc => by
    have := run_copyN (P := Try.prog) W0.drew 28 28 ty 60 g ((i + 1) * 2) (bs.length + 1 - (i + 1)) dc ⟨g, i * 2, none⟩ (bs.length + 1 - i) sc cur 60 ((bkc bs vs).drop (i * 2)) 2 Try.underlying28 bucket_size hgA
      (by rw [hdl]; congr 1; show _ = min _ _; omega) (hfull W0.drew (by rw [← hW0]; exact ((Nw.refl w).alloc _).drew)) (by rw [hdl, hcs]; omega) (fun x hx => hone x (List.mem_of_mem_drop hx))
    rw [hL1] at this
    exact this
  have hg1 : (W0.drew.setRow g L1.toArray).heap[g]? = some (.cells L1.toArray 60 (0, 0)) := setRow_heap W0.drew g cur _ _ _ hgA
  have hcp2 : ∀ ty dc, (Builtin.copy_ #[28, 28] ty #[.slice (some ⟨g, i * 2, none⟩) (bs.length + 1 - i) dc, .slice (some ⟨w.heap.size, 0, none⟩) 1 1]).run Try.prog (W0.drew.setRow g L1.toArray) = .ok (goInt (Nat.min 1 (bs.length + 1 - i))) ((W0.drew.setRow g L1.toArray).setRow g L2.toArray) := fun ty dc => by
    have := run_copyN (P := Try.prog) (W0.drew.setRow g L1.toArray) 28 28 ty 60 g (i * 2) (bs.length + 1 - i) dc ⟨w.heap.size, 0, none⟩ 1 1 L1.toArray 60 [.int .i64 c, .slice q ul uc] 2 Try.underlying28 bucket_size hg1
      (by show 2 = min _ _ * 2; omega) (fun j v' hj => by
        obtain ⟨hjl, rfl⟩ := List.getElem?_eq_some_iff.1 hj
        obtain ⟨b, oo, e1, hcell⟩ := hcA j hjl
        cases e1
        rw [addr_add]
        exact (mods_row W0.drew g L1.toArray).cell hcell (by omega)) (by simp only [List.size_toArray, l1, hcul, hcs, List.length_cons, List.length_nil]; omega) (by simp [Value.oneCell'])
    rw [show [Value.int .i64 c, Value.slice q ul uc].length = 2 from rfl] at this
    rw [hL2] at this
    exact this
  have hm : Mods (fun k => k = g) W0 ((W0.drew.setRow g L1.toArray).setRow g L2.toArray) := (((Nw.refl W0).drew.mods _).trans (mods_row W0.drew g L1.toArray)).trans (mods_row _ g L2.toArray)
  have hnA' : Nw w W0 := by rw [← hW0]; exact (Nw.refl w).alloc _
  have HFIN := hid (show BkOwn ((W0.drew.setRow g L1.toArray).setRow g L2.toArray) B (.slice (some ⟨g, 0, none⟩) (bs.length + 1) c0) (bs.take i ++ (c, s) :: bs.drop i) from
    bkOwn_ins hi h1 hBg hmx hroom (setRow_heap _ g _ _ _ _ hg1) (by rw [l2, hcul, hcs]) l3 (fun j hj => ⟨set_mods ((h3 j hj).1.nw hnA') hm fun h0 k hk q => (h3 j hj).2 h0 k hk (by rw [q]; rfl), fun h0 k hk q => (h3 j hj).2 h0 k hk (by rw [q]; rfl)⟩) (set_mods (hu.nw hnA') hm fun _ k hk => hne k hk) (fun _ => hne))
  have HNW := hid (show ∀ w00, Nw w00 w → w00.heap.size ≤ B → Nw w00 ((W0.drew.setRow g L1.toArray).setRow g L2.toArray) from fun w00 q1 q2 => (q1.trans hnA').ofMods hm (fun k q => by omega))
  have HC1 := hid hcp1
  have HC2 := hid hcp2
  clear hcp1 hcp2 hm hnA' hg1 hcul hdl hL1 hL2 hone hfull l1 l2 l3 hXl htake hcs hgA hg hcA hw7 hnA h2 h3 h hu hne
  have hb2 : ¬ (c0 = i + 1) := by omega
  have hb4 : ¬ (c0 = i) := by omega
  have hz2 : ((i : Int) == (bs.length : Int)) = false := beq_eq_false_iff_ne.2 (by omega)
  have hz3 : decide ((c0 : Int) < (bs.length : Int) + 1) = false := decide_eq_false (by omega)
  clear hW0
  go_enter Try.func67, Try.ntmps67
  go_upto_region 15 with (simp only [hov])
  have ht1 : ((i : Int) + 1).toNat = i + 1 := by omega
  have hw1 : IntKind.i64.wrap ((i : Int) + 1) = (i : Int) + 1 := by rw [IntKind.wrap_i64]; omega
  have hb5 : (0 : Int) ≤ (i : Int) + 1 := by omega
  have hin : i ≤ bs.length + 1 := by omega
  have hin1 : i + 1 ≤ bs.length + 1 := by omega
  have hin0 : i ≤ bs.length := by omega
  have hin3 : (i : Int) ≤ (bs.length : Int) + 1 := by omega
  rw [show bs.length + 1 - (i + 1) = bs.length - i by omega] at HC1
  go_region_law (refine step_copy_run rfl (.tmp 73) (.tmp 76) 28 28 rfl (v := .slice (some ⟨g, (i + 1) * 2, none⟩) (bs.length - i) (c0 - (i + 1))) (u := .slice (some ⟨g, i * 2, none⟩) (bs.length + 1 - i) (c0 - i)) (by simp [Act.eval, Act.put]) (by simp [Act.eval, Act.put]) (HC1.out _ _ _) ?_)
  have hc2 := HC2.out 3 (c0 - i)
  all_goals
    go_wp2_with (simp only [hc2])
    go_ret
    exact ⟨_, rfl, HFIN.out, HNW.out⟩
end Wn
end Go.Proofs.Ythellicimicieaa
