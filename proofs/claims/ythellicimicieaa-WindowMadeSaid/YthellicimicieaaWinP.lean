/- The contract of slices.Insert of one bucket, where there is no room, and whole. No condition but lengths. -/
import Derived.Test.YthellicimicieaaWinO
import Derived.Lib.AppendZerosOnto
set_option linter.unusedSimpArgs false
set_option linter.unusedVariables false
namespace Go.Proofs.Ythellicimicieaa
open Go.ChangeShapes Go.WideShapes Go.ChangeAt Go.RowKit
namespace Wn
open Ival Words
/-- What the new block holds behind both copies. -/
theorem ins_grow (L X : List Value) (n i : Nat) (c u : Value) (hX : L.take (i * 2) = X.take (i * 2)) (hXl : X.length = n * 2) (hi : i < n) (hL : (n + 1) * 2 ≤ L.length) :
    let L1 := L.take (i * 2) ++ [c, u] ++ L.drop (i * 2 + 2)
    let cs := X.drop (i * 2)
    let L2 := L1.take ((i + 1) * 2) ++ cs ++ L1.drop ((i + 1) * 2 + cs.length)
    L1.length = L.length ∧ L2.length = L.length ∧ L2.take ((n + 1) * 2) = X.take (i * 2) ++ [c, u] ++ X.drop (i * 2) := by
  intro L1 cs L2
  have hcl : cs.length = (n - i) * 2 := by
    show (X.drop (i * 2)).length = _
    rw [List.length_drop, hXl]; omega
  have hl1 : L1.length = L.length := by
    show (L.take (i * 2) ++ [c, u] ++ L.drop (i * 2 + 2)).length = _
    simp only [List.length_append, List.length_take, List.length_drop, List.length_cons, List.length_nil]
    omega
  have ht1 : L1.take ((i + 1) * 2) = X.take (i * 2) ++ [c, u] := by
    show (L.take (i * 2) ++ [c, u] ++ _).take ((i + 1) * 2) = _
    have hlt : (L.take (i * 2) ++ [c, u]).length = (i + 1) * 2 := by
      simp only [List.length_append, List.length_take, List.length_cons, List.length_nil]
      omega
    rw [← hlt, List.take_left, hX]
  refine ⟨hl1, ?_, ?_⟩
  · show (L1.take ((i + 1) * 2) ++ cs ++ L1.drop ((i + 1) * 2 + cs.length)).length = _
    simp only [List.length_append, List.length_take, List.length_drop, hl1, hcl]
    omega
  · show (L1.take ((i + 1) * 2) ++ cs ++ _).take ((n + 1) * 2) = _
    rw [ht1]
    have hlt : (X.take (i * 2) ++ [c, u] ++ cs).length = (n + 1) * 2 := by
      simp only [List.length_append, List.length_take, hXl, hcl, List.length_cons, List.length_nil]
      omega
    rw [← hlt, List.take_left]
set_option maxRecDepth 20000 in
set_option maxHeartbeats 3200000 in
theorem insert_grow (B g n : Nat) (bs : Bs) (c : Int) (s : List Wd) (q : Option Addr) (ul uc : Nat) (i : Nat) (w : World) (h : BkOwn w B (.slice (some ⟨g, 0, none⟩) n n) bs) (hn : bs.length = n) (hB : B ≤ w.heap.size) (hu : Words.Set w (.slice q ul uc) s) (hlen : n ≤ 1000000) (hi : i < n) :
    Calls Try.prog 67 #[.slice (some ⟨g, 0, none⟩) n n, .int .i64 (i : Int), .slice (some ⟨w.heap.size, 0, none⟩) 1 1] (w.alloc (.cells #[.int .i64 c, .slice q ul uc] 60)) (HandsI w B (bs.take i ++ (c, s) :: bs.drop i)) := by
  subst hn
  obtain ⟨vs, h1, h2, h3⟩ := id h
  obtain ⟨hBg, hgl⟩ := h.lt g rfl
  have hXl : (bkc bs vs).length = bs.length * 2 := bkc_len bs vs h1
  have hnA := (Nw.refl w).alloc (.cells #[.int .i64 c, .slice q ul uc] 60)
  have hcA : Cells (w.alloc (.cells #[.int .i64 c, .slice q ul uc] 60)) (some ⟨w.heap.size, 0, none⟩) [.int .i64 c, .slice q ul uc] := cells_newAt w [_, _] _ _ _ rfl
  have hone : ∀ x ∈ bkc bs vs, x.oneCell' = true := fun x hx => by
    unfold bkc at hx
    obtain ⟨⟨b, y⟩, hm, hx⟩ := List.mem_flatMap.1 hx
    simp only [List.mem_cons, List.not_mem_nil, or_false] at hx
    rcases hx with rfl | rfl
    · rfl
    · have hy := (List.of_mem_zip hm).2
      obtain ⟨k, hk, e⟩ := List.getElem_of_mem hy
      obtain ⟨qq, cc, e2, _⟩ := (h3 k (by omega)).1.open
      have e3 : vs.getD k undef = x := by simp [List.getD_eq_getElem?_getD, hk, e]
      rw [← e3, e2]; rfl
  have hW0s : w.heap.size < (w.alloc (.cells #[.int .i64 c, .slice q ul uc] 60)).heap.size := by
    show w.heap.size < (w.heap.push _).size
    rw [Array.size_push]; omega
  have hcell : ∀ W, Nw w W → ∀ j v', (bkc bs vs)[j]? = some v' → W.cell? ((⟨g, 0, none⟩ : Addr).add j) = some v' := fun W hW j v' hj => (hW.ownsRow h2).cells (g := g) rfl j v' hj
  generalize w.alloc (.cells #[.int .i64 c, .slice q ul uc] 60) = W0 at *
  obtain ⟨info, hinf, hz0, hz1, hz2⟩ := info_parts info_bucket
  have hk0 : 0 < bs.length + 1 - i := by omega
  have hik : i + (bs.length + 1 - i) = bs.length + 1 := by omega
  have hr := Lib.run_append_grow_zeros (P := Try.prog) W0 28 3 28 60 info _ .i64 .i64 Try.underlying28 Try.underlying3 hinf hz0 (some ⟨g, 0, none⟩) i bs.length ((bkc bs vs).take (i * 2))
    (run_firstCells_some (w := W0.drew) info.size i ⟨g, 0, none⟩ i bs.length _ (by rw [hz1, List.length_take, hXl]; omega) (fun j v' hj => hcell W0.drew hnA.drew j v' (by
      rw [List.getElem?_take] at hj
      split at hj
      · exact hj
      · cases hj)))
    (bs.length + 1 - i) hk0 (by rw [hz1]; decide) (by omega) (by omega) (by rw [hz2]; omega) (by rw [hik, hz2]; exact growslice_fits (by omega) (by omega))
  rw [hik] at hr
  generalize hC : grownCap W0 (bs.length + 1) bs.length 60 = C at hr
  have hC1 : bs.length + 1 ≤ C := by rw [← hC]; exact grownCap_ge _ _ _ _
  have hC2 : C ≤ maxLen := by rw [← hC]; exact grownCap_le_maxLen _ _ _ _ (by unfold maxLen; omega)
  generalize hcur : (((bkc bs vs).take (i * 2)).toArray ++ Builtin.zeroCells (Value.agg #[Value.int IntKind.i64 0, Value.slice none 0 0]).cells (bs.length + 1 - i) ++ Builtin.zeroCells (Value.agg #[Value.int IntKind.i64 0, Value.slice none 0 0]).cells (C - (bs.length + 1))) = cur at hr
  have hcs : cur.size = C * 2 := by
    rw [← hcur]
    simp only [Array.size_append, size_zeroCells, List.size_toArray, List.length_take, hXl]
    show min (i * 2) (bs.length * 2) + (bs.length + 1 - i) * 2 + (C - (bs.length + 1)) * 2 = _
    omega
  have hcul : cur.toList.length = cur.size := Array.length_toList
  have htk : cur.toList.take (i * 2) = (bkc bs vs).take (i * 2) := by
    rw [← hcur]
    simp only [Array.toList_append, List.append_assoc]
    have hT : ((bkc bs vs).take (i * 2)).length = i * 2 := by rw [List.length_take, hXl]; omega
    generalize (bkc bs vs).take (i * 2) = T at *
    rw [← hT]
    exact List.take_left
  obtain ⟨l1, l2, l3⟩ := ins_grow cur.toList (bkc bs vs) bs.length i (.int .i64 c) (.slice q ul uc) htk hXl hi (by rw [hcul, hcs]; omega)
  clear hcur hC htk hz0 hz1 hz2
  generalize hL1 : cur.toList.take (i * 2) ++ [.int .i64 c, .slice q ul uc] ++ cur.toList.drop (i * 2 + 2) = L1 at l1 l2 l3
  generalize hL2 : L1.take ((i + 1) * 2) ++ (bkc bs vs).drop (i * 2) ++ L1.drop ((i + 1) * 2 + ((bkc bs vs).drop (i * 2)).length) = L2 at l2 l3
  have hdl : ((bkc bs vs).drop (i * 2)).length = (bs.length - i) * 2 := by rw [List.length_drop, hXl]; omega
  have hnB : Nw W0 (W0.drew.alloc (.cells cur 60)) := ((Nw.refl W0).drew).alloc _
  have hgB : (W0.drew.alloc (.cells cur 60)).heap[W0.heap.size]? = some (.cells cur 60 (0, 0)) := heap_new W0.drew (.cells cur 60)
  generalize W0.drew.alloc (.cells cur 60) = W1 at *
  have hcp1 : ∀ ty, (Builtin.copy_ #[28, 28] ty #[.slice (some ⟨W0.heap.size, i * 2, none⟩) (bs.length + 1 - i) (C - i), .slice (some ⟨w.heap.size, 0, none⟩) 1 1]).run Try.prog W1 = .ok (goInt (Nat.min 1 (bs.length + 1 - i))) (W1.setRow W0.heap.size L1.toArray) := fun ty => by
    have := run_copyN (P := Try.prog) W1 28 28 ty 60 W0.heap.size (i * 2) (bs.length + 1 - i) (C - i) ⟨w.heap.size, 0, none⟩ 1 1 cur 60 [.int .i64 c, .slice q ul uc] 2 Try.underlying28 bucket_size hgB
      (by show 2 = min _ _ * 2; omega) (fun j v' hj => by
        obtain ⟨hjl, rfl⟩ := List.getElem?_eq_some_iff.1 hj
        obtain ⟨b, oo, e1, hcell⟩ := hcA j hjl
        cases e1
        rw [addr_add]
        exact hnB.cell hcell) (by simp only [hcs, List.length_cons, List.length_nil]; omega) (by simp [Value.oneCell'])
    rw [show [Value.int .i64 c, Value.slice q ul uc].length = 2 from rfl] at this
    rw [hL1] at this
    exact this
  have hg1 : (W1.setRow W0.heap.size L1.toArray).drew.heap[W0.heap.size]? = some (.cells L1.toArray 60 (0, 0)) := setRow_heap W1 W0.heap.size cur _ _ _ hgB
  have hcp2 : ∀ ty, (Builtin.copy_ #[28, 28] ty #[.slice (some ⟨W0.heap.size, (i + 1) * 2, none⟩) (bs.length - i) (C - (i + 1)), .slice (some ⟨g, i * 2, none⟩) (bs.length - i) (bs.length - i)]).run Try.prog (W1.setRow W0.heap.size L1.toArray).drew = .ok (goInt (Nat.min (bs.length - i) (bs.length - i))) ((W1.setRow W0.heap.size L1.toArray).drew.setRow W0.heap.size L2.toArray) := fun ty => by
    have := run_copyN (P := Try.prog) (W1.setRow W0.heap.size L1.toArray).drew 28 28 ty 60 W0.heap.size ((i + 1) * 2) (bs.length - i) (C - (i + 1)) ⟨g, i * 2, none⟩ (bs.length - i) (bs.length - i) L1.toArray 60 ((bkc bs vs).drop (i * 2)) 2 Try.underlying28 bucket_size hg1
      (by rw [hdl]; congr 1; show _ = min _ _; omega) (fun j v' hj => by
        have hj2 : (bkc bs vs)[i * 2 + j]? = some v' := by rwa [List.getElem?_drop] at hj
        have h7 := hcell W1 (hnA.trans hnB) (i * 2 + j) v' hj2
        rw [addr_add] at h7 ⊢
        have h8 := (mods_row W1 W0.heap.size L1.toArray).cell h7 (by omega)
        simpa using h8) (by simp only [List.size_toArray, l1, hcul, hcs, hdl]; omega) (fun x hx => hone x (List.mem_of_mem_drop hx))
    rw [hL2] at this
    exact this
  have hm : Mods (fun k => k = W0.heap.size) W1 ((W1.setRow W0.heap.size L1.toArray).drew.setRow W0.heap.size L2.toArray) := ((mods_row W1 W0.heap.size L1.toArray).drew).trans (mods_row _ W0.heap.size L2.toArray)
  have HFIN := hid (show BkOwn ((W1.setRow W0.heap.size L1.toArray).drew.setRow W0.heap.size L2.toArray) B (.slice (some ⟨W0.heap.size, 0, none⟩) (bs.length + 1) C) (bs.take i ++ (c, s) :: bs.drop i) from
    bkOwn_ins hi h1 (Nat.le_trans hB (Nat.le_of_lt hW0s)) hC2 hC1 (setRow_heap _ _ _ _ _ _ hg1) (by rw [l2, hcul, hcs]) l3
      (fun j hj => ⟨set_mods ((h3 j hj).1.nw (hnA.trans hnB)) hm fun h0 k hk q => by have := Sl.lt (h3 j hj).1 (set_ne' h0) k hk; omega, fun h0 k hk q => by have := Sl.lt (h3 j hj).1 (set_ne' h0) k hk; omega⟩)
      (set_mods (hu.nw (hnA.trans hnB)) hm fun h0 k hk q => by have := Sl.lt hu (set_ne' h0) k hk; omega) (fun h0 k hk q => by have := Sl.lt hu (set_ne' h0) k hk; omega))
  have HNW := hid (show ∀ w00, Nw w00 w → w00.heap.size ≤ B → Nw w00 ((W1.setRow W0.heap.size L1.toArray).drew.setRow W0.heap.size L2.toArray) from fun w00 q1 q2 => (q1.trans (hnA.trans hnB)).ofMods hm (fun k q => by omega))
  have hk2 : (((bs.length + 1 - i : Nat)) : Int) = (bs.length : Int) + 1 - i := by omega
  rw [hk2] at hr
  have HR := hid hr
  have hc1 := hcp1 3
  have HC2 := hid hcp2
  clear hr hcp1 hcp2 hm hg1 hcul hdl hL1 hL2 hone hcell l1 l2 l3 hXl hcs hgB hcA hnA hnB h2 h3 h hu hk2 hinf
  have hb1 : ¬ (C = i) := by omega
  have hb2 : ¬ (C = i + 1) := by omega
  have hb3 : ¬ (bs.length = i) := by omega
  have hz2 : ((i : Int) == (bs.length : Int)) = false := beq_eq_false_iff_ne.2 (by omega)
  have hz3 : decide ((bs.length : Int) < (bs.length : Int) + 1) = true := decide_eq_true (by omega)
  have ht1 : ((i : Int) + 1).toNat = i + 1 := by omega
  have hw1 : IntKind.i64.wrap ((i : Int) + 1) = (i : Int) + 1 := by rw [IntKind.wrap_i64]; omega
  have hb5 : (0 : Int) ≤ (i : Int) + 1 := by omega
  have hin0 : i ≤ bs.length := by omega
  have hin1 : i + 1 ≤ bs.length + 1 := by omega
  have hin3 : (i : Int) ≤ (bs.length : Int) + 1 := by omega
  unfold maxLen at hC2
  go_enter Try.func67, Try.ntmps67
  go_upto_region 11 with (first
    | (at_builtin; refine Lib.wpList_append_run _ rfl (.tmp 34) (.tmp 39) 28 3 rfl (.slice (some ⟨g, 0, none⟩) i bs.length) (.int .i64 ((bs.length : Int) + 1 - i)) (by simp [Act.eval, Act.put]) (by simp [Act.eval, Act.put]) _ _ HR.out ?_)
    | (simp only [hc1]))
  clear hc1
  go_region_law (refine step_copy_run rfl (.tmp 50) (.tmp 53) 28 28 rfl (v := .slice (some ⟨W0.heap.size, (i + 1) * 2, none⟩) (bs.length - i) (C - (i + 1))) (u := .slice (some ⟨g, i * 2, none⟩) (bs.length - i) (bs.length - i)) (by simp [Act.eval, Act.put]) (by simp [Act.eval, Act.put]) (HC2.out _) ?_)
  all_goals
    go_wp2
    go_ret
    exact ⟨_, rfl, HFIN.out, HNW.out⟩
/-- Insert, whole. -/
theorem insert_w (B : Nat) (v : Value) (bs : Bs) (c : Int) (s : List Wd) (u : Value) (i : Nat) (w : World) (h : BkOwn w B v bs) (hB : B ≤ w.heap.size) (hu : Words.Set w u s) (hne : ∀ k, u.ownBlock = some k → v.ownBlock ≠ some k) (hlen : bs.length ≤ 1000000) (hi : i ≤ bs.length) :
    Calls Try.prog 67 #[v, .int .i64 (i : Int), .slice (some ⟨w.heap.size, 0, none⟩) 1 1] (w.alloc (.cells #[.int .i64 c, u] 60)) (HandsI w B (bs.take i ++ (c, s) :: bs.drop i)) := by
  rcases Nat.lt_or_ge i bs.length with hlt | hge
  · obtain ⟨g, cap, e, _⟩ := h.opened rfl (show 0 < bs.length by omega)
    subst e
    obtain ⟨q, d, eu⟩ := set_shape hu
    subst eu
    have hcap : bs.length ≤ cap := by
      obtain ⟨_, _, e, h1, _⟩ := h.bks
      cases e
      exact h1
    rcases Nat.lt_or_ge bs.length cap with h1 | h1
    · exact insert_room B g bs.length cap bs c s q _ d i w h rfl hB hu (fun k hk e => hne k hk (by rw [e]; rfl)) hlen hlt h1
    · obtain rfl : cap = bs.length := by omega
      exact insert_grow B g bs.length bs c s q _ d i w h rfl hB hu hlen hlt
  · obtain rfl : i = bs.length := by omega
    rw [List.take_length, List.drop_length]
    exact insert_end B v bs c s u w h hB hu hne hlen
end Wn
end Go.Proofs.Ythellicimicieaa
