/- slices.Insert of one bucket into a row of the call's own. No condition but lengths. -/
import Derived.Test.YthellicimicieaaWinI
import Derived.Lib.Overlaps
import Derived.Laws.CopyRow
import Derived.Deep.RegionLaw
set_option linter.unusedSimpArgs false
set_option linter.unusedVariables false
namespace Go.Proofs.Ythellicimicieaa
open Go.ChangeShapes Go.WideShapes Go.ChangeAt Go.RowKit
namespace Wn
open Ival Words
/-- 'copy(d, s)' into a block of the call's own, elements of several cells. -/
theorem run_copyN {P : Program} (w : World) (dT sT ty elem : TypeId) (g o dLen dCap : Nat) (a : Addr) (sLen sCap : Nat) (cur : Array Value) (t : TypeId) (cs : List Value) (size : Nat)
    (hu : P.underlying dT = some (.slice elem)) (hs : (P.info? elem).map (·.size) = some size)
    (hg : w.heap[g]? = some (.cells cur t (0, 0))) (hn : cs.length = Nat.min sLen dLen * size)
    (hsrc : ∀ j v, cs[j]? = some v → w.cell? (a.add j) = some v) (hfit : o + cs.length ≤ cur.size) (h1 : ∀ v ∈ cs, v.oneCell' = true) :
    (Builtin.copy_ #[dT, sT] ty #[.slice (some ⟨g, o, none⟩) dLen dCap, .slice (some a) sLen sCap]).run P w =
      .ok (goInt (Nat.min sLen dLen)) (w.setRow g (cur.toList.take o ++ cs ++ cur.toList.drop (o + cs.length)).toArray) := by
  have hl := run_loadCells_list (P := P) w a cs hsrc
  have hst := run_storeCells_at P g o t cs 0 cur w hg (by simpa using hfit) h1
  cases hq : P.info? elem with
  | none => simp [hq] at hs
  | some i =>
    have hi : i.size = size := by simpa [hq] using hs
    simp [Builtin.copy_, run_underlying hu, Builtin.lenOf, Builtin.firstCells, sizeOf, typeInfo, hq, hi, ← hn, hl, hst]
/-- The operation 'copy(d, s)' where its run is known. -/
theorem wp_copy_run {P : Program} {w : World} {o : Oper} {a : Act} {K : Act → World → Prop} {Q : Exit → Act → World → Prop} (d s : Operand) (t t' : TypeId)
    (ho : o.op = .call { callee := .builtin .copy, args := #[d, s], argTypes := #[t, t'] }) {v u : Value} (hd : a.eval d = v) (hs : a.eval s = u) {v' : Value} {w' : World}
    (hr : (Builtin.copy_ #[t, t'] o.type #[v, u]).run P w = .ok v' w') (h : K (a.put o.dst v') w') : o.wp P a w K Q := by
  unfold Oper.wp execOp
  simp only [ho, resolve, invoke, builtin, Sem.run_bind, Sem.run_pure, Result.andThen_ok, List.map_toArray, List.map_cons, List.map_nil, hd, hs, hr]
  exact h
theorem wpList_copy_run {P : Program} {w : World} {ops : Array Oper} {rest : List Oper} {o : Oper} {a : Act} {Q : Exit → Act → World → Prop} (hgd : o.guard = none) (d s : Operand) (t t' : TypeId)
    (ho : o.op = .call { callee := .builtin .copy, args := #[d, s], argTypes := #[t, t'] }) {v u : Value} (hd : a.eval d = v) (hs : a.eval s = u) {v' : Value} {w' : World}
    (hr : (Builtin.copy_ #[t, t'] o.type #[v, u]).run P w = .ok v' w') (h : wpList P ops Q rest (a.put o.dst v') w') : wpList P ops Q (o :: rest) a w :=
  wpList_plain hgd fun _ hK => wp_copy_run d s t t' ho hd hs hr (hK _ _ h)
theorem step_copy_run {P : Program} {ops : Array Oper} {o : Oper} {a : Act} {w : World} {K : Act → World → Prop} {Q : Exit → Act → World → Prop} {E : Prop}
    (hg : o.guard = none) (d x : Operand) (dT sT : TypeId) (hop : o.op = Op.call { callee := Callee.builtin Builtin.copy, args := #[d, x], argTypes := #[dT, sT] })
    {v u : Value} (hd : a.eval d = v) (hx : a.eval x = u) {v' : Value} {w' : World} (hr : (Builtin.copy_ #[dT, sT] o.type #[v, u]).run P w = .ok v' w') (hK : K (a.put o.dst v') w') :
    if Region.wanted o (yielded ops a.tmps) = true then Oper.wp P o a w K Q else E := by
  have hw : Region.wanted o (yielded ops a.tmps) = true := by simp [Region.wanted, hg]
  rw [if_pos hw]
  exact wp_copy_run d x dT sT hop hd hx hr hK
theorem mods_row (w : World) (g : Nat) (cs : Array Value) : Mods (fun k => k = g) w (w.setRow g cs) :=
  ⟨rfl, rfl, rfl, by simp [World.setRow], fun k _ hk => setRow_other w g k cs hk⟩
theorem bkc_app (a b : Bs) (va vb : List Value) (h : va.length = a.length) : bkc (a ++ b) (va ++ vb) = bkc a va ++ bkc b vb := by
  unfold bkc
  rw [List.zip_append h.symm, List.flatMap_append]
theorem bkc_split (bs : Bs) (vs : List Value) (h : vs.length = bs.length) (i : Nat) (hi : i ≤ bs.length) : (bkc bs vs).take (i * 2) = bkc (bs.take i) (vs.take i) ∧ (bkc bs vs).drop (i * 2) = bkc (bs.drop i) (vs.drop i) := by
  have e : bkc bs vs = bkc (bs.take i) (vs.take i) ++ bkc (bs.drop i) (vs.drop i) := by
    rw [← bkc_app _ _ _ _ (by rw [List.length_take, List.length_take, h]), List.take_append_drop, List.take_append_drop]
  have hl : (bkc (bs.take i) (vs.take i)).length = i * 2 := by
    rw [bkc_len _ _ (by rw [List.length_take, List.length_take, h]), List.length_take]
    congr 1; omega
  rw [e]
  exact ⟨by rw [← hl, List.take_left], by rw [← hl, List.drop_left]⟩
/-- The row with one bucket put in between. -/
theorem bkc_ins (bs : Bs) (vs : List Value) (h : vs.length = bs.length) (i : Nat) (hi : i ≤ bs.length) (c : Int) (u : Value) (s : List Wd) : bkc (bs.take i ++ (c, s) :: bs.drop i) (vs.take i ++ u :: vs.drop i) = (bkc bs vs).take (i * 2) ++ [.int .i64 c, u] ++ (bkc bs vs).drop (i * 2) := by
  obtain ⟨h1, h2⟩ := bkc_split bs vs h i hi
  rw [bkc_app _ _ _ _ (by rw [List.length_take, List.length_take, h]), bkc_cons, h1, h2]
  simp
/-- What the block holds behind both copies. -/
theorem ins_room (L X : List Value) (n i : Nat) (c u : Value) (hX : L.take (n * 2) = X) (hXl : X.length = n * 2) (hi : i < n) (hL : (n + 1) * 2 ≤ L.length) :
    let cs := X.drop (i * 2)
    let L1 := L.take ((i + 1) * 2) ++ cs ++ L.drop ((i + 1) * 2 + cs.length)
    let L2 := L1.take (i * 2) ++ [c, u] ++ L1.drop (i * 2 + 2)
    L1.length = L.length ∧ L2.length = L.length ∧ L2.take ((n + 1) * 2) = X.take (i * 2) ++ [c, u] ++ X.drop (i * 2) := by
  intro cs L1 L2
  have hcl : cs.length = (n - i) * 2 := by
    show (X.drop (i * 2)).length = _
    rw [List.length_drop, hXl]; omega
  have hl1 : L1.length = L.length := by
    show (L.take ((i + 1) * 2) ++ cs ++ L.drop ((i + 1) * 2 + cs.length)).length = _
    simp only [List.length_append, List.length_take, List.length_drop, hcl]
    omega
  have ht1 : L1.take (i * 2) = X.take (i * 2) := by
    show (L.take ((i + 1) * 2) ++ cs ++ _).take (i * 2) = _
    rw [List.append_assoc, List.take_append_of_le_length (by rw [List.length_take]; omega), List.take_take, ← hX, List.take_take]
    congr 1; omega
  have hd1 : L1.drop (i * 2 + 2) = cs ++ L.drop ((i + 1) * 2 + cs.length) := by
    show (L.take ((i + 1) * 2) ++ cs ++ L.drop ((i + 1) * 2 + cs.length)).drop (i * 2 + 2) = _
    have hlt : (L.take ((i + 1) * 2)).length = i * 2 + 2 := by rw [List.length_take]; omega
    rw [List.append_assoc, ← hlt, List.drop_left]
  refine ⟨hl1, ?_, ?_⟩
  · show (L1.take (i * 2) ++ [c, u] ++ L1.drop (i * 2 + 2)).length = _
    simp only [List.length_append, List.length_take, List.length_drop, hl1, List.length_cons, List.length_nil]
    omega
  · show (L1.take (i * 2) ++ [c, u] ++ L1.drop (i * 2 + 2)).take ((n + 1) * 2) = _
    rw [ht1, hd1, ← List.append_assoc]
    have hlt : (X.take (i * 2) ++ [c, u] ++ cs).length = (n + 1) * 2 := by
      simp only [List.length_append, List.length_take, hXl, hcl, List.length_cons, List.length_nil]
      omega
    rw [← hlt, List.take_left]
end Wn
end Go.Proofs.Ythellicimicieaa
