/- Calls on memories that come in, as data. No program in sight. No condition. -/
import Derived.Test.YthellicimicieaaMemoD
import Derived.Deep.Slices
set_option linter.unusedSimpArgs false
set_option linter.unusedVariables false
namespace Go.Proofs.Ythellicimicieaa
open Go.ChangeShapes Go.WideShapes Go.ChangeAt Go.RowKit
namespace Mm
open Go.Proofs.Ythellicimicieaa.Words (Wd trim Set ws wv)
/-- A call's row of calls, as it reads. -/
def AcC (w : World) (p : Option Addr) (l : List Ac) : Prop := ∀ i, i < l.length → ∃ (b off q : Nat) (v1 v2 v3 : Value), p = some ⟨b, off, none⟩ ∧ q ≤ 255 ∧ (ac l i).p = decide (q % 2 = 1) ∧ w.cell? ⟨b, off + i * 5, none⟩ = some (.int .u8 (q : Int)) ∧ w.cell? ⟨b, off + i * 5 + 1, none⟩ = some v1 ∧ w.cell? ⟨b, off + i * 5 + 2, none⟩ = some v2 ∧ w.cell? ⟨b, off + i * 5 + 3, none⟩ = some v3 ∧ w.cell? ⟨b, off + i * 5 + 4, none⟩ = some (.bool (ac l i).e) ∧ Set w v1 (ac l i).s ∧ Set w v2 (ac l i).v ∧ Set w v3 (ac l i).x
theorem AcC.nw {w w' : World} {p : Option Addr} {l : List Ac} (h : AcC w p l) (hn : Nw w w') : AcC w' p l := fun i hi => by
  obtain ⟨b, off, q, v1, v2, v3, e, hq, hp, c0, c1, c2, c3, c4, s1, s2, s3⟩ := h i hi
  exact ⟨b, off, q, v1, v2, v3, e, hq, hp, hn.cell c0, hn.cell c1, hn.cell c2, hn.cell c3, hn.cell c4, s1.nw hn, s2.nw hn, s3.nw hn⟩
def Acs (w : World) (v : Value) (l : List Ac) : Prop := ∃ p cap, v = .slice p l.length cap ∧ l.length ≤ cap ∧ cap ≤ maxLen ∧ (p = none → cap = 0) ∧ AcC w p l
theorem Acs.nw {w w' : World} {v : Value} {l : List Ac} (h : Acs w v l) (hn : Nw w w') : Acs w' v l := by
  obtain ⟨p, cap, e, h1, h2, h3, h4⟩ := h
  exact ⟨p, cap, e, h1, h2, h3, h4.nw hn⟩
section
variable {H : Type} {enc : TypeId × Value → H} {P : Program}
theorem open_words_at {t e : TypeId} {W : World} {n : Nat} {v : Value} {y : DataW H × List MemPlace} (ht : P.underlying t = some (.slice e)) (he : P.underlying e = some (.int .u64)) (hc : P.cellsOf e = 1)
    (hf : DataW.trod enc P W 0 (fun _ => true) true n t [v] = some y) : ∃ s : List Wd, Set W v s := by
  obtain ⟨d, p⟩ := y
  rcases open_ints ht he hc hf with ⟨hcs, hx⟩ | ⟨a, len', cap', zs, hcs, _, hl, hm, hz, hx, hcell, hwz⟩
  · simp at hcs
    subst hcs
    exact ⟨[], Sl.nil W⟩
  · simp at hcs
    subst hcs
    simp only [if_true] at hz
    refine ⟨(zs.take len').map fun z => BitVec.ofNat 64 z.toNat, some a, cap', by simp [ws]; omega, by simp [ws]; omega, hm, (fun h => by cases h), Cells.of_add fun i hi => ?_⟩
    simp [ws] at hi
    have hb := bounds_u64 (hwz zs[i] (List.getElem_mem (by omega)))
    rw [hcell i (by omega)]
    simp only [ws, wv, List.getElem_map, List.getElem_take, BitVec.toNat_ofNat, List.getElem?_eq_getElem (show i < zs.length by omega), Option.map_some]
    have e2 : ((zs[i].toNat % 2 ^ 64 : Nat) : Int) = zs[i] := by omega
    simp [e2, List.getElem?_eq_getElem (show i < zs.length by omega)]
theorem open_acts {t e : TypeId} {f0 f1 f2 f3 f4 : Field} {ew : TypeId} {W : World} {base : Nat} {v : Value} {d : DataW H} {p : List MemPlace} (ht : P.underlying t = some (.slice e)) (he : P.underlying e = some (.struct #[f0, f1, f2, f3, f4]))
    (ce : P.cellsOf e = 5) (o0 : f0.offset = 0) (o1 : f1.offset = 1) (o2 : f2.offset = 2) (o3 : f3.offset = 3) (o4 : f4.offset = 4) (c0 : P.cellsOf f0.type = 1) (c1 : P.cellsOf f1.type = 1) (c2 : P.cellsOf f2.type = 1) (c3 : P.cellsOf f3.type = 1) (c4 : P.cellsOf f4.type = 1)
    (h0 : P.underlying f0.type = some (.int .u8)) (h1 : P.underlying f1.type = some (.slice ew)) (h2 : P.underlying f2.type = some (.slice ew)) (h3 : P.underlying f3.type = some (.slice ew)) (h4 : P.underlying f4.type = some .bool)
    (hw : P.underlying ew = some (.int .u64)) (cw : P.cellsOf ew = 1)
    (hval : Value.okWide P W .any base t v) (hj : DataW.Trod enc P W 0 (fun _ => true) true t v d p) : ∃ l : List Ac, Acs W v l := by
  obtain ⟨a0, len, cap, rfl⟩ := okWide_slice ht hval
  obtain ⟨fuel, hf⟩ := hj
  simp only [Value.cells] at hf
  rcases Deep.open_slice ht hf with ⟨hcs, hx⟩ | ⟨a, len', cap', m, n, D, Pl, hcs, hb, hl, hm, hmm, hx, hel⟩
  · simp at hcs
    obtain ⟨rfl, rfl, rfl⟩ := hcs
    exact ⟨[], none, 0, rfl, Nat.le_refl _, Nat.zero_le _, fun _ => rfl, fun i hi => by cases hi⟩
  · simp at hcs
    obtain ⟨rfl, rfl, rfl⟩ := hcs
    simp only [if_true] at hmm
    subst hmm
    have each : ∀ i, i < len → ∃ x : Ac, ∃ (q : Nat) (v1 v2 v3 : Value), q ≤ 255 ∧ x.p = decide (q % 2 = 1) ∧ W.cell? (a.add (i * 5)) = some (.int .u8 (q : Int)) ∧ W.cell? (a.add (i * 5 + 1)) = some v1 ∧ W.cell? (a.add (i * 5 + 2)) = some v2 ∧ W.cell? (a.add (i * 5 + 3)) = some v3 ∧ W.cell? (a.add (i * 5 + 4)) = some (.bool x.e) ∧ Set W v1 x.s ∧ Set W v2 x.v ∧ Set W v3 x.x := by
      intro i hi
      obtain ⟨cs', k1, k2⟩ := hel i (by omega)
      rw [ce] at k1
      obtain ⟨_, hlen, hcell⟩ := World.cells?_some k1
      obtain ⟨xs, k, hk, hxy, _, hxl, hg⟩ := DataW.trod_struct he k2
      match xs, hxl, cs', hlen with
      | [y0, y1, y2, y3, y4], _, [v0, v1, v2, v3, v4], _ =>
        have g0 := hg 0 f0 rfl
        have g1 := hg 1 f1 rfl
        have g2 := hg 2 f2 rfl
        have g3 := hg 3 f3 rfl
        have g4 := hg 4 f4 rfl
        simp [o0, o1, o2, o3, o4, c0, c1, c2, c3, c4] at g0 g1 g2 g3 g4
        have e0 := hcell 0 (by omega)
        have e1 := hcell 1 (by omega)
        have e2 := hcell 2 (by omega)
        have e3 := hcell 3 (by omega)
        have e4 := hcell 4 (by omega)
        rw [Deep.add_add] at e0 e1 e2 e3 e4
        obtain ⟨z, hz, _, hwz⟩ := DataW.trod_int h0 g0
        obtain ⟨b, hb', _⟩ := DataW.trod_bool h4 g4
        obtain ⟨s1, t1⟩ := open_words_at h1 hw cw g1
        obtain ⟨s2, t2⟩ := open_words_at h2 hw cw g2
        obtain ⟨s3, t3⟩ := open_words_at h3 hw cw g3
        have hbz := bounds_u8 hwz
        simp at hz hb'
        obtain ⟨q, rfl⟩ := Int.eq_ofNat_of_zero_le hbz.1
        refine ⟨⟨decide (q % 2 = 1), s1, s2, s3, b⟩, q, v1, v2, v3, by omega, rfl, ?_, by simpa using e1, by simpa using e2, by simpa using e3, ?_, t1, t2, t3⟩
        · rw [← hz]; simpa using e0
        · rw [← hb']; simpa using e4
    have : ∃ l : List Ac, l.length = len ∧ ∀ i, i < len → ∃ (q : Nat) (v1 v2 v3 : Value), q ≤ 255 ∧ (ac l i).p = decide (q % 2 = 1) ∧ W.cell? (a.add (i * 5)) = some (.int .u8 (q : Int)) ∧ W.cell? (a.add (i * 5 + 1)) = some v1 ∧ W.cell? (a.add (i * 5 + 2)) = some v2 ∧ W.cell? (a.add (i * 5 + 3)) = some v3 ∧ W.cell? (a.add (i * 5 + 4)) = some (.bool (ac l i).e) ∧ Set W v1 (ac l i).s ∧ Set W v2 (ac l i).v ∧ Set W v3 (ac l i).x := by
      haveI : Inhabited Ac := ⟨noAc⟩
      obtain ⟨g, hg⟩ := Deep.choose_lt each
      refine ⟨(List.range len).map g, by simp, fun i hi => ?_⟩
      have e : ac ((List.range len).map g) i = g i := by simp [ac, hi]
      rw [e]
      exact hg i hi
    obtain ⟨l, hll, hal⟩ := this
    subst hll
    refine ⟨l, some a, m, rfl, hl, hm, (fun h => by cases h), fun i hi => ?_⟩
    obtain ⟨q, v1, v2, v3, k0, k1, k2, k3, k4, k5, k6, k7, k8, k9⟩ := hal i hi
    obtain ⟨q', _, _, _, _, _, z, _⟩ := hal 0 (by omega)
    have ea := addr_add_of_cell (w := W) (a := a) (v := .int .u8 (q' : Int)) (by simpa using z)
    rw [ea] at k2 k3 k4 k5 k6
    rw [addr_add] at k2 k3 k4 k5 k6
    exact ⟨a.block, a.off, q, v1, v2, v3, by rw [← ea], k0, k1, k2, k3, k4, k5, k6, k7, k8, k9⟩
end
end Mm
end Go.Proofs.Ythellicimicieaa
