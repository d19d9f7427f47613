/- Great; two memories side by side do the same calls. No condition but lengths. -/
import Derived.Test.YthellicimicieaaMemoK
set_option linter.unusedSimpArgs false
set_option linter.unusedVariables false
namespace Go.Proofs.Ythellicimicieaa
open Go.ChangeShapes Go.WideShapes Go.ChangeAt Go.RowKit
namespace Mm
open Go.Proofs.Ythellicimicieaa.Words (Wd wd trim Set ws ws_one ws_length same same_c samewords_c rtrim_c HandsW)
/-- Is none of them too great. -/
def Fit (l : List Ac) : Prop := l.length ≤ 300 ∧ ∀ i, i < l.length → (ac l i).s.length ≤ 100 ∧ (ac l i).v.length ≤ 100 ∧ (ac l i).x.length ≤ 100
theorem Fit.ok {l : List Ac} (h : Fit l) (i : Nat) (hi : i < l.length) : AcOk (ac l i) := by
  obtain ⟨h1, h2, h3⟩ := h.2 i hi
  exact ⟨by omega, by omega, by omega⟩
/-- What Great tells. -/
def HandsG (l : List Ac) (w : World) (e : Ending) (w' : World) : Prop := Nw w w' ∧ ((e = .returned (.int .i64 0) ∧ Fit l) ∨ (e = .returned (.int .i64 1) ∧ ¬ Fit l))
set_option maxRecDepth 20000 in
set_option maxHeartbeats 1600000 in
theorem great_c (v : Value) (l : List Ac) (w : World) (hv : Acs w v l) : Calls Try.prog 19 #[v] w (HandsG l w) := by
  obtain ⟨p, cap, rfl, hcap, hmx, _, hc⟩ := hv
  unfold maxLen at hmx
  have HC := hid hc
  clear hc
  by_cases h3 : 300 < l.length
  · have hd3 : decide ((300 : Int) < (l.length : Int)) = true := decide_eq_true (by omega)
    have HF := hid (show ¬ Fit l from fun h => by have := h.1; omega)
    go_enter Try.func19, Try.ntmps19
    go_wp2
    go_ret
    exact ⟨Nw.refl _, Or.inr ⟨rfl, HF.out⟩⟩
  · have hd3 : decide ((300 : Int) < (l.length : Int)) = false := decide_eq_false (by omega)
    have hl3 : l.length ≤ 300 := by omega
    clear h3
    go_enter Try.func19, Try.ntmps19
    go_upto_region 4 with fail
    go_loopw [4, 10] (fun _ i wr => ∃ k : Nat, k ≤ l.length ∧ i = .int .i64 k ∧ Hid (∀ i, i < k → (ac l i).s.length ≤ 100 ∧ (ac l i).v.length ≤ 100 ∧ (ac l i).x.length ≤ 100) ∧ Nw w wr) (fun _ i _ => l.length - (intOf i).toNat)
    case atStart => exact ⟨0, Nat.zero_le _, rfl, hid (fun i hi => by omega), Nw.refl _⟩
    case round =>
      obtain ⟨k, hk, rfl, hall, hn⟩ := hrel
      by_cases hlt : k < l.length
      · have hdk : decide (k < l.length) = true := decide_eq_true hlt
        obtain ⟨b, off, q, v1, v2, v3, rfl, hq, hp, c0, c1, c2, c3, c4, s1, s2, s3⟩ := HC.out k hlt
        replace c0 := hn.cell c0
        replace c1 := hn.cell c1
        replace c2 := hn.cell c2
        replace c3 := hn.cell c3
        replace c4 := hn.cell c4
        have gg := World.block_lt_of_cell? wr _ c0
        simp only at gg
        obtain ⟨p1, d1, rfl, _⟩ := s1.open
        obtain ⟨p2, d2, rfl, _⟩ := s2.open
        obtain ⟨p3, d3, rfl, _⟩ := s3.open
        have HNO := hid (fun (h : ¬ ((ac l k).s.length ≤ 100 ∧ (ac l k).v.length ≤ 100 ∧ (ac l k).x.length ≤ 100)) => show ¬ Fit l from fun hf => h (hf.2 k hlt))
        have HYS := hid (fun (h : (ac l k).s.length ≤ 100 ∧ (ac l k).v.length ≤ 100 ∧ (ac l k).x.length ≤ 100) => show ∀ i, i < k + 1 → (ac l i).s.length ≤ 100 ∧ (ac l i).v.length ≤ 100 ∧ (ac l i).x.length ≤ 100 from fun i hi => by
          by_cases e : i = k
          · rw [e]; exact h
          · exact hall.out i (by omega))
        clear s1 s2 s3 hall hp
        generalize (ac l k).s.length = n1 at *
        generalize (ac l k).v.length = n2 at *
        generalize (ac l k).x.length = n3 at *
        generalize (ac l k).e = ee at *
        go_upto_region 6 with fail
        obtain ⟨x0, x1, x2, x3, x4, hz, hnA⟩ := box5 wr (.int .u8 (q : Int)) (.slice p1 n1 d1) (.slice p2 n2 d2) (.slice p3 n3 d3) (.bool ee) 44
        generalize wr.alloc (.cells #[.int .u8 (q : Int), .slice p1 n1 d1, .slice p2 n2 d2, .slice p3 n3 d3, .bool ee] 44) = w0 at *
        have hn0 := hn.trans hnA
        clear c0 c1 c2 c3 c4 hnA hn HC x0 x4
        generalize wr.heap.size = g8 at *
        by_cases h1 : 100 < n1
        · have hd1 : decide ((100 : Int) < (n1 : Int)) = true := decide_eq_true (by omega)
          have hd1n : decide (100 < n1) = true := decide_eq_true h1
          have HF := hid (HNO.out (fun h => by omega))
          go_wp2
          go_ret
          exact ⟨hn0, Or.inr ⟨rfl, HF.out⟩⟩
        · have hd1 : decide ((100 : Int) < (n1 : Int)) = false := decide_eq_false (by omega)
          have hd1n : decide (100 < n1) = false := decide_eq_false h1
          by_cases h2 : 100 < n2
          · have hd2 : decide ((100 : Int) < (n2 : Int)) = true := decide_eq_true (by omega)
            have hd2n : decide (100 < n2) = true := decide_eq_true h2
            have HF := hid (HNO.out (fun h => by omega))
            clear h1
            go_wp2
            go_ret
            exact ⟨hn0, Or.inr ⟨rfl, HF.out⟩⟩
          · have hd2 : decide ((100 : Int) < (n2 : Int)) = false := decide_eq_false (by omega)
            have hd2n : decide (100 < n2) = false := decide_eq_false h2
            by_cases h4 : 100 < n3
            · have hd4 : decide ((100 : Int) < (n3 : Int)) = true := decide_eq_true (by omega)
              have hd4n : decide (100 < n3) = true := decide_eq_true h4
              have HF := hid (HNO.out (fun h => by omega))
              clear h1 h2
              go_wp2
              go_ret
              exact ⟨hn0, Or.inr ⟨rfl, HF.out⟩⟩
            · have hd4 : decide ((100 : Int) < (n3 : Int)) = false := decide_eq_false (by omega)
              have hd4n : decide (100 < n3) = false := decide_eq_false h4
              have HF := hid (HYS.out ⟨by omega, by omega, by omega⟩)
              clear h1 h2 h4
              go_wp2
              go_roundw
              case rel => exact ⟨k + 1, by omega, by go_num, HF, hn0⟩
              case measure => (simp [intOf] <;> omega)
      · obtain rfl : k = l.length := by omega
        have hdk : decide (l.length < l.length) = false := decide_eq_false (by omega)
        have HF := hid (show Fit l from ⟨hl3, hall.out⟩)
        clear hall
        go_wp2
        go_ret
        exact ⟨hn, Or.inl ⟨rfl, HF.out⟩⟩
/-! ### Two side by side -/
/-- Between the two halves of a call. -/
structure Mid (w : World) (P : Nat → Prop) (Bm Br am : Nat) (vm : Value) (ar : Nat) (vr : Value) (M M' : Me) (w3 : World) (P2 : Nat → Prop) (vm2 : Value) (fm2 : Nat → V3) (vr1 : Value) (fr1 : Nat → V3) : Prop where
  ext : Ext w P w3 P2
  mi : MI w3 P2 Bm am vm2 fm2 M'
  ri : RI w3 P2 Br ar vr1 fr1 M
  md : Mods (fun k => Own2 am vm k ∨ Own2 ar vr k) w w3
  o1 : Old w vm vm2
  o2 : Old w vr vr1
theorem Mid.nw {w w3 w4 : World} {P P2 : Nat → Prop} {Bm Br am ar : Nat} {vm vr vm2 vr1 : Value} {M M' : Me} {fm2 fr1 : Nat → V3} (h : Mid w P Bm Br am vm ar vr M M' w3 P2 vm2 fm2 vr1 fr1) (hn : Nw w3 w4) : Mid w P Bm Br am vm ar vr M M' w4 P2 vm2 fm2 vr1 fr1 :=
  ⟨⟨h.ext.sub, h.ext.new, fun k q => Nat.lt_of_lt_of_le (h.ext.low k q) hn.size⟩, h.mi.nw hn, h.ri.nw hn, h.md.nw hn, h.o1, h.o2⟩
theorem mid_of {w w1 w2 : World} {P P1 : Nat → Prop} {Bm Br am ar : Nat} {vm vr vm1 vr1 : Value} {M M' : Me} {fm1 fr1 : Nat → V3} (h : Mid w P Bm Br am vm ar vr M M w1 P1 vm1 fm1 vr1 fr1) (h1 : MO w1 P1 Bm am vm1 M' w2) : ∃ P2 vm2 fm2, (∀ k, P1 k → P2 k) ∧ (∀ k, P2 k → P1 k ∨ w1.heap.size ≤ k) ∧ Mods (Own2 am vm1) w1 w2 ∧ Mid w P Bm Br am vm ar vr M M' w2 P2 vm2 fm2 vr1 fr1 := by
  obtain ⟨P2, vm2, fm2, e1, e2, e3, hm2, hd2, ho2⟩ := h1
  have hx : Ext w1 P1 w2 P2 := ⟨e1, e2, e3⟩
  have z1 := h.md.size
  have hr2 : RI w2 P2 Br ar vr1 fr1 M := h.ri.frame hd2 hx (fun q => own2_ne h.mi h.ri (k := ar) q (Or.inl rfl)) (fun k hk q => own2_ne h.mi h.ri (k := k) q (Or.inr hk)) (fun k q => (h.mi.own2 q).1)
  refine ⟨P2, vm2, fm2, e1, e2, hd2, h.ext.trans hx z1, hm2, hr2, ?_, h.o1.trans ho2 z1, h.o2⟩
  exact ⟨hd2.os.trans h.md.os, hd2.tape.trans h.md.tape, hd2.output.trans h.md.output, Nat.le_trans h.md.size hd2.size, fun k hk hs => (hd2.block k (Nat.lt_of_lt_of_le hk h.md.size) (fun q => by
    rcases q with q | q
    · exact hs (Or.inl (Or.inl q))
    · rcases h.o1 k q with q | q
      · exact hs (Or.inl (Or.inr q))
      · omega)).trans (h.md.block k hk hs)⟩
theorem fin_of {w w3 w4 : World} {P P2 : Nat → Prop} {Bm Br am ar : Nat} {vm vr vm2 vr1 : Value} {M M' : Me} {fm2 fr1 : Nat → V3} (h : Mid w P Bm Br am vm ar vr M M' w3 P2 vm2 fm2 vr1 fr1) (h1 : RO w3 P2 Br ar vr1 M' w4) : DO w P Bm Br am vm ar vr M' w4 := by
  obtain ⟨P3, vr3, fr3, g1, g2, g3, hr4, hd4, ho4⟩ := h1
  have hx : Ext w3 P2 w4 P3 := ⟨g1, g2, g3⟩
  have z1 := h.md.size
  have hm4 : MI w4 P3 Bm am vm2 fm2 M' := h.mi.frame hd4 hx (fun q => own2_ne h.mi h.ri (k := am) (Or.inl rfl) q) (fun k hk q => own2_ne h.mi h.ri (k := k) (Or.inr hk) q) (fun k q => (h.ri.own2 q).1)
  refine ⟨P3, vm2, fm2, vr3, fr3, h.ext.trans hx z1, hm4, hr4, ?_, h.o1, h.o2.trans ho4 z1⟩
  exact ⟨hd4.os.trans h.md.os, hd4.tape.trans h.md.tape, hd4.output.trans h.md.output, Nat.le_trans h.md.size hd4.size, fun k hk hs => (hd4.block k (Nat.lt_of_lt_of_le hk h.md.size) (fun q => by
    rcases q with q | q
    · exact hs (Or.inr (Or.inl q))
    · rcases h.o2 k q with q | q
      · exact hs (Or.inr (Or.inr q))
      · omega)).trans (h.md.block k hk hs)⟩
theorem DO.mid {w w1 : World} {P : Nat → Prop} {Bm Br am ar : Nat} {vm vr : Value} {M : Me} (h : DO w P Bm Br am vm ar vr M w1) : ∃ P1 vm1 fm1 vr1 fr1, Mid w P Bm Br am vm ar vr M M w1 P1 vm1 fm1 vr1 fr1 := by
  obtain ⟨P', vm', fm', vr', fr', he, hm, hr, hd, o1, o2⟩ := h
  exact ⟨P', vm', fm', vr', fr', he, hm, hr, hd, o1, o2⟩
/-- A block that no memory is made of stays. -/
theorem keep_block {w w' : World} {S P : Nat → Prop} {N b : Nat} {o : Obj} (hm : Mods S w w') (hS : ∀ k, S k → P k) (hP : ∀ k, P k → k < N) (hb : N ≤ b) (h : w.heap[b]? = some o) : w'.heap[b]? = some o :=
  hm.heap h fun q => by have := hP b (hS b q); omega
end Mm
end Go.Proofs.Ythellicimicieaa
