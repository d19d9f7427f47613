/- LogSealed and LogCanon walked: each returns true. No condition but lengths. -/
import Derived.Test.YtjelbfodkacipaaLogN
import Derived.Test.YtjelbfodkacipaaLogJ
set_option linter.unusedSimpArgs false
set_option linter.unusedVariables false
namespace Go.Proofs.Ytjelbfodkacipaa
open Go.ChangeShapes Go.WideShapes Go.ChangeAt Go.RowKit
open Go.ChangeMaps (open_string shut_string)
namespace Lg
open Go.Proofs.Ytjelbfodkacipaa.Lx (isIn nameB strs strs_open strs_cell)
open Go.Proofs.Ytjelbfodkacipaa.Rec (i64s_open)
open Go.Proofs.Ytjelbfodkacipaa.Sum (byte put right Hands8)
open Go.Proofs.Ytjelbfodkacipaa.Tr (T Es tm ids mayP namesP Evs EC Small EvIn In box2 lt_alloc TrR makeP make_may make_len make_small make_c3 u16s u16s_length pqr pqr_new open_evs_at)
/-! ### What comes in -/
section
variable {H : Type} {enc : TypeId × Value → H} {P : Program}
theorem bulk_nms (l : List ByteArray) : Rows.uptoBulkAll (Go.ChangeShapes.strs (H := H) l) = (nmsS l).length := by
  induction l with
  | nil => rfl
  | cons s r ih =>
    have e : nmsS (s :: r) = nmS s ++ nmsS r := rfl
    have e2 : (nmS s).length = s.data.toList.length + 1 := rfl
    rw [e, List.length_append, e2, ← ih]
    show Rows.uptoBulk (.lit (.string s.data.toList)) + _ = _
    simp only [Rows.uptoBulk]
    rfl
theorem nmsS_ge (l : List ByteArray) : l.length ≤ (nmsS l).length := by
  induction l with
  | nil => simp [nmsS]
  | cons s r ih =>
    have e : nmsS (s :: r) = nmS s ++ nmsS r := rfl
    have e2 : (nmS s).length = s.data.toList.length + 1 := rfl
    rw [e, List.length_append, e2, List.length_cons]
    omega
theorem open_strs_sum {t e : TypeId} {W : World} {base : Nat} {v : Value} {d : DataW H} {p : List MemPlace} (ht : P.underlying t = some (.slice e)) (he : P.underlying e = some .string) (hc : P.cellsOf e = 1)
    (hval : Value.okWide P W .any base t v) (hj : DataW.Trod enc P W 0 (fun _ => true) true t v d p) :
    ∃ l : List ByteArray, Sl W v (Lx.strs l) ∧ (nmsS l).length ≤ Rows.uptoBulk d := by
  obtain ⟨a0, len, cap, rfl⟩ := okWide_slice ht hval
  obtain ⟨fuel, hf⟩ := hj
  simp only [Value.cells] at hf
  rcases open_strings ht he hc hf with ⟨hcs, hx⟩ | ⟨a, len', cap', ss, hcs, _, hl, hm, hz, hx, hcell, hsz⟩
  · simp at hcs
    obtain ⟨rfl, rfl, rfl⟩ := hcs
    exact ⟨[], Sl.nil W, Nat.zero_le _⟩
  · simp at hcs
    obtain ⟨rfl, rfl, rfl⟩ := hcs
    simp only [Prod.mk.injEq] at hx
    obtain ⟨rfl, _⟩ := hx
    simp only [if_true] at hz
    have hlen : (ss.take len).length = len := by simp; omega
    refine ⟨ss.take len, ⟨some a, cap, by simp [Lx.strs]; omega, by simp [Lx.strs]; omega, hm, (fun h => by cases h), Cells.of_add fun i hi => ?_⟩, ?_⟩
    · simp [Lx.strs] at hi
      rw [hcell i (by omega)]
      simp [Lx.strs, List.getD_eq_getElem?_getD, List.getElem?_eq_getElem (show i < ss.length by omega)]
    · simp only [Rows.uptoBulk]
      rw [bulk_nms]
      omega
theorem open_evs {t e e2 : TypeId} {f0 f1 : Field} {W : World} {base : Nat} {v : Value} {d : DataW H} {p : List MemPlace} (ht : P.underlying t = some (.slice e)) (he : P.underlying e = some (.struct #[f0, f1]))
    (ce : P.cellsOf e = 2) (o0 : f0.offset = 0) (o1 : f1.offset = 1) (c0 : P.cellsOf f0.type = 1) (c1 : P.cellsOf f1.type = 1) (h0 : P.underlying f0.type = some (.int .u64)) (h1 : P.underlying f1.type = some (.slice e2)) (he2 : P.underlying e2 = some (.int .i64)) (hc2 : P.cellsOf e2 = 1)
    (hval : Value.okWide P W .any base t v) (hj : DataW.Trod enc P W 0 (fun _ => true) true t v d p) :
    ∃ es : Es, Evs W v es ∧ es.length ≤ Rows.uptoBulk d ∧ (∀ i, i < es.length → (ids es i).length ≤ Rows.uptoBulk d) ∧ (∀ i, i < es.length → 0 ≤ tm es i ∧ tm es i < 18446744073709551616) := by
  obtain ⟨a0, len, cap, rfl⟩ := okWide_slice ht hval
  obtain ⟨fuel, hf⟩ := hj
  obtain ⟨es, k1, k2, k3⟩ := open_evs_at (v := .slice a0 len cap) (y := (d, p)) ht he ce o0 o1 c0 c1 h0 h1 he2 hc2 (by simpa [Value.cells] using hf)
  exact ⟨es, k1, k2, fun i hi => (k3 i hi).2.2, fun i hi => (k3 i hi).1⟩
end
/-! ### LogSealed -/
theorem sealP_len (l : List ByteArray) (es : Es) (h : ∀ i, i < es.length → (ids es i).length ≤ 300) : (sealP l es).length ≤ (nmsS l).length + 9 + 314 * es.length := by
  have := recsS_len es h
  unfold sealP
  rw [List.length_append, Rec.put_len, List.length_append]
  simp only [preS, List.length_cons, List.length_nil]
  omega
set_option maxRecDepth 20000 in
set_option maxHeartbeats 1600000 in
theorem sealed_walk (vn ve : Value) (l : List ByteArray) (es : Es) (w : World) (hvn : Sl w vn (strs l)) (hve : Evs w ve es) (hnm : (nmsS l).length ≤ 2000000) (htb : ∀ i, i < es.length → 0 ≤ tm es i ∧ tm es i < 18446744073709551616) :
    Calls Try.prog 12 #[vn, ve] w fun e w' => e = .returned (.bool true) ∧ Nw w w' := by
  have HSE := hid (fun w' (h : Nw w w') h1 h2 h3 => sealed_c vn ve l es w' (hvn.nw h) (hve.nw h) h1 (by omega) h2 h3 htb)
  have HSF := hid (fun w' v (h : Nw w w') (hv : Sl w' v (strs pqr)) h2 h3 => sealed_c v ve pqr es w' hv (hve.nw h) (by decide) (by decide +kernel) h2 h3 htb)
  have HL1 := hid (fun h => sealP_len l es h)
  have HL2 := hid (fun h => sealP_len pqr es h)
  have HL3 := hid (show (nmsS pqr).length = 6 by decide +kernel)
  obtain ⟨pn, capn, rfl, hcn, hmn, _, hcc⟩ := strs_open hvn
  obtain ⟨p, cap, rfl, hcap, hmx, hp0, hec⟩ := hve
  have HEC := hid hec
  unfold maxLen at hmn hmx
  clear hvn hcc hec hp0 htb
  -- watchglass/watchglasslaw10.LogSealed: the function; 6: the event's slot; 18: the counter; 9: the region behind the loop
  by_cases hb1 : 300 < l.length ∨ 300 < es.length
  · by_cases hb2 : 300 < l.length
    · have hd1 : decide ((300 : Int) < l.length) = true := decide_eq_true (by omega)
      go_enter Try.func12, Try.ntmps12
      go_wp2_with (first
        | (go_at_call 35; refine (awake_c _).mono ?_; rintro e w9 ⟨rfl, hn9⟩)
        | fail)
      go_ret
      exact ⟨rfl, hn9⟩
    · have hd1 : decide ((300 : Int) < l.length) = false := decide_eq_false (by omega)
      have hd2 : decide ((300 : Int) < es.length) = true := decide_eq_true (by omega)
      go_enter Try.func12, Try.ntmps12
      go_wp2_with (first
        | (go_at_call 35; refine (awake_c _).mono ?_; rintro e w9 ⟨rfl, hn9⟩)
        | fail)
      go_ret
      exact ⟨rfl, hn9⟩
  have hd1 : decide ((300 : Int) < l.length) = false := decide_eq_false (by omega)
  have hd2 : decide ((300 : Int) < es.length) = false := decide_eq_false (by omega)
  have hln : l.length ≤ 300 := by omega
  have hel : es.length ≤ 300 := by omega
  clear hb1
  go_enter Try.func12, Try.ntmps12
  go_upto_region 4 with fail
  go_loopw [6, 18] (fun _ i wr => ∃ j : Nat, j ≤ es.length ∧ i = .int .i64 j ∧ Hid (∀ i, i < j → (ids es i).length ≤ 300) ∧ Nw w wr) (fun _ i _ => es.length - (intOf i).toNat)
  case atStart => exact ⟨0, Nat.zero_le _, rfl, hid (fun i hi => by omega), Nw.refl _⟩
  case round =>
    obtain ⟨j, hj, rfl, HJ0, hn⟩ := hrel
    by_cases hlt : j < es.length
    · have hdj : decide (j < es.length) = true := decide_eq_true hlt
      obtain ⟨b2, o2, vi, e2, c0, c1', hsv⟩ := (HEC.out.nw hn) j hlt
      subst e2
      obtain ⟨pi, ci, rfl, _⟩ := i64s_open hsv
      have gb1 := World.block_lt_of_cell? wr _ c0
      simp only at gb1
      generalize tm es j = tj at *
      have HJ := hid (fun (h : (ids es j).length ≤ 300) => show ∀ i, i < j + 1 → (ids es i).length ≤ 300 from fun i hi => by
        by_cases hij : i = j
        · rw [hij]; exact h
        · exact HJ0.out i (by omega))
      generalize (ids es j).length = il at *
      clear hsv
      go_upto_region 6 with fail
      obtain ⟨z0, z1⟩ := box2 wr (.int .u64 tj) (.slice pi il ci) 39
      have hnz := (Nw.refl wr).alloc (.cells #[.int .u64 tj, .slice pi il ci] 39)
      have lz := lt_alloc wr (.cells #[.int .u64 tj, .slice pi il ci] 39)
      have hn' := hn.trans hnz
      clear hnz c0 c1' gb1 hn
      generalize wr.alloc (.cells #[.int .u64 tj, .slice pi il ci] 39) = wz at *
      generalize wr.heap.size = g19 at *
      by_cases h3 : 300 < il
      · have hd3 : decide ((300 : Int) < il) = true := decide_eq_true (by omega)
        go_wp2_with (first
          | (go_at_call 35; refine (awake_c _).mono ?_; rintro e w9 ⟨rfl, hn9⟩)
          | fail)
        go_ret
        exact ⟨rfl, hn'.trans hn9⟩
      · have hd3 : decide ((300 : Int) < il) = false := decide_eq_false (by omega)
        go_wp2
        go_roundw
        case rel => exact ⟨j + 1, by omega, by go_num, hid (HJ.out (by omega)), hn'⟩
        case measure => (simp [intOf] <;> omega)
    · obtain rfl : j = es.length := by omega
      have hdj : decide (es.length < es.length) = false := decide_eq_false (by omega)
      have HC1 := hid (fun w' (h : Nw w w') => HSE.out w' h (by omega) hel HJ0.out)
      have HC2 := hid (fun w' v (h : Nw w w') hv => HSF.out w' v h hv hel HJ0.out)
      have hl1 := HL1.out HJ0.out
      have hl2 := HL2.out HJ0.out
      rw [HL3.out] at hl2
      have HB1 := hid (show (sealP l es).length ≤ 1000000000 by omega)
      have HB2 := hid (show (sealP pqr es).length ≤ 1000000000 by omega)
      clear hl1 hl2 HSE HSF HL1 HL2 HL3 HJ0 HEC
      generalize sealP l es = Y1 at *
      generalize sealP pqr es = Y2 at *
      go_wp2_with (first
        | (go_at_call 37; (with_reducible refine (HC1.out _ hn).mono ?_); rintro e w2 ⟨v2, rfl, hown2, hn2⟩; have hs2 : Bytes w2 v2 Y1 := hown2.sl; have hl2 := HB1.out; obtain ⟨q2, c2, rfl, _⟩ := hs2.open)
        | (go_at_call 39; refine (read_c _ _ _ (by assumption) (by assumption)).mono ?_; rintro e w3 ⟨rfl, hn3⟩)
        | (go_at_call 37; refine (HC2.out _ _ ((hn.trans (hn2.trans hn3)).alloc _) (pqr_new _ _ rfl)).mono ?_; rintro e w5 ⟨v5, rfl, hown5, hn5⟩; have hs5 : Bytes w5 v5 Y2 := hown5.sl; have hl5 := HB2.out; obtain ⟨q5, c5, rfl, _⟩ := hs5.open; clear hs2)
        | (go_at_call 35; refine (awake_c _).mono ?_; rintro e w9 ⟨rfl, hn9⟩)
        | fail)
      go_ret
      exact ⟨rfl, (by repeat (first | assumption | exact Nw.refl _ | refine Nw.alloc ?_ _ | refine Nw.drew ?_ | refine Nw.drewN2 ?_ _ | (refine Nw.trans ?_ (by assumption))))⟩
end Lg
end Go.Proofs.Ytjelbfodkacipaa
