/- The contracts of verdict.number and the reference's number. No condition but the length that any string has. -/
import Derived.Test.YtlimhggkimnddaaDoorVerD
import Derived.Laws.IdiomStrings
set_option linter.unusedSimpArgs false
set_option linter.unusedVariables false
namespace Go.Proofs.YtlimhggkimnddaaDoor
open Go.ChangeShapes Go.WideShapes Go.ChangeAt Go.RowKit
namespace Vd
theorem str_at {bs : List UInt8} {k : Nat} {x : UInt8} (h : bs[k]? = some x) : ∃ hk, (ByteArray.mk bs.toArray)[k]'hk = x := by
  obtain ⟨hk, e⟩ := List.getElem?_eq_some_iff.1 h
  refine ⟨by show k < bs.toArray.size; simpa using hk, ?_⟩
  show bs.toArray[k]'_ = x
  simpa using e
theorem conv_c (bs : List UInt8) (w : World) : ∃ cap w1, (convert 9 44 (.string ⟨bs.toArray⟩)).run Tryd.prog w = .ok (.slice (some ⟨w.heap.size, 0, none⟩) bs.length cap) w1 ∧ Nw w w1 ∧ Cells w1 (some ⟨w.heap.size, 0, none⟩) (u8s bs) := by
  have h := run_bytes_of_string (P := Tryd.prog) w 9 44 5 ⟨bs.toArray⟩ Tryd.underlying9 Tryd.underlying44 Tryd.underlying5
  rw [show (⟨bs.toArray⟩ : ByteArray).size = bs.length by simp [ByteArray.size]] at h
  refine ⟨_, _, h, ((Nw.refl w).drew).alloc _, ?_⟩
  intro i hi
  rw [u8s_length] at hi
  refine ⟨w.heap.size, 0, rfl, ?_⟩
  rw [show w.heap.size = w.drew.heap.size from rfl]
  rw [cell_new w.drew _ _ _ i (by simp [bytesRow]; omega)]
  congr 1
  simp only [bytesRow]
  rw [Array.getElem_append_left (by simpa using hi)]
  simp [u8s]
def numv (s : List UInt8) : Int := (num s).getD 0
theorem num_none {s : List UInt8} (h : num s = none) : numv s = 0 := by unfold numv; rw [h]; rfl
theorem dgs (c : UInt8) : dg c = (decide (48 ≤ c.toNat) && decide (c.toNat ≤ 57)) := rfl
theorem val_take {bs : List UInt8} {k : Nat} {x : UInt8} (h : bs[k]? = some x) : val (bs.take (k + 1)) = 10 * val (bs.take k) + ((x.toNat : Int) - 48) := by rw [List.take_add_one, h, Option.toList_some, val_snoc]
theorem all_take {bs : List UInt8} {k : Nat} {x : UInt8} (h : bs[k]? = some x) (h1 : (bs.take k).all dg = true) (h2 : dg x = true) : (bs.take (k + 1)).all dg = true := by rw [List.take_add_one, h, Option.toList_some, List.all_append, h1, List.all_cons, h2]; rfl
theorem val_lt {bs : List UInt8} {k : Nat} (hk : k ≤ 17) (h : (bs.take k).all dg = true) : 0 ≤ val (bs.take k) ∧ val (bs.take k) < 100000000000000000 := by
  obtain ⟨a, b⟩ := val_bound _ h
  have h1 : (bs.take k).length ≤ 17 := by rw [List.length_take]; omega
  have h2 : ∀ j, j ≤ 17 → (10 : Int) ^ j ≤ 100000000000000000 := by decide
  exact ⟨a, Int.lt_of_lt_of_le b (h2 _ h1)⟩
theorem byte_num {x : UInt8} {z : Int} (h : (x.toNat : Int) - 48 = z) : 0 ≤ x.toNat ∧ x.toNat < 256 := ⟨Nat.zero_le _, x.toNat_lt⟩
def HandsN (w : World) (s : List UInt8) (e : Ending) (w' : World) : Prop := e = .returned (.tuple #[.int .i64 (numv s), .bool (num s).isSome]) ∧ Nw w w'
theorem hands_none {w w' : World} {s : List UInt8} (h : num s = none) (hn : Nw w w') : HandsN w s (.returned (.tuple #[.int .i64 0, .bool false])) w' := ⟨by rw [num_none h, h]; rfl, hn⟩
theorem bad_num {s : List UInt8} (h : ¬ good s) : num s = none := if_neg fun q => h q.1
theorem bad_dg {s : List UInt8} {k : Nat} {x : UInt8} (hx : s[k]? = some x) (h : dg x = false) : num s = none := if_neg fun q => by
  have := List.all_eq_true.1 q.2 _ (List.mem_of_getElem? hx)
  rw [h] at this; cases this
set_option maxRecDepth 20000 in
set_option maxHeartbeats 2000000 in
theorem number_c (bs : List UInt8) (w : World) (hb : bs.length ≤ 1000000000) : Calls Tryd.prog 33 #[.string ⟨bs.toArray⟩] w (HandsN w bs) := by
  cases bs with
  | nil =>
    have HN := hid (bad_num (s := []) (fun h => h.1 rfl))
    go_enter Tryd.func33, Tryd.ntmps33
    go_wp2
    go_ret2
    exact hands_none HN.out (by repeat (first | assumption | exact Nw.refl _ | refine Nw.alloc ?_ _ | refine Nw.drew ?_ | refine Nw.drewN2 ?_ _ | (refine Nw.trans ?_ (by assumption))))
  | cons c r =>
    obtain ⟨bs, hbs⟩ : ∃ bs, Hid (bs = c :: r) := ⟨_, hid rfl⟩
    have he : bs.isEmpty = false := by rw [hbs.out]; rfl
    have hc0 : bs[0]? = some c := by rw [hbs.out]; rfl
    obtain ⟨hgb, hgx⟩ := str_at hc0
    rw [← hbs.out] at hb ⊢
    by_cases h18 : 18 < bs.length
    · have hd : decide (18 < bs.length) = true := decide_eq_true h18
      have hdi : decide ((18 : Int) < bs.length) = true := decide_eq_true (by omega)
      have HN := hid (bad_num (s := bs) (fun h => by have := h.2.1; omega))
      clear h18
      go_enter Tryd.func33, Tryd.ntmps33
      go_wp2
      go_ret2
      exact hands_none HN.out (by repeat (first | assumption | exact Nw.refl _ | refine Nw.alloc ?_ _ | refine Nw.drew ?_ | refine Nw.drewN2 ?_ _ | (refine Nw.trans ?_ (by assumption))))
    · have hd : decide (18 < bs.length) = false := decide_eq_false h18
      have hdi : decide ((18 : Int) < bs.length) = false := decide_eq_false (by omega)
      have hne : bs ≠ [] := by rw [hbs.out]; simp
      by_cases h48 : c = 48
      · subst h48
        by_cases hr : r = []
        · have e1 : bs = [48] := by rw [hbs.out, hr]
          have HG := hid (show good bs by rw [e1]; decide)
          have hq : (bs == [48]) = true := by rw [e1]; rfl
          have hq2 : (bs != [48]) = false := by rw [e1]; rfl
          clear e1 hr hbs
          obtain ⟨cap, w1, hcv, hn1, hcl⟩ := conv_c bs w
          have HCL := hid hcl
          clear hcl
          go_enter Tryd.func33, Tryd.ntmps33
          go_wp2
          go_loopw [4, 6, 26] (fun n _ i wr => ∃ k : Nat, k ≤ bs.length ∧ i = .int .i64 (k : Int) ∧ n = .int .i64 (val (bs.take k)) ∧ Hid ((bs.take k).all dg = true) ∧ Nw w1 wr) (fun _ _ i _ => bs.length - (intOf i).toNat)
          case atStart => exact ⟨0, Nat.zero_le _, rfl, rfl, hid rfl, Nw.refl _⟩
          case round =>
            obtain ⟨k, hk, rfl, rfl, ha, hnr⟩ := hrel
            by_cases hlt : k < bs.length
            · have hdk : decide (k < bs.length) = true := decide_eq_true hlt
              obtain ⟨x, hx⟩ : ∃ x, bs[k]? = some x := ⟨bs[k], by rw [List.getElem?_eq_getElem]⟩
              obtain ⟨b0, o0, x2, e1, c0, hx2, hxl⟩ := u8s_cell (fun i hi => (HCL.out.nw hnr) i hi) k hlt
              have hxx : x2 = x := Option.some.inj (hx2.out.symm.trans hx)
              rw [hxx] at c0 hxl
              obtain ⟨rfl, rfl⟩ : w.heap.size = b0 ∧ 0 = o0 := by cases e1; exact ⟨rfl, rfl⟩
              clear hx2 hxx e1
              rw [Nat.zero_add] at c0
              have hzz := World.block_lt_of_cell? wr _ c0
              simp only at hzz
              obtain ⟨v0, v1⟩ := val_lt (bs := bs) (k := k) (by omega) ha.out
              have HV := hid (val_take hx)
              have HA := hid (fun h => all_take hx ha.out h)
              have HB := hid (fun h => bad_dg hx h)
              have hdg := dgs x
              clear hx
              generalize val (bs.take k) = V at *
              by_cases h1 : x.toNat < 48
              · have d1 : decide ((x.toNat : Int) < 48) = true := decide_eq_true (by omega)
                have d2 : decide (x.toNat < 48) = true := decide_eq_true h1
                have HN := hid (HB.out (by rw [hdg, decide_eq_false (by omega)]; rfl))
                clear hdg h1
                go_wp2
                go_ret2
                exact hands_none HN.out (by repeat (first | assumption | exact Nw.refl _ | refine Nw.alloc ?_ _ | refine Nw.drew ?_ | refine Nw.drewN2 ?_ _ | (refine Nw.trans ?_ (by assumption))))
              · have d1 : decide ((x.toNat : Int) < 48) = false := decide_eq_false (by omega)
                have d2 : decide (x.toNat < 48) = false := decide_eq_false h1
                by_cases h2 : 57 < x.toNat
                · have d3 : decide (57 < (x.toNat : Int)) = true := decide_eq_true (by omega)
                  have d4 : decide (57 < x.toNat) = true := decide_eq_true h2
                  have HN := hid (HB.out (by rw [hdg, decide_eq_false (show ¬ x.toNat ≤ 57 by omega), Bool.and_false]))
                  clear hdg h2
                  go_wp2
                  go_ret2
                  exact hands_none HN.out (by repeat (first | assumption | exact Nw.refl _ | refine Nw.alloc ?_ _ | refine Nw.drew ?_ | refine Nw.drewN2 ?_ _ | (refine Nw.trans ?_ (by assumption))))
                · have d3 : decide (57 < (x.toNat : Int)) = false := decide_eq_false (by omega)
                  have d4 : decide (57 < x.toNat) = false := decide_eq_false h2
                  have HN := hid (HA.out (by rw [hdg, decide_eq_true (show 48 ≤ x.toNat by omega), decide_eq_true (show x.toNat ≤ 57 by omega)]; rfl))
                  have h3 : (48 : Int) ≤ x.toNat := by omega
                  have h4 : (x.toNat : Int) ≤ 57 := by omega
                  have q1 : IntKind.u8.wrap ((x.toNat : Int) - 48) = (x.toNat : Int) - 48 := by unfold IntKind.wrap; simp [IntKind.min, IntKind.max, IntKind.bits, IntKind.signed]; omega
                  clear hdg h1 h2
                  go_wp2
                  go_roundw
                  case rel => exact ⟨k + 1, by omega, by go_num, by rw [HV.out], HN, (by repeat (first | assumption | exact Nw.refl _ | refine Nw.alloc ?_ _ | refine Nw.drew ?_ | refine Nw.drewN2 ?_ _ | (refine Nw.trans ?_ (by assumption))))⟩
                  case measure => simp [intOf]; omega
            · obtain rfl : k = bs.length := by omega
              have hdk : decide (bs.length < bs.length) = false := decide_eq_false (Nat.lt_irrefl _)
              have HF := hid (show num bs = some (val bs) from num_is HG.out (by have := ha.out; rwa [List.take_length] at this))
              rw [List.take_length]
              go_wp2
              go_ret2
              exact ⟨by unfold numv; rw [HF.out]; rfl, (by repeat (first | assumption | exact Nw.refl _ | refine Nw.alloc ?_ _ | refine Nw.drew ?_ | refine Nw.drewN2 ?_ _ | (refine Nw.trans ?_ (by assumption))))⟩
        · have e1 : bs ≠ [48] := by rw [hbs.out]; simpa using hr
          have HN := hid (bad_num (s := bs) (fun h => h.2.2 ⟨by rw [hbs.out]; rfl, e1⟩))
          have hq : (bs == [48]) = false := by simpa using e1
          have hq2 : (bs != [48]) = true := by simpa using e1
          clear e1 hr hbs
          go_enter Tryd.func33, Tryd.ntmps33
          go_wp2
          go_ret2
          exact hands_none HN.out (by repeat (first | assumption | exact Nw.refl _ | refine Nw.alloc ?_ _ | refine Nw.drew ?_ | refine Nw.drewN2 ?_ _ | (refine Nw.trans ?_ (by assumption))))
      · have HG := hid (show good bs from ⟨hne, by omega, fun q => by rw [hbs.out] at q; exact h48 (by simpa using q.1)⟩)
        have hq : ((c.toNat : Int) == 48) = false := by
          have : c.toNat ≠ 48 := fun e => h48 (by rw [← UInt8.ofNat_toNat (x := c), e]; rfl)
          simpa using (by omega : ¬ (c.toNat : Int) = 48)
        clear h48 hbs
        obtain ⟨cap, w1, hcv, hn1, hcl⟩ := conv_c bs w
        have HCL := hid hcl
        clear hcl
        go_enter Tryd.func33, Tryd.ntmps33
        go_wp2
        go_loopw [4, 6, 26] (fun n _ i wr => ∃ k : Nat, k ≤ bs.length ∧ i = .int .i64 (k : Int) ∧ n = .int .i64 (val (bs.take k)) ∧ Hid ((bs.take k).all dg = true) ∧ Nw w1 wr) (fun _ _ i _ => bs.length - (intOf i).toNat)
        case atStart => exact ⟨0, Nat.zero_le _, rfl, rfl, hid rfl, Nw.refl _⟩
        case round =>
          obtain ⟨k, hk, rfl, rfl, ha, hnr⟩ := hrel
          by_cases hlt : k < bs.length
          · have hdk : decide (k < bs.length) = true := decide_eq_true hlt
            obtain ⟨x, hx⟩ : ∃ x, bs[k]? = some x := ⟨bs[k], by rw [List.getElem?_eq_getElem]⟩
            obtain ⟨b0, o0, x2, e1, c0, hx2, hxl⟩ := u8s_cell (fun i hi => (HCL.out.nw hnr) i hi) k hlt
            have hxx : x2 = x := Option.some.inj (hx2.out.symm.trans hx)
            rw [hxx] at c0 hxl
            obtain ⟨rfl, rfl⟩ : w.heap.size = b0 ∧ 0 = o0 := by cases e1; exact ⟨rfl, rfl⟩
            clear hx2 hxx e1
            rw [Nat.zero_add] at c0
            have hzz := World.block_lt_of_cell? wr _ c0
            simp only at hzz
            obtain ⟨v0, v1⟩ := val_lt (bs := bs) (k := k) (by omega) ha.out
            have HV := hid (val_take hx)
            have HA := hid (fun h => all_take hx ha.out h)
            have HB := hid (fun h => bad_dg hx h)
            have hdg := dgs x
            clear hx
            generalize val (bs.take k) = V at *
            by_cases h1 : x.toNat < 48
            · have d1 : decide ((x.toNat : Int) < 48) = true := decide_eq_true (by omega)
              have d2 : decide (x.toNat < 48) = true := decide_eq_true h1
              have HN := hid (HB.out (by rw [hdg, decide_eq_false (by omega)]; rfl))
              clear hdg h1
              go_wp2
              go_ret2
              exact hands_none HN.out (by repeat (first | assumption | exact Nw.refl _ | refine Nw.alloc ?_ _ | refine Nw.drew ?_ | refine Nw.drewN2 ?_ _ | (refine Nw.trans ?_ (by assumption))))
            · have d1 : decide ((x.toNat : Int) < 48) = false := decide_eq_false (by omega)
              have d2 : decide (x.toNat < 48) = false := decide_eq_false h1
              by_cases h2 : 57 < x.toNat
              · have d3 : decide (57 < (x.toNat : Int)) = true := decide_eq_true (by omega)
                have d4 : decide (57 < x.toNat) = true := decide_eq_true h2
                have HN := hid (HB.out (by rw [hdg, decide_eq_false (show ¬ x.toNat ≤ 57 by omega), Bool.and_false]))
                clear hdg h2
                go_wp2
                go_ret2
                exact hands_none HN.out (by repeat (first | assumption | exact Nw.refl _ | refine Nw.alloc ?_ _ | refine Nw.drew ?_ | refine Nw.drewN2 ?_ _ | (refine Nw.trans ?_ (by assumption))))
              · have d3 : decide (57 < (x.toNat : Int)) = false := decide_eq_false (by omega)
                have d4 : decide (57 < x.toNat) = false := decide_eq_false h2
                have HN := hid (HA.out (by rw [hdg, decide_eq_true (show 48 ≤ x.toNat by omega), decide_eq_true (show x.toNat ≤ 57 by omega)]; rfl))
                have h3 : (48 : Int) ≤ x.toNat := by omega
                have h4 : (x.toNat : Int) ≤ 57 := by omega
                have q1 : IntKind.u8.wrap ((x.toNat : Int) - 48) = (x.toNat : Int) - 48 := by unfold IntKind.wrap; simp [IntKind.min, IntKind.max, IntKind.bits, IntKind.signed]; omega
                clear hdg h1 h2
                go_wp2
                go_roundw
                case rel => exact ⟨k + 1, by omega, by go_num, by rw [HV.out], HN, (by repeat (first | assumption | exact Nw.refl _ | refine Nw.alloc ?_ _ | refine Nw.drew ?_ | refine Nw.drewN2 ?_ _ | (refine Nw.trans ?_ (by assumption))))⟩
                case measure => simp [intOf]; omega
          · obtain rfl : k = bs.length := by omega
            have hdk : decide (bs.length < bs.length) = false := decide_eq_false (Nat.lt_irrefl _)
            have HF := hid (show num bs = some (val bs) from num_is HG.out (by have := ha.out; rwa [List.take_length] at this))
            rw [List.take_length]
            go_wp2
            go_ret2
            exact ⟨by unfold numv; rw [HF.out]; rfl, (by repeat (first | assumption | exact Nw.refl _ | refine Nw.alloc ?_ _ | refine Nw.drew ?_ | refine Nw.drewN2 ?_ _ | (refine Nw.trans ?_ (by assumption))))⟩
end Vd
end Go.Proofs.YtlimhggkimnddaaDoor
