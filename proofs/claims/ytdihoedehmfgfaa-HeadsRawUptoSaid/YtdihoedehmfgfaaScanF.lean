/- The contract of watchglassref8.Record. No condition but lengths. -/
import Derived.Test.YtdihoedehmfgfaaScanE
set_option linter.unusedSimpArgs false
set_option linter.unusedVariables false
namespace Go.Proofs.Ytdihoedehmfgfaa
open Go.ChangeShapes Go.WideShapes Go.ChangeAt Go.RowKit
namespace Sc
open Go.Proofs.Ytdihoedehmfgfaa.Rec (rises get none_ size i64s_open HandsGO HandsG results_cell3)
open Go.Proofs.Ytdihoedehmfgfaa.Tr (box2 lt_alloc ints_shape)
open Go.Proofs.Ytdihoedehmfgfaa.Src (rt)
theorem rr_end {w wX : World} {g : Nat} {x : Rec.Got} {t k e : Int} {l : List Int} {v : Value} (hx : x = ((t, l), k, e)) (hg : g = w.heap.size) (hn : Nw w wX) (hown : Own wX (g + 1) 3 v (i64s l)) :
    HandsG w x (.returned (.tuple #[.agg #[.int .u64 t, v], .int .i64 k, .int .i64 e])) ((wX.setCell ⟨g, 0, none⟩ (.int .u64 t)).setCell ⟨g, 1, none⟩ v) := by
  subst hx
  have hms : Mods (· = g) wX ((wX.setCell ⟨g, 0, none⟩ (.int .u64 t)).setCell ⟨g, 1, none⟩ v) := Mods.setCell (S := (· = g)) (Mods.setCell (S := (· = g)) (Mods.refl _ wX) (p := ⟨g, 0, none⟩) rfl _) (p := ⟨g, 1, none⟩) rfl _
  exact ⟨v, rfl, (Own.modsR hown hms (fun q hq e => by have := (World.ownsRow.lt hown q hq).1; omega)).sl, hn.ofMods hms (fun k hk => by omega)⟩
set_option maxRecDepth 20000 in
set_option maxHeartbeats 3200000 in
theorem rrecord_c (v : Value) (b : List UInt8) (fault at_ p : Int) (w : World) (hb : Bytes w v b) (hl : b.length ≤ 1000000000) (hf1 : -9223372036854775808 ≤ fault) (hf2 : fault ≤ 9223372036854775807) (hat1 : -9223372036854775808 ≤ at_) (hat2 : at_ ≤ 9223372036854775807) (hp1 : -9223372036854775808 ≤ p) (hp2 : p ≤ 9223372036854775807) :
    Calls Try.prog 75 #[v, .int .i64 fault, .int .i64 at_, .int .i64 p] w (HandsG w (recP b (rt b.length fault) at_ p)) := by
  obtain ⟨pb0, cap, rfl, hcap, hmx, hp0, hc⟩ := hb.open
  have hmx' := hmx
  unfold maxLen at hmx
  clear hb
  generalize hX0 : recP b (rt b.length fault) at_ p = X
  by_cases hz : b.length = 0
  · have hb0 : b = [] := List.eq_nil_of_length_eq_zero hz
    subst hb0
    have HX0 := hid hX0
    clear hX0 hz
    have hdx : decide (0 ≤ fault) = true ∨ decide (0 ≤ fault) = false := by cases decide (0 ≤ fault) <;> simp
    have hdy : decide (fault < 0) = true ∨ decide (fault < 0) = false := by cases decide (fault < 0) <;> simp
    by_cases hlow : at_ < 0
    · have hd3 : decide (at_ < 0) = true := decide_eq_true hlow
      have HF := hid (HX0.out.symm.trans (rec_low (b := []) hlow))
      rcases hdx with hdx | hdx <;> rcases hdy with hdy | hdy
      all_goals
        go_enter Try.func75, Try.ntmps75
        go_upto_region 1 with fail
        have y2 := heap_new w (.cells #[.int .u64 0, .slice none 0 0] 38)
        have hn0 := (Nw.refl w).alloc (.cells #[.int .u64 0, .slice none 0 0] 38)
        generalize w.alloc (.cells #[.int .u64 0, .slice none 0 0] 38) = w0 at *
        have z0 := heap_cell y2 0
        have z1 := heap_cell y2 1
        simp only [List.getElem?_toArray, List.getElem?_cons_succ, List.getElem?_cons_zero] at z0 z1
        have f0 := heap_frozen y2 0
        have f1 := heap_frozen y2 1
        go_wp2
        ((try simp only [Exit.inBlock, Exit.then]); refine bodyPost_ret (results_cell3 rfl _ _ _ _ _ _ _ rfl (heap_set (heap_set y2 0 (.int .u64 0)) 1 (.slice none 0 0)) Try.underlying38 rfl (by kernel_rfl)) rfl ?_)
        exact rr_end HF.out rfl hn0 (Own.nil _ _ _)
    · have hd3 : decide (at_ < 0) = false := decide_eq_false hlow
      have hd4 : decide (0 ≤ at_) = true := decide_eq_true (by omega)
      have HF := hid (HX0.out.symm.trans (rec_high (b := []) hlow (by simp; omega)))
      rcases hdx with hdx | hdx <;> rcases hdy with hdy | hdy
      all_goals
        go_enter Try.func75, Try.ntmps75
        go_upto_region 1 with fail
        have y2 := heap_new w (.cells #[.int .u64 0, .slice none 0 0] 38)
        have hn0 := (Nw.refl w).alloc (.cells #[.int .u64 0, .slice none 0 0] 38)
        generalize w.alloc (.cells #[.int .u64 0, .slice none 0 0] 38) = w0 at *
        have z0 := heap_cell y2 0
        have z1 := heap_cell y2 1
        simp only [List.getElem?_toArray, List.getElem?_cons_succ, List.getElem?_cons_zero] at z0 z1
        have f0 := heap_frozen y2 0
        have f1 := heap_frozen y2 1
        go_wp2
        ((try simp only [Exit.inBlock, Exit.then]); refine bodyPost_ret (results_cell3 rfl _ _ _ _ _ _ _ rfl (heap_set (heap_set y2 0 (.int .u64 0)) 1 (.slice none 0 0)) Try.underlying38 rfl (by kernel_rfl)) rfl ?_)
        exact rr_end HF.out rfl hn0 (Own.nil _ _ _)
  · obtain ⟨pb, po, rfl⟩ := hc.place (by rw [u8s_length]; omega)
    by_cases h1 : 0 ≤ fault
    · have hd1 : decide (0 ≤ fault) = true := decide_eq_true h1
      obtain ⟨f, rfl⟩ := Int.eq_ofNat_of_zero_le h1
      by_cases h2 : f < b.length
      · have hr : rt b.length (f : Int) = f := by unfold Src.rt; rw [if_pos (by omega), Int.toNat_natCast]
        rw [hr] at hX0
        have HX0 := hid hX0
        have hd2 : decide ((f : Int) < (b.length : Int)) = true := decide_eq_true (by omega)
        clear hX0 hr
        go_enter Try.func75, Try.ntmps75
        go_upto_region 1 with fail
        have y2 := heap_new w (.cells #[.int .u64 0, .slice none 0 0] 38)
        have hn0 := (Nw.refl w).alloc (.cells #[.int .u64 0, .slice none 0 0] 38)
        generalize w.alloc (.cells #[.int .u64 0, .slice none 0 0] 38) = w0 at *
        -- f: r
        have hrl : f ≤ b.length := by omega
        by_cases hlow : at_ < 0
        · have hd3 : decide (at_ < 0) = true := decide_eq_true hlow
          have HF := hid (HX0.out.symm.trans (rec_low (b := b) (r := f) (p := p) hlow))
          have z0 := heap_cell y2 0
          have z1 := heap_cell y2 1
          simp only [List.getElem?_toArray, List.getElem?_cons_succ, List.getElem?_cons_zero] at z0 z1
          have f0 := heap_frozen y2 0
          have f1 := heap_frozen y2 1
          go_wp2
          ((try simp only [Exit.inBlock, Exit.then]); refine bodyPost_ret (results_cell3 rfl _ _ _ _ _ _ _ rfl (heap_set (heap_set y2 0 (.int .u64 0)) 1 (.slice none 0 0)) Try.underlying38 rfl (by kernel_rfl)) rfl ?_)
          exact rr_end HF.out rfl hn0 (Own.nil _ _ _)
        · have hd3 : decide (at_ < 0) = false := decide_eq_false hlow
          obtain ⟨q, rfl⟩ := Int.eq_ofNat_of_zero_le (by omega : 0 ≤ at_)
          by_cases hhi : b.length ≤ q
          · have hd4 : decide ((b.length : Int) ≤ (q : Int)) = true := decide_eq_true (by omega)
            have HF := hid (HX0.out.symm.trans (rec_high (b := b) (r := f) (at_ := (q : Int)) (p := p) (by omega) (by omega)))
            have z0 := heap_cell y2 0
            have z1 := heap_cell y2 1
            simp only [List.getElem?_toArray, List.getElem?_cons_succ, List.getElem?_cons_zero] at z0 z1
            have f0 := heap_frozen y2 0
            have f1 := heap_frozen y2 1
            go_wp2
            ((try simp only [Exit.inBlock, Exit.then]); refine bodyPost_ret (results_cell3 rfl _ _ _ _ _ _ _ rfl (heap_set (heap_set y2 0 (.int .u64 0)) 1 (.slice none 0 0)) Try.underlying38 rfl (by kernel_rfl)) rfl ?_)
            exact rr_end HF.out rfl hn0 (Own.nil _ _ _)
          · have hd4 : decide ((b.length : Int) ≤ (q : Int)) = false := decide_eq_false (by omega)
            have hqb : q < b.length := by omega
            obtain ⟨d, hd⟩ : ∃ d, d = (b.take f).drop (min q f) := ⟨_, rfl⟩
            have hdl : d.length ≤ 1000000000 := by rw [hd, List.length_drop, List.length_take]; omega
            obtain ⟨tt, ll, nn, ee, hG⟩ : ∃ tt ll nn ee, get d p = ((tt, ll), nn, ee) := ⟨_, _, _, _, rfl⟩
            have HGT := hid (fun w' va (hva : Bytes w' va d) => show Calls Try.prog 100 #[va, .int .i64 p] w' (HandsGO w' ((tt, ll), nn, ee)) by rw [← hG]; exact Rec.rget_o va d p w' hva (by omega) hp1 hp2)
            have HND := hid (show ee = 0 → ∃ m : Nat, nn = (m : Int) ∧ m ≤ 1000000000 from fun h => by subst h; obtain ⟨m, e1, e2, _⟩ := Rec.get_canon d p _ _ hG; exact ⟨m, e1, by omega⟩)
            have HX := hid (HX0.out.symm.trans (show recP b f (q : Int) p = if f < b.length ∧ (ee = 13 ∨ ee = 7) then none_ 10 else if ee ≠ 0 then none_ ee else ((tt, ll), (q : Int) + nn, 0) by
              unfold recP
              rw [if_neg (by omega), if_neg (by omega), Int.toNat_natCast, ← hd, hG]))
            have z0 := heap_cell y2 0
            have z1 := heap_cell y2 1
            simp only [List.getElem?_toArray, List.getElem?_cons_succ, List.getElem?_cons_zero] at z0 z1
            have f0 := heap_frozen y2 0
            have f1 := heap_frozen y2 1
            by_cases hqr : q ≤ f
            · have HBY := hid (fun w' (h : Nw w0 w') => show Bytes w' (.slice (some ⟨pb, po + q, none⟩) (f - q) (cap - q)) d by
                have := bytes_sub (hc.nw (hn0.trans h)) hcap hmx' q (f - q) (by omega)
                rw [hd, Nat.min_eq_left hqr, List.drop_take]
                exact this)
              have hif : ¬ ((f : Nat) : Int) < (q : Int) := by omega
              have hcq : ((f : Nat) : Int) - (q : Int) = ((f - q : Nat) : Int) := by omega
              have hcq2 : ¬ cap = q := by omega
              clear hd hG hdl
              go_upto_region 10 with (first
                | (go_at_call 100; refine (HGT.out _ _ (HBY.out _ (by repeat (first | assumption | exact Nw.refl _ | refine Nw.alloc ?_ _ | refine Nw.drew ?_ | refine Nw.drewN2 ?_ _ | (refine Nw.trans ?_ (by assumption)))))).mono ?_; rintro e' w8 ⟨v8, rfl, hown8, hn8⟩; obtain ⟨p8, c8, rfl⟩ := ints_shape hown8; dsimp only at hown8 ⊢)
                | fail)
              have hn4 := hn8.alloc (.cells #[.int .u64 tt, .slice p8 ll.length c8] 38)
              obtain ⟨x0, x1⟩ := box2 w8 (.int .u64 tt) (.slice p8 ll.length c8) 38
              have hown4 := hown8.nw ((Nw.refl w8).alloc (.cells #[.int .u64 tt, .slice p8 ll.length c8] 38))
              have hsz8 := hn8.size
              have hg0 := lt_of_heap y2
              replace y2 := hn4.heap y2
              have hnw := hn0.trans hn4
              have hown5 := Own.mono hown4 (show w.heap.size + 1 ≤ w0.heap.size by omega)
              clear hn4 hn8 hown8 hown4 z0 z1 f0 f1 HBY HGT
              generalize w8.alloc (.cells #[.int .u64 tt, .slice p8 ll.length c8] 38) = w4 at *
              generalize w8.heap.size = g12 at *
              have z0 := heap_cell y2 0
              have z1 := heap_cell y2 1
              simp only [List.getElem?_toArray, List.getElem?_cons_succ, List.getElem?_cons_zero] at z0 z1
              have f0 := heap_frozen y2 0
              have f1 := heap_frozen y2 1
              by_cases hee : ee = 0
              · subst hee
                obtain ⟨m, rfl, hmd2⟩ := HND.out rfl
                have HF := hid (HX.out.trans (by first | (rw [if_neg (by omega), if_neg (by omega)]) | rw [if_neg (by rintro ⟨_, z | z⟩ <;> cases z), if_neg (by omega)]))
                clear HND HX
                go_wp2
                ((try simp only [Exit.inBlock, Exit.then]); refine bodyPost_ret (results_cell3 rfl _ _ _ _ _ _ _ rfl (heap_set (heap_set y2 0 (.int .u64 tt)) 1 (.slice p8 ll.length c8)) Try.underlying38 rfl (by kernel_rfl)) rfl ?_)
                exact rr_end HF.out rfl hnw hown5
              · have hd0 : (ee != 0) = true := by simpa using hee
                by_cases h13 : ee = 13
                · have hd3 : (ee == 13) = true := by rw [h13]; rfl
                  subst h13
                  have HF := hid (HX.out.trans (by first | rw [if_pos (by omega)] | rw [if_neg (by omega), if_pos (by decide)]))
                  clear HND HX hee
                  go_wp2
                  ((try simp only [Exit.inBlock, Exit.then]); refine bodyPost_ret (results_cell3 rfl _ _ _ _ _ _ _ rfl (heap_set (heap_set y2 0 (.int .u64 0)) 1 (.slice none 0 0)) Try.underlying38 rfl (by kernel_rfl)) rfl ?_)
                  exact rr_end HF.out rfl hnw (Own.nil _ _ _)
                · have hd3 : (ee == 13) = false := beq_eq_false_iff_ne.2 h13
                  by_cases h7 : ee = 7
                  · have hd4 : (ee == 7) = true := by rw [h7]; rfl
                    subst h7
                    have HF := hid (HX.out.trans (by first | rw [if_pos (by omega)] | rw [if_neg (by omega), if_pos (by decide)]))
                    clear HND HX hee
                    go_wp2
                    ((try simp only [Exit.inBlock, Exit.then]); refine bodyPost_ret (results_cell3 rfl _ _ _ _ _ _ _ rfl (heap_set (heap_set y2 0 (.int .u64 0)) 1 (.slice none 0 0)) Try.underlying38 rfl (by kernel_rfl)) rfl ?_)
                    exact rr_end HF.out rfl hnw (Own.nil _ _ _)
                  · have hd4 : (ee == 7) = false := beq_eq_false_iff_ne.2 h7
                    have HF := hid (HX.out.trans (by rw [if_neg (by omega), if_pos hee]))
                    clear HND HX hee h13 h7
                    go_wp2
                    ((try simp only [Exit.inBlock, Exit.then]); refine bodyPost_ret (results_cell3 rfl _ _ _ _ _ _ _ rfl (heap_set (heap_set y2 0 (.int .u64 0)) 1 (.slice none 0 0)) Try.underlying38 rfl (by kernel_rfl)) rfl ?_)
                    exact rr_end HF.out rfl hnw (Own.nil _ _ _)
            · skip
              have HBY := hid (fun w' (h : Nw w0 w') => show Bytes w' (.slice (some ⟨pb, po + f, none⟩) 0 (cap - f)) d by
                have := bytes_sub (hc.nw (hn0.trans h)) hcap hmx' f 0 (by omega)
                rw [hd, Nat.min_eq_right (by omega), List.drop_take, Nat.sub_self]
                exact this)
              have hif : ((f : Nat) : Int) < (q : Int) := by omega
              have hcq2 : ¬ cap = f := by omega
              clear hd hG hdl
              go_upto_region 10 with (first
                | (go_at_call 100; refine (HGT.out _ _ (HBY.out _ (by repeat (first | assumption | exact Nw.refl _ | refine Nw.alloc ?_ _ | refine Nw.drew ?_ | refine Nw.drewN2 ?_ _ | (refine Nw.trans ?_ (by assumption)))))).mono ?_; rintro e' w8 ⟨v8, rfl, hown8, hn8⟩; obtain ⟨p8, c8, rfl⟩ := ints_shape hown8; dsimp only at hown8 ⊢)
                | fail)
              have hn4 := hn8.alloc (.cells #[.int .u64 tt, .slice p8 ll.length c8] 38)
              obtain ⟨x0, x1⟩ := box2 w8 (.int .u64 tt) (.slice p8 ll.length c8) 38
              have hown4 := hown8.nw ((Nw.refl w8).alloc (.cells #[.int .u64 tt, .slice p8 ll.length c8] 38))
              have hsz8 := hn8.size
              have hg0 := lt_of_heap y2
              replace y2 := hn4.heap y2
              have hnw := hn0.trans hn4
              have hown5 := Own.mono hown4 (show w.heap.size + 1 ≤ w0.heap.size by omega)
              clear hn4 hn8 hown8 hown4 z0 z1 f0 f1 HBY HGT
              generalize w8.alloc (.cells #[.int .u64 tt, .slice p8 ll.length c8] 38) = w4 at *
              generalize w8.heap.size = g12 at *
              have z0 := heap_cell y2 0
              have z1 := heap_cell y2 1
              simp only [List.getElem?_toArray, List.getElem?_cons_succ, List.getElem?_cons_zero] at z0 z1
              have f0 := heap_frozen y2 0
              have f1 := heap_frozen y2 1
              by_cases hee : ee = 0
              · subst hee
                obtain ⟨m, rfl, hmd2⟩ := HND.out rfl
                have HF := hid (HX.out.trans (by first | (rw [if_neg (by omega), if_neg (by omega)]) | rw [if_neg (by rintro ⟨_, z | z⟩ <;> cases z), if_neg (by omega)]))
                clear HND HX
                go_wp2
                ((try simp only [Exit.inBlock, Exit.then]); refine bodyPost_ret (results_cell3 rfl _ _ _ _ _ _ _ rfl (heap_set (heap_set y2 0 (.int .u64 tt)) 1 (.slice p8 ll.length c8)) Try.underlying38 rfl (by kernel_rfl)) rfl ?_)
                exact rr_end HF.out rfl hnw hown5
              · have hd0 : (ee != 0) = true := by simpa using hee
                by_cases h13 : ee = 13
                · have hd3 : (ee == 13) = true := by rw [h13]; rfl
                  subst h13
                  have HF := hid (HX.out.trans (by first | rw [if_pos (by omega)] | rw [if_neg (by omega), if_pos (by decide)]))
                  clear HND HX hee
                  go_wp2
                  ((try simp only [Exit.inBlock, Exit.then]); refine bodyPost_ret (results_cell3 rfl _ _ _ _ _ _ _ rfl (heap_set (heap_set y2 0 (.int .u64 0)) 1 (.slice none 0 0)) Try.underlying38 rfl (by kernel_rfl)) rfl ?_)
                  exact rr_end HF.out rfl hnw (Own.nil _ _ _)
                · have hd3 : (ee == 13) = false := beq_eq_false_iff_ne.2 h13
                  by_cases h7 : ee = 7
                  · have hd4 : (ee == 7) = true := by rw [h7]; rfl
                    subst h7
                    have HF := hid (HX.out.trans (by first | rw [if_pos (by omega)] | rw [if_neg (by omega), if_pos (by decide)]))
                    clear HND HX hee
                    go_wp2
                    ((try simp only [Exit.inBlock, Exit.then]); refine bodyPost_ret (results_cell3 rfl _ _ _ _ _ _ _ rfl (heap_set (heap_set y2 0 (.int .u64 0)) 1 (.slice none 0 0)) Try.underlying38 rfl (by kernel_rfl)) rfl ?_)
                    exact rr_end HF.out rfl hnw (Own.nil _ _ _)
                  · have hd4 : (ee == 7) = false := beq_eq_false_iff_ne.2 h7
                    have HF := hid (HX.out.trans (by rw [if_neg (by omega), if_pos hee]))
                    clear HND HX hee h13 h7
                    go_wp2
                    ((try simp only [Exit.inBlock, Exit.then]); refine bodyPost_ret (results_cell3 rfl _ _ _ _ _ _ _ rfl (heap_set (heap_set y2 0 (.int .u64 0)) 1 (.slice none 0 0)) Try.underlying38 rfl (by kernel_rfl)) rfl ?_)
                    exact rr_end HF.out rfl hnw (Own.nil _ _ _)
      · have hr : rt b.length (f : Int) = b.length := by unfold Src.rt; rw [if_neg (by omega)]
        rw [hr] at hX0
        have HX0 := hid hX0
        have hd2 : decide ((f : Int) < (b.length : Int)) = false := decide_eq_false (by omega)
        clear hX0 hr
        go_enter Try.func75, Try.ntmps75
        go_upto_region 1 with fail
        have y2 := heap_new w (.cells #[.int .u64 0, .slice none 0 0] 38)
        have hn0 := (Nw.refl w).alloc (.cells #[.int .u64 0, .slice none 0 0] 38)
        generalize w.alloc (.cells #[.int .u64 0, .slice none 0 0] 38) = w0 at *
        -- b.length: r
        have hrl : b.length ≤ b.length := by omega
        by_cases hlow : at_ < 0
        · have hd3 : decide (at_ < 0) = true := decide_eq_true hlow
          have HF := hid (HX0.out.symm.trans (rec_low (b := b) (r := b.length) (p := p) hlow))
          have z0 := heap_cell y2 0
          have z1 := heap_cell y2 1
          simp only [List.getElem?_toArray, List.getElem?_cons_succ, List.getElem?_cons_zero] at z0 z1
          have f0 := heap_frozen y2 0
          have f1 := heap_frozen y2 1
          go_wp2
          ((try simp only [Exit.inBlock, Exit.then]); refine bodyPost_ret (results_cell3 rfl _ _ _ _ _ _ _ rfl (heap_set (heap_set y2 0 (.int .u64 0)) 1 (.slice none 0 0)) Try.underlying38 rfl (by kernel_rfl)) rfl ?_)
          exact rr_end HF.out rfl hn0 (Own.nil _ _ _)
        · have hd3 : decide (at_ < 0) = false := decide_eq_false hlow
          obtain ⟨q, rfl⟩ := Int.eq_ofNat_of_zero_le (by omega : 0 ≤ at_)
          by_cases hhi : b.length ≤ q
          · have hd4 : decide ((b.length : Int) ≤ (q : Int)) = true := decide_eq_true (by omega)
            have HF := hid (HX0.out.symm.trans (rec_high (b := b) (r := b.length) (at_ := (q : Int)) (p := p) (by omega) (by omega)))
            have z0 := heap_cell y2 0
            have z1 := heap_cell y2 1
            simp only [List.getElem?_toArray, List.getElem?_cons_succ, List.getElem?_cons_zero] at z0 z1
            have f0 := heap_frozen y2 0
            have f1 := heap_frozen y2 1
            go_wp2
            ((try simp only [Exit.inBlock, Exit.then]); refine bodyPost_ret (results_cell3 rfl _ _ _ _ _ _ _ rfl (heap_set (heap_set y2 0 (.int .u64 0)) 1 (.slice none 0 0)) Try.underlying38 rfl (by kernel_rfl)) rfl ?_)
            exact rr_end HF.out rfl hn0 (Own.nil _ _ _)
          · have hd4 : decide ((b.length : Int) ≤ (q : Int)) = false := decide_eq_false (by omega)
            have hqb : q < b.length := by omega
            obtain ⟨d, hd⟩ : ∃ d, d = (b.take b.length).drop (min q b.length) := ⟨_, rfl⟩
            have hdl : d.length ≤ 1000000000 := by rw [hd, List.length_drop, List.length_take]; omega
            obtain ⟨tt, ll, nn, ee, hG⟩ : ∃ tt ll nn ee, get d p = ((tt, ll), nn, ee) := ⟨_, _, _, _, rfl⟩
            have HGT := hid (fun w' va (hva : Bytes w' va d) => show Calls Try.prog 100 #[va, .int .i64 p] w' (HandsGO w' ((tt, ll), nn, ee)) by rw [← hG]; exact Rec.rget_o va d p w' hva (by omega) hp1 hp2)
            have HND := hid (show ee = 0 → ∃ m : Nat, nn = (m : Int) ∧ m ≤ 1000000000 from fun h => by subst h; obtain ⟨m, e1, e2, _⟩ := Rec.get_canon d p _ _ hG; exact ⟨m, e1, by omega⟩)
            have HX := hid (HX0.out.symm.trans (show recP b b.length (q : Int) p = if b.length < b.length ∧ (ee = 13 ∨ ee = 7) then none_ 10 else if ee ≠ 0 then none_ ee else ((tt, ll), (q : Int) + nn, 0) by
              unfold recP
              rw [if_neg (by omega), if_neg (by omega), Int.toNat_natCast, ← hd, hG]))
            have z0 := heap_cell y2 0
            have z1 := heap_cell y2 1
            simp only [List.getElem?_toArray, List.getElem?_cons_succ, List.getElem?_cons_zero] at z0 z1
            have f0 := heap_frozen y2 0
            have f1 := heap_frozen y2 1
            by_cases hqr : q ≤ b.length
            · have HBY := hid (fun w' (h : Nw w0 w') => show Bytes w' (.slice (some ⟨pb, po + q, none⟩) (b.length - q) (cap - q)) d by
                have := bytes_sub (hc.nw (hn0.trans h)) hcap hmx' q (b.length - q) (by omega)
                rw [hd, Nat.min_eq_left hqr, List.drop_take]
                exact this)
              have hif : ¬ ((b.length : Nat) : Int) < (q : Int) := by omega
              have hcq : ((b.length : Nat) : Int) - (q : Int) = ((b.length - q : Nat) : Int) := by omega
              have hcq2 : ¬ cap = q := by omega
              clear hd hG hdl
              go_upto_region 10 with (first
                | (go_at_call 100; refine (HGT.out _ _ (HBY.out _ (by repeat (first | assumption | exact Nw.refl _ | refine Nw.alloc ?_ _ | refine Nw.drew ?_ | refine Nw.drewN2 ?_ _ | (refine Nw.trans ?_ (by assumption)))))).mono ?_; rintro e' w8 ⟨v8, rfl, hown8, hn8⟩; obtain ⟨p8, c8, rfl⟩ := ints_shape hown8; dsimp only at hown8 ⊢)
                | fail)
              have hn4 := hn8.alloc (.cells #[.int .u64 tt, .slice p8 ll.length c8] 38)
              obtain ⟨x0, x1⟩ := box2 w8 (.int .u64 tt) (.slice p8 ll.length c8) 38
              have hown4 := hown8.nw ((Nw.refl w8).alloc (.cells #[.int .u64 tt, .slice p8 ll.length c8] 38))
              have hsz8 := hn8.size
              have hg0 := lt_of_heap y2
              replace y2 := hn4.heap y2
              have hnw := hn0.trans hn4
              have hown5 := Own.mono hown4 (show w.heap.size + 1 ≤ w0.heap.size by omega)
              clear hn4 hn8 hown8 hown4 z0 z1 f0 f1 HBY HGT
              generalize w8.alloc (.cells #[.int .u64 tt, .slice p8 ll.length c8] 38) = w4 at *
              generalize w8.heap.size = g12 at *
              have z0 := heap_cell y2 0
              have z1 := heap_cell y2 1
              simp only [List.getElem?_toArray, List.getElem?_cons_succ, List.getElem?_cons_zero] at z0 z1
              have f0 := heap_frozen y2 0
              have f1 := heap_frozen y2 1
              by_cases hee : ee = 0
              · subst hee
                obtain ⟨m, rfl, hmd2⟩ := HND.out rfl
                have HF := hid (HX.out.trans (by first | (rw [if_neg (by omega), if_neg (by omega)]) | rw [if_neg (by rintro ⟨_, z | z⟩ <;> cases z), if_neg (by omega)]))
                clear HND HX
                go_wp2
                ((try simp only [Exit.inBlock, Exit.then]); refine bodyPost_ret (results_cell3 rfl _ _ _ _ _ _ _ rfl (heap_set (heap_set y2 0 (.int .u64 tt)) 1 (.slice p8 ll.length c8)) Try.underlying38 rfl (by kernel_rfl)) rfl ?_)
                exact rr_end HF.out rfl hnw hown5
              · have hd0 : (ee != 0) = true := by simpa using hee
                by_cases h13 : ee = 13
                · have hd3 : (ee == 13) = true := by rw [h13]; rfl
                  subst h13
                  have HF := hid (HX.out.trans (by first | rw [if_pos (by omega)] | rw [if_neg (by omega), if_pos (by decide)]))
                  clear HND HX hee
                  go_wp2
                  ((try simp only [Exit.inBlock, Exit.then]); refine bodyPost_ret (results_cell3 rfl _ _ _ _ _ _ _ rfl (heap_set (heap_set y2 0 (.int .u64 0)) 1 (.slice none 0 0)) Try.underlying38 rfl (by kernel_rfl)) rfl ?_)
                  exact rr_end HF.out rfl hnw (Own.nil _ _ _)
                · have hd3 : (ee == 13) = false := beq_eq_false_iff_ne.2 h13
                  by_cases h7 : ee = 7
                  · have hd4 : (ee == 7) = true := by rw [h7]; rfl
                    subst h7
                    have HF := hid (HX.out.trans (by first | rw [if_pos (by omega)] | rw [if_neg (by omega), if_pos (by decide)]))
                    clear HND HX hee
                    go_wp2
                    ((try simp only [Exit.inBlock, Exit.then]); refine bodyPost_ret (results_cell3 rfl _ _ _ _ _ _ _ rfl (heap_set (heap_set y2 0 (.int .u64 0)) 1 (.slice none 0 0)) Try.underlying38 rfl (by kernel_rfl)) rfl ?_)
                    exact rr_end HF.out rfl hnw (Own.nil _ _ _)
                  · have hd4 : (ee == 7) = false := beq_eq_false_iff_ne.2 h7
                    have HF := hid (HX.out.trans (by rw [if_neg (by omega), if_pos hee]))
                    clear HND HX hee h13 h7
                    go_wp2
                    ((try simp only [Exit.inBlock, Exit.then]); refine bodyPost_ret (results_cell3 rfl _ _ _ _ _ _ _ rfl (heap_set (heap_set y2 0 (.int .u64 0)) 1 (.slice none 0 0)) Try.underlying38 rfl (by kernel_rfl)) rfl ?_)
                    exact rr_end HF.out rfl hnw (Own.nil _ _ _)
            · skip
              exact absurd (Nat.le_of_lt hqb) hqr
    · have hd1 : decide (0 ≤ fault) = false := decide_eq_false h1
      have hr : rt b.length fault = b.length := by unfold Src.rt; rw [if_neg (by omega)]
      rw [hr] at hX0
      have HX0 := hid hX0
      clear hX0 hr
      go_enter Try.func75, Try.ntmps75
      go_upto_region 1 with fail
      have y2 := heap_new w (.cells #[.int .u64 0, .slice none 0 0] 38)
      have hn0 := (Nw.refl w).alloc (.cells #[.int .u64 0, .slice none 0 0] 38)
      generalize w.alloc (.cells #[.int .u64 0, .slice none 0 0] 38) = w0 at *
      -- b.length: r
      have hrl : b.length ≤ b.length := by omega
      by_cases hlow : at_ < 0
      · have hd3 : decide (at_ < 0) = true := decide_eq_true hlow
        have HF := hid (HX0.out.symm.trans (rec_low (b := b) (r := b.length) (p := p) hlow))
        have z0 := heap_cell y2 0
        have z1 := heap_cell y2 1
        simp only [List.getElem?_toArray, List.getElem?_cons_succ, List.getElem?_cons_zero] at z0 z1
        have f0 := heap_frozen y2 0
        have f1 := heap_frozen y2 1
        go_wp2
        ((try simp only [Exit.inBlock, Exit.then]); refine bodyPost_ret (results_cell3 rfl _ _ _ _ _ _ _ rfl (heap_set (heap_set y2 0 (.int .u64 0)) 1 (.slice none 0 0)) Try.underlying38 rfl (by kernel_rfl)) rfl ?_)
        exact rr_end HF.out rfl hn0 (Own.nil _ _ _)
      · have hd3 : decide (at_ < 0) = false := decide_eq_false hlow
        obtain ⟨q, rfl⟩ := Int.eq_ofNat_of_zero_le (by omega : 0 ≤ at_)
        by_cases hhi : b.length ≤ q
        · have hd4 : decide ((b.length : Int) ≤ (q : Int)) = true := decide_eq_true (by omega)
          have HF := hid (HX0.out.symm.trans (rec_high (b := b) (r := b.length) (at_ := (q : Int)) (p := p) (by omega) (by omega)))
          have z0 := heap_cell y2 0
          have z1 := heap_cell y2 1
          simp only [List.getElem?_toArray, List.getElem?_cons_succ, List.getElem?_cons_zero] at z0 z1
          have f0 := heap_frozen y2 0
          have f1 := heap_frozen y2 1
          go_wp2
          ((try simp only [Exit.inBlock, Exit.then]); refine bodyPost_ret (results_cell3 rfl _ _ _ _ _ _ _ rfl (heap_set (heap_set y2 0 (.int .u64 0)) 1 (.slice none 0 0)) Try.underlying38 rfl (by kernel_rfl)) rfl ?_)
          exact rr_end HF.out rfl hn0 (Own.nil _ _ _)
        · have hd4 : decide ((b.length : Int) ≤ (q : Int)) = false := decide_eq_false (by omega)
          have hqb : q < b.length := by omega
          obtain ⟨d, hd⟩ : ∃ d, d = (b.take b.length).drop (min q b.length) := ⟨_, rfl⟩
          have hdl : d.length ≤ 1000000000 := by rw [hd, List.length_drop, List.length_take]; omega
          obtain ⟨tt, ll, nn, ee, hG⟩ : ∃ tt ll nn ee, get d p = ((tt, ll), nn, ee) := ⟨_, _, _, _, rfl⟩
          have HGT := hid (fun w' va (hva : Bytes w' va d) => show Calls Try.prog 100 #[va, .int .i64 p] w' (HandsGO w' ((tt, ll), nn, ee)) by rw [← hG]; exact Rec.rget_o va d p w' hva (by omega) hp1 hp2)
          have HND := hid (show ee = 0 → ∃ m : Nat, nn = (m : Int) ∧ m ≤ 1000000000 from fun h => by subst h; obtain ⟨m, e1, e2, _⟩ := Rec.get_canon d p _ _ hG; exact ⟨m, e1, by omega⟩)
          have HX := hid (HX0.out.symm.trans (show recP b b.length (q : Int) p = if b.length < b.length ∧ (ee = 13 ∨ ee = 7) then none_ 10 else if ee ≠ 0 then none_ ee else ((tt, ll), (q : Int) + nn, 0) by
            unfold recP
            rw [if_neg (by omega), if_neg (by omega), Int.toNat_natCast, ← hd, hG]))
          have z0 := heap_cell y2 0
          have z1 := heap_cell y2 1
          simp only [List.getElem?_toArray, List.getElem?_cons_succ, List.getElem?_cons_zero] at z0 z1
          have f0 := heap_frozen y2 0
          have f1 := heap_frozen y2 1
          by_cases hqr : q ≤ b.length
          · have HBY := hid (fun w' (h : Nw w0 w') => show Bytes w' (.slice (some ⟨pb, po + q, none⟩) (b.length - q) (cap - q)) d by
              have := bytes_sub (hc.nw (hn0.trans h)) hcap hmx' q (b.length - q) (by omega)
              rw [hd, Nat.min_eq_left hqr, List.drop_take]
              exact this)
            have hif : ¬ ((b.length : Nat) : Int) < (q : Int) := by omega
            have hcq : ((b.length : Nat) : Int) - (q : Int) = ((b.length - q : Nat) : Int) := by omega
            have hcq2 : ¬ cap = q := by omega
            clear hd hG hdl
            go_upto_region 10 with (first
              | (go_at_call 100; refine (HGT.out _ _ (HBY.out _ (by repeat (first | assumption | exact Nw.refl _ | refine Nw.alloc ?_ _ | refine Nw.drew ?_ | refine Nw.drewN2 ?_ _ | (refine Nw.trans ?_ (by assumption)))))).mono ?_; rintro e' w8 ⟨v8, rfl, hown8, hn8⟩; obtain ⟨p8, c8, rfl⟩ := ints_shape hown8; dsimp only at hown8 ⊢)
              | fail)
            have hn4 := hn8.alloc (.cells #[.int .u64 tt, .slice p8 ll.length c8] 38)
            obtain ⟨x0, x1⟩ := box2 w8 (.int .u64 tt) (.slice p8 ll.length c8) 38
            have hown4 := hown8.nw ((Nw.refl w8).alloc (.cells #[.int .u64 tt, .slice p8 ll.length c8] 38))
            have hsz8 := hn8.size
            have hg0 := lt_of_heap y2
            replace y2 := hn4.heap y2
            have hnw := hn0.trans hn4
            have hown5 := Own.mono hown4 (show w.heap.size + 1 ≤ w0.heap.size by omega)
            clear hn4 hn8 hown8 hown4 z0 z1 f0 f1 HBY HGT
            generalize w8.alloc (.cells #[.int .u64 tt, .slice p8 ll.length c8] 38) = w4 at *
            generalize w8.heap.size = g12 at *
            have z0 := heap_cell y2 0
            have z1 := heap_cell y2 1
            simp only [List.getElem?_toArray, List.getElem?_cons_succ, List.getElem?_cons_zero] at z0 z1
            have f0 := heap_frozen y2 0
            have f1 := heap_frozen y2 1
            by_cases hee : ee = 0
            · subst hee
              obtain ⟨m, rfl, hmd2⟩ := HND.out rfl
              have HF := hid (HX.out.trans (by first | (rw [if_neg (by omega), if_neg (by omega)]) | rw [if_neg (by rintro ⟨_, z | z⟩ <;> cases z), if_neg (by omega)]))
              clear HND HX
              go_wp2
              ((try simp only [Exit.inBlock, Exit.then]); refine bodyPost_ret (results_cell3 rfl _ _ _ _ _ _ _ rfl (heap_set (heap_set y2 0 (.int .u64 tt)) 1 (.slice p8 ll.length c8)) Try.underlying38 rfl (by kernel_rfl)) rfl ?_)
              exact rr_end HF.out rfl hnw hown5
            · have hd0 : (ee != 0) = true := by simpa using hee
              by_cases h13 : ee = 13
              · have hd3 : (ee == 13) = true := by rw [h13]; rfl
                subst h13
                have HF := hid (HX.out.trans (by first | rw [if_pos (by omega)] | rw [if_neg (by omega), if_pos (by decide)]))
                clear HND HX hee
                go_wp2
                ((try simp only [Exit.inBlock, Exit.then]); refine bodyPost_ret (results_cell3 rfl _ _ _ _ _ _ _ rfl (heap_set (heap_set y2 0 (.int .u64 0)) 1 (.slice none 0 0)) Try.underlying38 rfl (by kernel_rfl)) rfl ?_)
                exact rr_end HF.out rfl hnw (Own.nil _ _ _)
              · have hd3 : (ee == 13) = false := beq_eq_false_iff_ne.2 h13
                by_cases h7 : ee = 7
                · have hd4 : (ee == 7) = true := by rw [h7]; rfl
                  subst h7
                  have HF := hid (HX.out.trans (by first | rw [if_pos (by omega)] | rw [if_neg (by omega), if_pos (by decide)]))
                  clear HND HX hee
                  go_wp2
                  ((try simp only [Exit.inBlock, Exit.then]); refine bodyPost_ret (results_cell3 rfl _ _ _ _ _ _ _ rfl (heap_set (heap_set y2 0 (.int .u64 0)) 1 (.slice none 0 0)) Try.underlying38 rfl (by kernel_rfl)) rfl ?_)
                  exact rr_end HF.out rfl hnw (Own.nil _ _ _)
                · have hd4 : (ee == 7) = false := beq_eq_false_iff_ne.2 h7
                  have HF := hid (HX.out.trans (by rw [if_neg (by omega), if_pos hee]))
                  clear HND HX hee h13 h7
                  go_wp2
                  ((try simp only [Exit.inBlock, Exit.then]); refine bodyPost_ret (results_cell3 rfl _ _ _ _ _ _ _ rfl (heap_set (heap_set y2 0 (.int .u64 0)) 1 (.slice none 0 0)) Try.underlying38 rfl (by kernel_rfl)) rfl ?_)
                  exact rr_end HF.out rfl hnw (Own.nil _ _ _)
          · skip
            exact absurd (Nat.le_of_lt hqb) hqr
end Sc
end Go.Proofs.Ytdihoedehmfgfaa
