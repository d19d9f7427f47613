/- The contract of scan.Record. No condition but lengths. -/
import Derived.Test.YtdihoedehmfgfaaScanD
import Derived.Test.YtdihoedehmfgfaaRecG
import Derived.Test.YtdihoedehmfgfaaLogE
set_option linter.unusedSimpArgs false
set_option linter.unusedVariables false
namespace Go.Proofs.Ytdihoedehmfgfaa
open Go.ChangeShapes Go.WideShapes Go.ChangeAt Go.RowKit
namespace Sc
open Go.Proofs.Ytdihoedehmfgfaa.Rec (rises get none_ size i64s_open HandsGO or_size results_cell3)
open Go.Proofs.Ytdihoedehmfgfaa.Tr (box2 lt_alloc ints_shape)
open Go.Proofs.Ytdihoedehmfgfaa.Lg (sz sz_lt bcell)
/-- A call hands back an event, a place and an error; the source has gone on. -/
def HandsRc (w : World) (B a : Nat) (b : List UInt8) (sc : List Int) (r n : Nat) (x : Rec.Got) (e : Ending) (w' : World) : Prop :=
  ∃ v n', e = .returned (.tuple #[.agg #[.int .u64 x.1.1, v], .int .i64 x.2.1, .int .i64 x.2.2]) ∧ Own w' w.heap.size 3 v (i64s x.1.2) ∧ SI w' B a b sc r n' ∧ n' ≤ n + 100 ∧ Mods (· = a) w w'
theorem rc_end {w wX : World} {B a g : Nat} {b : List UInt8} {sc : List Int} {r n n' : Nat} {x : Rec.Got} {t k e : Int} {l : List Int} {v : Value} (hx : x = ((t, l), k, e)) (hg : g = w.heap.size) (hsi : SI wX B a b sc r n') (ha : a < w.heap.size) (hn : n' ≤ n + 100) (hmd : Mods (· = a) w wX) (hown : Own wX (g + 1) 3 v (i64s l)) :
    HandsRc w B a b sc r n x (.returned (.tuple #[.agg #[.int .u64 t, v], .int .i64 k, .int .i64 e])) ((wX.setCell ⟨g, 0, none⟩ (.int .u64 t)).setCell ⟨g, 1, none⟩ v) := by
  subst hx
  have hms : Mods (· = g) wX ((wX.setCell ⟨g, 0, none⟩ (.int .u64 t)).setCell ⟨g, 1, none⟩ v) := Mods.setCell (S := (· = g)) (Mods.setCell (S := (· = g)) (Mods.refl _ wX) (p := ⟨g, 0, none⟩) rfl _) (p := ⟨g, 1, none⟩) rfl _
  refine ⟨v, n', rfl, Own.mono (Own.modsR hown hms (fun q hq e => by have := (World.ownsRow.lt hown q hq).1; omega)) (by omega), hsi.mods hms (fun q hq => by omega), hn, ?_⟩
  exact ⟨hms.os.trans hmd.os, hms.tape.trans hmd.tape, hms.output.trans hmd.output, Nat.le_trans hmd.size hms.size, fun k hk hs => (hms.block k (Nat.lt_of_lt_of_le hk hmd.size) (fun q => by omega)).trans (hmd.block k hk hs)⟩
theorem rec_low {b : List UInt8} {r : Nat} {at_ p : Int} (h : at_ < 0) : recP b r at_ p = none_ 1 := by unfold recP; rw [if_pos h]
theorem rec_high {b : List UInt8} {r : Nat} {at_ p : Int} (h0 : ¬ at_ < 0) (h : (b.length : Int) ≤ at_) : recP b r at_ p = none_ 13 := by unfold recP; rw [if_neg h0, if_pos h]
theorem drop_min {b : List UInt8} {r q : Nat} (hr : r ≤ b.length) : (b.take r).drop (min q r) = (b.take r).drop q := by
  by_cases h : q ≤ r
  · rw [Nat.min_eq_left h]
  · rw [Nat.min_eq_right (by omega), List.drop_eq_nil_of_le (by rw [List.length_take]; omega), List.drop_eq_nil_of_le (by rw [List.length_take]; omega)]
theorem rec_fin {b : List UInt8} {r q : Nat} {p W : Int} {x : Int × List Int} {k e : Int} (hr : r ≤ b.length) (hq : q < b.length) (hg : get ((b.take r).drop q) p = (x, k, e)) (hW : e = 13 ∨ e = 7 → (W = 10 ↔ r < b.length)) :
    recP b r (q : Int) p = if e = 0 then (x, (q : Int) + k, 0) else if W = 10 ∧ (e = 13 ∨ e = 7) then none_ 10 else none_ e := by
  unfold recP
  rw [if_neg (by omega), if_neg (by omega), Int.toNat_natCast, drop_min hr, hg]
  dsimp only
  by_cases h0 : e = 0
  · rw [if_neg (by omega), if_neg (by omega), if_pos h0]
  · rw [if_neg h0]
    by_cases h1 : e = 13 ∨ e = 7
    · have := hW h1
      by_cases h2 : r < b.length
      · rw [if_pos ⟨h2, h1⟩, if_pos ⟨this.2 h2, h1⟩]
      · rw [if_neg (fun h => h2 h.1), if_pos h0, if_neg (fun h => h2 (this.1 h.1))]
    · rw [if_neg (fun h => h1 h.2), if_pos h0, if_neg (fun h => h1 h.2)]
theorem get_7 {d : List UInt8} {p : Int} {x : Int × List Int} {k : Int} (h : get d p = (x, k, 7)) (h2 : 2 ≤ d.length) : size d ≤ 72 ∧ d.length < size d + 6 := by
  have hb := Rec.pr_bd p
  have := congrArg (fun x : Rec.Got => x.2.2) h
  unfold Rec.get at this
  rw [if_neg (by omega), if_neg (by omega)] at this
  split at this
  · exact absurd this (show ¬ ((2 : Int) = 7) by decide)
  · rename_i h3
    split at this
    · exact ⟨by omega, by assumption⟩
    · split at this
      · exact absurd this (show ¬ ((6 : Int) = 7) by decide)
      · split at this
        · exact absurd this (show ¬ ((0 : Int) = 7) by decide)
        · exact absurd this (show ¬ ((9 : Int) = 7) by decide)
set_option maxRecDepth 20000 in
set_option maxHeartbeats 3200000 in
theorem record_c (B a : Nat) (b : List UInt8) (sc : List Int) (r n : Nat) (at_ p : Int) (w : World) (h : SI w B a b sc r n) (ok : Ok b sc r) (hn : n ≤ 10000000000000) (hat1 : -9223372036854775808 ≤ at_) (hat2 : at_ ≤ 9223372036854775807) (hp1 : -9223372036854775808 ≤ p) (hp2 : p ≤ 9223372036854775807) :
    Calls Try.prog 23 #[.pointer (some ⟨a, 0, none⟩), .int .i64 at_, .int .i64 p] w (HandsRc w B a b sc r n (recP b r at_ p)) := by
  have hrl := ok.le
  have hbl := ok.len
  have hal := h.lt
  generalize hX0 : recP b r at_ p = X
  have HX0 := hid hX0
  clear hX0
  go_enter Try.func23, Try.ntmps23
  go_upto_region 1 with fail
  have y2 := heap_new w (.cells #[.int .u64 0, .slice none 0 0] 38)
  have hn0 := (Nw.refl w).alloc (.cells #[.int .u64 0, .slice none 0 0] 38)
  have hsi := h.nw hn0
  clear h
  have hgw0 := lt_alloc w (.cells #[.int .u64 0, .slice none 0 0] 38)
  generalize w.alloc (.cells #[.int .u64 0, .slice none 0 0] 38) = w0 at *
  have hmd := hn0.mods (· = a)
  by_cases hlow : at_ < 0
  · have hd1 : decide (at_ < 0) = true := decide_eq_true hlow
    have HF := hid (HX0.out.symm.trans (rec_low (b := b) (r := r) (p := p) hlow))
    have z0 := heap_cell y2 0
    have z1 := heap_cell y2 1
    simp only [List.getElem?_toArray, List.getElem?_cons_succ, List.getElem?_cons_zero] at z0 z1
    have f0 := heap_frozen y2 0
    have f1 := heap_frozen y2 1
    go_wp2
    ((try simp only [Exit.inBlock, Exit.then]); refine bodyPost_ret (results_cell3 rfl _ _ _ _ _ _ _ rfl (heap_set (heap_set y2 0 (.int .u64 0)) 1 (.slice none 0 0)) Try.underlying38 rfl (by kernel_rfl)) rfl ?_)
    exact rc_end HF.out rfl hsi hal (by omega) hmd (Own.nil _ _ _)
  · have hd1 : decide (at_ < 0) = false := decide_eq_false hlow
    obtain ⟨q, rfl⟩ := Int.eq_ofNat_of_zero_le (by omega : 0 ≤ at_)
    have HLE := hid (Src.len_c _ a b sc r n w0 hsi)
    by_cases hhi : b.length ≤ q
    · have hd2 : decide ((b.length : Int) ≤ (q : Int)) = true := decide_eq_true (by omega)
      have HF := hid (HX0.out.symm.trans (rec_high (b := b) (r := r) (at_ := (q : Int)) (p := p) (by omega) (by omega)))
      have z0 := heap_cell y2 0
      have z1 := heap_cell y2 1
      simp only [List.getElem?_toArray, List.getElem?_cons_succ, List.getElem?_cons_zero] at z0 z1
      have f0 := heap_frozen y2 0
      have f1 := heap_frozen y2 1
      go_wp2_with (first
        | (go_at_call 58; refine HLE.out.mono ?_; rintro e' w' ⟨rfl, rfl⟩)
        | fail)
      ((try simp only [Exit.inBlock, Exit.then]); refine bodyPost_ret (results_cell3 rfl _ _ _ _ _ _ _ rfl (heap_set (heap_set y2 0 (.int .u64 0)) 1 (.slice none 0 0)) Try.underlying38 rfl (by kernel_rfl)) rfl ?_)
      exact rc_end HF.out rfl hsi hal (by omega) hmd (Own.nil _ _ _)
    · have hd2 : decide ((b.length : Int) ≤ (q : Int)) = false := decide_eq_false (by omega)
      have hqb : q < b.length := by omega
      obtain ⟨d, hd⟩ : ∃ d, d = (b.take r).drop q := ⟨_, rfl⟩
      have hdl : d.length = r - q := by rw [hd, List.length_drop, List.length_take]; omega
      obtain ⟨tt, ll, nn, ee, hG⟩ : ∃ tt ll nn ee, get d p = ((tt, ll), nn, ee) := ⟨_, _, _, _, rfl⟩
      have HFIN := hid (fun W hW => rec_fin (p := p) (W := W) (x := (tt, ll)) (k := nn) (e := ee) hrl hqb (by rw [← hd]; exact hG) hW)
      have HR := hid (fun (q' : Nat) (mo : Int) k w' (hs : SI w' B a b sc r k) (hk : k ≤ 100000000000000) (h1 : q' ≤ 1000000000) (h2 : -1000000000 ≤ mo) (h3 : mo ≤ 1000000000) => sread_c B a b sc r k q' mo w' hs ok hk h1 h2 h3)
      rw [HX0.out] at HFIN
      by_cases h2 : q + 2 ≤ r
      · have hrd : rd b r q 2 = (d.take 2, 0) := by rw [hd]; exact rd_full 2 rfl h2
        obtain ⟨L, hL⟩ : ∃ L, L = size d := ⟨_, rfl⟩
        obtain ⟨K, hK⟩ : ∃ K, K = min L 72 := ⟨_, rfl⟩
        obtain ⟨W, hW⟩ : ∃ W, W = (rd b r (q + 2) ((K + 4 : Nat) : Int)).2 := ⟨_, rfl⟩
        have hrd2 : rd b r (q + 2) ((K + 4 : Nat) : Int) = ((d.drop 2).take (K + 4), W) := by
          rw [hW, hd, List.drop_drop]
          rfl
        have hW2 : ee = 13 ∨ ee = 7 → (W = 10 ↔ r < b.length) := by
          rintro (he | he)
          · rw [he] at hG
            have := Lg.get_end hG
            rw [this] at hdl
            simp at hdl
            omega
          · rw [he] at hG
            obtain ⟨h7, h8⟩ := get_7 hG (by omega)
            rw [hW]
            unfold rd
            rw [if_neg (by omega)]
            by_cases z : r < b.length
            · rw [if_pos ⟨z, by omega⟩]; simp [z]
            · rw [if_neg (fun h => z h.1)]; simp [z]
        have HX := hid (HFIN.out W hW2)
        have hgt : get (d.take (K + 6)) p = ((tt, ll), nn, ee) := by rw [hK, hL, get_take (by omega), hG]
        have hj : d.take 2 ++ (d.drop 2).take (K + 4) = d.take (K + 6) := by rw [← List.take_add, show 2 + (K + 4) = K + 6 by omega]
        have HJ := hid hj
        have HGT := hid (fun w' va (hva : Bytes w' va (d.take (K + 6))) => show Calls Try.prog 60 #[va, .int .i64 p] w' (HandsGO w' ((tt, ll), nn, ee)) by rw [← hgt]; exact Rec.get_o va (d.take (K + 6)) p w' hva (by rw [List.length_take]; omega) hp1 hp2)
        have HND := hid (show ee = 0 → ∃ m : Nat, nn = (m : Int) ∧ m ≤ 1000000000 from fun h => by subst h; obtain ⟨m, e1, e2, _⟩ := Rec.get_canon d p _ _ hG; exact ⟨m, e1, by omega⟩)
        have HR2 := hid (HR.out q 2 n w0 hsi (by omega) (by omega) (by omega) (by omega))
        rw [hrd] at HR2
        have hLs : (L : Int) = 256 * (sz d 0 : Int) + sz d 1 := by rw [hL]; unfold Rec.size Lg.sz; omega
        have hor := or_size (sz d 0) (sz d 1) (sz_lt d 0) (sz_lt d 1)
        rw [← hLs] at hor
        have HOR := hid hor
        clear hor
        have hx0 := sz_lt d 0
        have hx1 := sz_lt d 1
        have hs0 : sz (d.take 2) 0 = sz d 0 := by
          unfold Lg.sz
          simp only [List.getD_eq_getElem?_getD]
          rw [List.getElem?_take_of_lt (by omega)]
        have hs1 : sz (d.take 2) 1 = sz d 1 := by
          unfold Lg.sz
          simp only [List.getD_eq_getElem?_getD]
          rw [List.getElem?_take_of_lt (by omega)]
        have HS0 := hid hs0
        have HS1 := hid hs1
        have hd2l : (d.take 2).length = 2 := by rw [List.length_take]; omega
        have HD2 := hid hd2l
        have hLb : L ≤ 65535 := by omega
        obtain ⟨M6, hM6⟩ : ∃ M6, (d.take (K + 6)).length = M6 := ⟨_, rfl⟩
        have HM6 := hid hM6
        have hyl : ((d.drop 2).take (K + 4)).length ≤ 76 := by rw [List.length_take]; omega
        obtain ⟨M4, hM4⟩ : ∃ M4, ((d.drop 2).take (K + 4)).length = M4 := ⟨_, rfl⟩
        rw [hM4] at hyl
        have HM4 := hid hM4
        clear hM4
        clear hrd HFIN hd hG hW hgt hW2 hs0 hs1 hd2l hLs hj hL hM6
        have HDL := hid hdl
        clear hdl
        generalize sz d 0 = x0 at *
        generalize sz d 1 = x1 at *
        have z0 := heap_cell y2 0
        have z1 := heap_cell y2 1
        simp only [List.getElem?_toArray, List.getElem?_cons_succ, List.getElem?_cons_zero] at z0 z1
        have f0 := heap_frozen y2 0
        have f1 := heap_frozen y2 1
        go_upto_region 6 with (first
          | (go_at_call 58; refine HLE.out.mono ?_; rintro e' w' ⟨rfl, rfl⟩)
          | (go_at_call 59; refine HR2.out.mono ?_; rintro e' w1 ⟨v1, n1, rfl, hown1, hsi1, hn1, hm1⟩; have hown1' := hown1; obtain ⟨g1, c1, rfl, hg1, hc1, hx1', hcs1⟩ := own_at2 hown1'  (n := 2) ((u8s_length _).trans HD2.out) (by omega))
          | fail)
        replace y2 := hm1.heap y2 (by omega)
        have hmd1 := hmd.trans hm1
        have q0 := bcell hcs1 0 (by rw [HD2.out]; decide)
        have q1 := bcell hcs1 1 (by rw [HD2.out]; decide)
        rw [HS0.out, Nat.zero_add] at q0
        rw [HS1.out, Nat.zero_add] at q1
        have gq := World.block_lt_of_cell? w1 _ q0
        simp only at gq
        have hnb1 : n1 ≤ n + 2 := by simpa using hn1
        have HR3 := hid (fun w' (h : Nw w1 w') => HR.out (q + 2) ((K + 4 : Nat) : Int) n1 w' (hsi1.nw h) (by omega) (by omega) (by omega) (by omega))
        rw [hrd2] at HR3
        clear z0 z1 f0 f1 hsi HR2 HLE HR hrd2
        go_upto_region 8 with fail
        by_cases h72 : (72 : Int) < (L : Int)
        · skip
          have u1 : IntKind.i64.wrap (x0 : Int) = x0 := by rw [IntKind.wrap_i64]; omega
          have u2 : IntKind.i64.wrap ((x0 : Int) * 256) = (x0 : Int) * 256 := by rw [IntKind.wrap_i64]; omega
          have u3 : IntKind.i64.wrap (x1 : Int) = x1 := by rw [IntKind.wrap_i64]; omega
          have u4 : IntKind.i64.wrap ((q : Int) + 2) = (q : Int) + 2 := by rw [IntKind.wrap_i64]; omega
          have u5 : IntKind.i64.wrap ((L : Int) + 4) = (L : Int) + 4 := by rw [IntKind.wrap_i64]; omega
          have u6 : IntKind.i64.wrap 76 = 76 := by rw [IntKind.wrap_i64]; omega
          have HR4 := hid (fun w' (h : Nw w1 w') => show Calls Try.prog 59 #[.pointer (some ⟨a, 0, none⟩), .int .i64 ((q : Int) + 2), .int .i64 76] w' (HandsRd w' B a b sc r n1 76 ((d.drop 2).take (K + 4), W)) by
            have := HR3.out w' h
            rw [show ((K + 4 : Nat) : Int) = 76 by omega] at this
            exact this)
          clear HR3
          have hor := HOR.out
          go_region_with ((go_at_call 59; refine (HR4.out _ (by repeat (first | assumption | exact Nw.refl _ | refine Nw.alloc ?_ _ | refine Nw.drew ?_ | refine Nw.drewN2 ?_ _ | (refine Nw.trans ?_ (by assumption))))).mono ?_; rintro e' w2 ⟨v2, n2, rfl, hown2, hsi2, hn2, hm2⟩; replace hown2 := Own.mono hown2 (Nw.size (show Nw w1 _ from (by repeat (first | assumption | exact Nw.refl _ | refine Nw.alloc ?_ _ | refine Nw.drew ?_ | refine Nw.drewN2 ?_ _ | (refine Nw.trans ?_ (by assumption)))))); obtain ⟨p2, c2, rfl, _⟩ := hown2.sl.open (n := M4) ((u8s_length _).trans HM4.out); have hm2 : Mods (· = a) w1 w2 := Mods.trans ((show Nw w1 _ from (by repeat (first | assumption | exact Nw.refl _ | refine Nw.alloc ?_ _ | refine Nw.drew ?_ | refine Nw.drewN2 ?_ _ | (refine Nw.trans ?_ (by assumption))))).mods _) hm2))
          all_goals
            clear hor u1 u2 u3 u4 u5 u6
            have hsw := hn0.size
            have hs01 := hm1.size
            have hs12 := hm2.size
            have hB1 : Own w2 w0.heap.size 5 (.slice (some ⟨g1, 0, none⟩) 2 c1) (u8s (d.take 2)) := Own.modsR hown1 hm2 (fun k hk e => by have hk2 : g1 = k := Option.some.inj hk; omega)
            have hgl0 := lt_of_heap y2
            go_upto_region 10 with (first
              | (at_builtin; refine app1g rfl _ _ _ rfl _ _ _ Try.underlying22 info_u8 rfl (by decide) (B := w0.heap.size) (Nat.le_trans hs01 hs12) hB1 rfl hown2.sl rfl (u8s_one _) ?_ ?_; rotate_left; (rw [u8s_length, u8s_length, HD2.out, HM4.out]; omega); intro v3 w3 hown3 hg3 ha3; rw [u8s_append, HJ.out] at hown3; obtain ⟨p3, c3, rfl, _⟩ := hown3.sl.open (n := M6) ((u8s_length _).trans HM6.out))
              | fail)
            have hby : Bytes w3 (.slice p3 M6 c3) (d.take (K + 6)) := hown3.sl
            have hmg : Mods (fun k => k = g1) w2 w3 := ⟨hg3.os, hg3.tape, hg3.output, hg3.size, fun k hk hs => hg3.block k hk (fun e => hs (by cases e; rfl))⟩
            have hsi1 : SI w3 B a b sc r n2 := hsi2.mods hmg (fun k hk => by omega)
            replace y2 := hmg.heap (hm2.heap y2 (by omega)) (by omega)
            replace hmd := (hmd1.trans hm2).absorb hmg (fun k hk => Or.inr (by omega))
            have hnb : n2 ≤ n + 100 := by omega
            clear hown1 hown2 hown3 hB1 hg3 ha3 hmg hsi2 hm2 hcs1 q0 q1 gq hm1 hmd1 HR4
            -- w3: the world; M6 p3 c3: the bytes' slice; n2: reads; hby, HGT, HX, hsi1, hmd, y2, hnb, hnnd; the error that ended the reading is W
            go_upto_region 11 with (first
              | (go_at_call 60; refine (HGT.out _ _ hby).mono ?_; rintro e' w8 ⟨v8, rfl, hown8, hn8⟩; obtain ⟨p8, c8, rfl⟩ := ints_shape hown8; dsimp only at hown8 ⊢)
              | fail)
            have hn4 := hn8.alloc (.cells #[.int .u64 tt, .slice p8 ll.length c8] 38)
            obtain ⟨x0, x1⟩ := box2 w8 (.int .u64 tt) (.slice p8 ll.length c8) 38
            have hown4 := hown8.nw ((Nw.refl w8).alloc (.cells #[.int .u64 tt, .slice p8 ll.length c8] 38))
            have hsz8 := hn8.size
            have hsz1 := hmd.size
            have hg0 := lt_of_heap y2
            replace y2 := hn4.heap y2
            replace hsi1 := hsi1.nw hn4
            replace hmd := hmd.nw hn4
            have hown5 := Own.mono hown4 (show w.heap.size + 1 ≤ (World.heap w3).size by omega)
            clear hn4 hn8 hown8 hown4 hby
            generalize w8.alloc (.cells #[.int .u64 tt, .slice p8 ll.length c8] 38) = w4 at *
            generalize w8.heap.size = g12 at *
            have z0 := heap_cell y2 0
            have z1 := heap_cell y2 1
            simp only [List.getElem?_toArray, List.getElem?_cons_succ, List.getElem?_cons_zero] at z0 z1
            have f0 := heap_frozen y2 0
            have f1 := heap_frozen y2 1
            by_cases hee : ee = 0
            · subst hee
              obtain ⟨m, rfl, hmd2⟩ := HND.out rfl
              have HF := hid (HX.out.trans (if_pos rfl))
              clear HND HX
              go_wp2
              ((try simp only [Exit.inBlock, Exit.then]); refine bodyPost_ret (results_cell3 rfl _ _ _ _ _ _ _ rfl (heap_set (heap_set y2 0 (.int .u64 tt)) 1 (.slice p8 ll.length c8)) Try.underlying38 rfl (by kernel_rfl)) rfl ?_)
              exact rc_end HF.out rfl hsi1 hal hnb hmd hown5
            · have hd0 : (ee == 0) = false := beq_eq_false_iff_ne.2 hee
              have HX2 := hid (HX.out.trans (if_neg hee))
              clear HND HX hee
              by_cases hw : W = 10
              · have hdw : (W == 10) = true := by rw [hw]; rfl
                by_cases h13 : ee = 13
                · have hd3 : (ee == 13) = true := by rw [h13]; rfl
                  have HF := hid (HX2.out.trans (if_pos ⟨hw, Or.inl h13⟩))
                  clear hw h13
                  go_wp2
                  ((try simp only [Exit.inBlock, Exit.then]); refine bodyPost_ret (results_cell3 rfl _ _ _ _ _ _ _ rfl (heap_set (heap_set y2 0 (.int .u64 0)) 1 (.slice none 0 0)) Try.underlying38 rfl (by kernel_rfl)) rfl ?_)
                  exact rc_end HF.out rfl hsi1 hal hnb hmd (Own.nil _ _ _)
                · have hd3 : (ee == 13) = false := beq_eq_false_iff_ne.2 h13
                  by_cases h7 : ee = 7
                  · have hd4 : (ee == 7) = true := by rw [h7]; rfl
                    have HF := hid (HX2.out.trans (if_pos ⟨hw, Or.inr h7⟩))
                    clear hw h13 h7
                    go_wp2
                    ((try simp only [Exit.inBlock, Exit.then]); refine bodyPost_ret (results_cell3 rfl _ _ _ _ _ _ _ rfl (heap_set (heap_set y2 0 (.int .u64 0)) 1 (.slice none 0 0)) Try.underlying38 rfl (by kernel_rfl)) rfl ?_)
                    exact rc_end HF.out rfl hsi1 hal hnb hmd (Own.nil _ _ _)
                  · have hd4 : (ee == 7) = false := beq_eq_false_iff_ne.2 h7
                    have HF := hid (HX2.out.trans (if_neg (by rintro ⟨_, z | z⟩; exact h13 z; exact h7 z)))
                    clear hw h13 h7
                    go_wp2
                    ((try simp only [Exit.inBlock, Exit.then]); refine bodyPost_ret (results_cell3 rfl _ _ _ _ _ _ _ rfl (heap_set (heap_set y2 0 (.int .u64 0)) 1 (.slice none 0 0)) Try.underlying38 rfl (by kernel_rfl)) rfl ?_)
                    exact rc_end HF.out rfl hsi1 hal hnb hmd (Own.nil _ _ _)
              · have hdw : (W == 10) = false := beq_eq_false_iff_ne.2 hw
                have HF := hid (HX2.out.trans (if_neg (fun z => hw z.1)))
                clear hw
                go_wp2
                ((try simp only [Exit.inBlock, Exit.then]); refine bodyPost_ret (results_cell3 rfl _ _ _ _ _ _ _ rfl (heap_set (heap_set y2 0 (.int .u64 0)) 1 (.slice none 0 0)) Try.underlying38 rfl (by kernel_rfl)) rfl ?_)
                exact rc_end HF.out rfl hsi1 hal hnb hmd (Own.nil _ _ _)
        · skip
          have u1 : IntKind.i64.wrap (x0 : Int) = x0 := by rw [IntKind.wrap_i64]; omega
          have u2 : IntKind.i64.wrap ((x0 : Int) * 256) = (x0 : Int) * 256 := by rw [IntKind.wrap_i64]; omega
          have u3 : IntKind.i64.wrap (x1 : Int) = x1 := by rw [IntKind.wrap_i64]; omega
          have u4 : IntKind.i64.wrap ((q : Int) + 2) = (q : Int) + 2 := by rw [IntKind.wrap_i64]; omega
          have u5 : IntKind.i64.wrap ((L : Int) + 4) = (L : Int) + 4 := by rw [IntKind.wrap_i64]; omega
          have u6 : IntKind.i64.wrap 76 = 76 := by rw [IntKind.wrap_i64]; omega
          have HR4 := hid (fun w' (h : Nw w1 w') => show Calls Try.prog 59 #[.pointer (some ⟨a, 0, none⟩), .int .i64 ((q : Int) + 2), .int .i64 ((L : Int) + 4)] w' (HandsRd w' B a b sc r n1 ((L : Int) + 4) ((d.drop 2).take (K + 4), W)) by
            have := HR3.out w' h
            rw [show ((K + 4 : Nat) : Int) = ((L : Int) + 4) by omega] at this
            exact this)
          clear HR3
          have hor := HOR.out
          go_region_with ((go_at_call 59; refine (HR4.out _ (by repeat (first | assumption | exact Nw.refl _ | refine Nw.alloc ?_ _ | refine Nw.drew ?_ | refine Nw.drewN2 ?_ _ | (refine Nw.trans ?_ (by assumption))))).mono ?_; rintro e' w2 ⟨v2, n2, rfl, hown2, hsi2, hn2, hm2⟩; replace hown2 := Own.mono hown2 (Nw.size (show Nw w1 _ from (by repeat (first | assumption | exact Nw.refl _ | refine Nw.alloc ?_ _ | refine Nw.drew ?_ | refine Nw.drewN2 ?_ _ | (refine Nw.trans ?_ (by assumption)))))); obtain ⟨p2, c2, rfl, _⟩ := hown2.sl.open (n := M4) ((u8s_length _).trans HM4.out); have hm2 : Mods (· = a) w1 w2 := Mods.trans ((show Nw w1 _ from (by repeat (first | assumption | exact Nw.refl _ | refine Nw.alloc ?_ _ | refine Nw.drew ?_ | refine Nw.drewN2 ?_ _ | (refine Nw.trans ?_ (by assumption))))).mods _) hm2))
          all_goals
            clear hor u1 u2 u3 u4 u5 u6
            have hsw := hn0.size
            have hs01 := hm1.size
            have hs12 := hm2.size
            have hB1 : Own w2 w0.heap.size 5 (.slice (some ⟨g1, 0, none⟩) 2 c1) (u8s (d.take 2)) := Own.modsR hown1 hm2 (fun k hk e => by have hk2 : g1 = k := Option.some.inj hk; omega)
            have hgl0 := lt_of_heap y2
            go_upto_region 10 with (first
              | (at_builtin; refine app1g rfl _ _ _ rfl _ _ _ Try.underlying22 info_u8 rfl (by decide) (B := w0.heap.size) (Nat.le_trans hs01 hs12) hB1 rfl hown2.sl rfl (u8s_one _) ?_ ?_; rotate_left; (rw [u8s_length, u8s_length, HD2.out, HM4.out]; omega); intro v3 w3 hown3 hg3 ha3; rw [u8s_append, HJ.out] at hown3; obtain ⟨p3, c3, rfl, _⟩ := hown3.sl.open (n := M6) ((u8s_length _).trans HM6.out))
              | fail)
            have hby : Bytes w3 (.slice p3 M6 c3) (d.take (K + 6)) := hown3.sl
            have hmg : Mods (fun k => k = g1) w2 w3 := ⟨hg3.os, hg3.tape, hg3.output, hg3.size, fun k hk hs => hg3.block k hk (fun e => hs (by cases e; rfl))⟩
            have hsi1 : SI w3 B a b sc r n2 := hsi2.mods hmg (fun k hk => by omega)
            replace y2 := hmg.heap (hm2.heap y2 (by omega)) (by omega)
            replace hmd := (hmd1.trans hm2).absorb hmg (fun k hk => Or.inr (by omega))
            have hnb : n2 ≤ n + 100 := by omega
            clear hown1 hown2 hown3 hB1 hg3 ha3 hmg hsi2 hm2 hcs1 q0 q1 gq hm1 hmd1 HR4
            -- w3: the world; M6 p3 c3: the bytes' slice; n2: reads; hby, HGT, HX, hsi1, hmd, y2, hnb, hnnd; the error that ended the reading is W
            go_upto_region 11 with (first
              | (go_at_call 60; refine (HGT.out _ _ hby).mono ?_; rintro e' w8 ⟨v8, rfl, hown8, hn8⟩; obtain ⟨p8, c8, rfl⟩ := ints_shape hown8; dsimp only at hown8 ⊢)
              | fail)
            have hn4 := hn8.alloc (.cells #[.int .u64 tt, .slice p8 ll.length c8] 38)
            obtain ⟨x0, x1⟩ := box2 w8 (.int .u64 tt) (.slice p8 ll.length c8) 38
            have hown4 := hown8.nw ((Nw.refl w8).alloc (.cells #[.int .u64 tt, .slice p8 ll.length c8] 38))
            have hsz8 := hn8.size
            have hsz1 := hmd.size
            have hg0 := lt_of_heap y2
            replace y2 := hn4.heap y2
            replace hsi1 := hsi1.nw hn4
            replace hmd := hmd.nw hn4
            have hown5 := Own.mono hown4 (show w.heap.size + 1 ≤ (World.heap w3).size by omega)
            clear hn4 hn8 hown8 hown4 hby
            generalize w8.alloc (.cells #[.int .u64 tt, .slice p8 ll.length c8] 38) = w4 at *
            generalize w8.heap.size = g12 at *
            have z0 := heap_cell y2 0
            have z1 := heap_cell y2 1
            simp only [List.getElem?_toArray, List.getElem?_cons_succ, List.getElem?_cons_zero] at z0 z1
            have f0 := heap_frozen y2 0
            have f1 := heap_frozen y2 1
            by_cases hee : ee = 0
            · subst hee
              obtain ⟨m, rfl, hmd2⟩ := HND.out rfl
              have HF := hid (HX.out.trans (if_pos rfl))
              clear HND HX
              go_wp2
              ((try simp only [Exit.inBlock, Exit.then]); refine bodyPost_ret (results_cell3 rfl _ _ _ _ _ _ _ rfl (heap_set (heap_set y2 0 (.int .u64 tt)) 1 (.slice p8 ll.length c8)) Try.underlying38 rfl (by kernel_rfl)) rfl ?_)
              exact rc_end HF.out rfl hsi1 hal hnb hmd hown5
            · have hd0 : (ee == 0) = false := beq_eq_false_iff_ne.2 hee
              have HX2 := hid (HX.out.trans (if_neg hee))
              clear HND HX hee
              by_cases hw : W = 10
              · have hdw : (W == 10) = true := by rw [hw]; rfl
                by_cases h13 : ee = 13
                · have hd3 : (ee == 13) = true := by rw [h13]; rfl
                  have HF := hid (HX2.out.trans (if_pos ⟨hw, Or.inl h13⟩))
                  clear hw h13
                  go_wp2
                  ((try simp only [Exit.inBlock, Exit.then]); refine bodyPost_ret (results_cell3 rfl _ _ _ _ _ _ _ rfl (heap_set (heap_set y2 0 (.int .u64 0)) 1 (.slice none 0 0)) Try.underlying38 rfl (by kernel_rfl)) rfl ?_)
                  exact rc_end HF.out rfl hsi1 hal hnb hmd (Own.nil _ _ _)
                · have hd3 : (ee == 13) = false := beq_eq_false_iff_ne.2 h13
                  by_cases h7 : ee = 7
                  · have hd4 : (ee == 7) = true := by rw [h7]; rfl
                    have HF := hid (HX2.out.trans (if_pos ⟨hw, Or.inr h7⟩))
                    clear hw h13 h7
                    go_wp2
                    ((try simp only [Exit.inBlock, Exit.then]); refine bodyPost_ret (results_cell3 rfl _ _ _ _ _ _ _ rfl (heap_set (heap_set y2 0 (.int .u64 0)) 1 (.slice none 0 0)) Try.underlying38 rfl (by kernel_rfl)) rfl ?_)
                    exact rc_end HF.out rfl hsi1 hal hnb hmd (Own.nil _ _ _)
                  · have hd4 : (ee == 7) = false := beq_eq_false_iff_ne.2 h7
                    have HF := hid (HX2.out.trans (if_neg (by rintro ⟨_, z | z⟩; exact h13 z; exact h7 z)))
                    clear hw h13 h7
                    go_wp2
                    ((try simp only [Exit.inBlock, Exit.then]); refine bodyPost_ret (results_cell3 rfl _ _ _ _ _ _ _ rfl (heap_set (heap_set y2 0 (.int .u64 0)) 1 (.slice none 0 0)) Try.underlying38 rfl (by kernel_rfl)) rfl ?_)
                    exact rc_end HF.out rfl hsi1 hal hnb hmd (Own.nil _ _ _)
              · have hdw : (W == 10) = false := beq_eq_false_iff_ne.2 hw
                have HF := hid (HX2.out.trans (if_neg (fun z => hw z.1)))
                clear hw
                go_wp2
                ((try simp only [Exit.inBlock, Exit.then]); refine bodyPost_ret (results_cell3 rfl _ _ _ _ _ _ _ rfl (heap_set (heap_set y2 0 (.int .u64 0)) 1 (.slice none 0 0)) Try.underlying38 rfl (by kernel_rfl)) rfl ?_)
                exact rc_end HF.out rfl hsi1 hal hnb hmd (Own.nil _ _ _)
      · have hrd : rd b r q 2 = (d, if r < b.length then (10 : Int) else 13) := by
          have e2 : d.take (2 : Int).toNat = d := List.take_of_length_le (show d.length ≤ 2 by omega)
          unfold rd
          rw [if_neg (by omega), ← hd, e2]
          congr 1
          by_cases z : r < b.length
          · rw [if_pos ⟨z, hqb⟩, if_pos z]
          · rw [if_neg (fun h => z h.1), if_neg z]
        obtain ⟨W, hW⟩ : ∃ W, W = if r < b.length then (10 : Int) else 13 := ⟨_, rfl⟩
        rw [← hW] at hrd
        have HX := hid (HFIN.out W (fun _ => by rw [hW]; split <;> simp_all))
        have hW0 : (W == 0) = false := by rw [hW]; split <;> rfl
        have HR2 := hid (HR.out q 2 n w0 hsi (by omega) (by omega) (by omega) (by omega))
        rw [hrd] at HR2
        have HGT := hid (fun w' va (hva : Bytes w' va d) => show Calls Try.prog 60 #[va, .int .i64 p] w' (HandsGO w' ((tt, ll), nn, ee)) by rw [← hG]; exact Rec.get_o va d p w' hva (by omega) hp1 hp2)
        have HND := hid (show ee = 0 → ∃ m : Nat, nn = (m : Int) ∧ m ≤ 1000000000 from fun h => by subst h; obtain ⟨m, e1, e2, _⟩ := Rec.get_canon d p _ _ hG; exact ⟨m, e1, by omega⟩)
        obtain ⟨M, hM⟩ : ∃ M, d.length = M := ⟨_, rfl⟩
        have HM := hid hM
        have hM2 : M ≤ 1 := by omega
        clear hrd HFIN hd hG hW HR hdl hM
        have z0 := heap_cell y2 0
        have z1 := heap_cell y2 1
        simp only [List.getElem?_toArray, List.getElem?_cons_succ, List.getElem?_cons_zero] at z0 z1
        have f0 := heap_frozen y2 0
        have f1 := heap_frozen y2 1
        go_upto_region 6 with (first
          | (go_at_call 58; refine HLE.out.mono ?_; rintro e' w' ⟨rfl, rfl⟩)
          | (go_at_call 59; refine HR2.out.mono ?_; rintro e' w1 ⟨v1, n1, rfl, hown1, hsi1, hn1, hm1⟩; obtain ⟨p1, c1, rfl, _⟩ := hown1.sl.open (n := M) ((u8s_length _).trans HM.out))
          | fail)
        replace y2 := hm1.heap y2 (by omega)
        replace hmd := hmd.trans hm1
        have hby : Bytes w1 (.slice p1 M c1) d := hown1.sl
        have hnb : n1 ≤ n + 100 := by simp at hn1; omega
        clear z0 z1 f0 f1 hown1 hsi hm1 HR2 HLE
        -- w1: the world; M p1 c1: the bytes' slice; n1: reads; hby, HGT, HX, hsi1, hmd, y2, hnb, hnnd; the error that ended the reading is W
        go_upto_region 11 with (first
          | (go_at_call 60; refine (HGT.out _ _ hby).mono ?_; rintro e' w8 ⟨v8, rfl, hown8, hn8⟩; obtain ⟨p8, c8, rfl⟩ := ints_shape hown8; dsimp only at hown8 ⊢)
          | fail)
        have hn4 := hn8.alloc (.cells #[.int .u64 tt, .slice p8 ll.length c8] 38)
        obtain ⟨x0, x1⟩ := box2 w8 (.int .u64 tt) (.slice p8 ll.length c8) 38
        have hown4 := hown8.nw ((Nw.refl w8).alloc (.cells #[.int .u64 tt, .slice p8 ll.length c8] 38))
        have hsz8 := hn8.size
        have hsz1 := hmd.size
        have hg0 := lt_of_heap y2
        replace y2 := hn4.heap y2
        replace hsi1 := hsi1.nw hn4
        replace hmd := hmd.nw hn4
        have hown5 := Own.mono hown4 (show w.heap.size + 1 ≤ (World.heap w1).size by omega)
        clear hn4 hn8 hown8 hown4 hby
        generalize w8.alloc (.cells #[.int .u64 tt, .slice p8 ll.length c8] 38) = w4 at *
        generalize w8.heap.size = g12 at *
        have z0 := heap_cell y2 0
        have z1 := heap_cell y2 1
        simp only [List.getElem?_toArray, List.getElem?_cons_succ, List.getElem?_cons_zero] at z0 z1
        have f0 := heap_frozen y2 0
        have f1 := heap_frozen y2 1
        by_cases hee : ee = 0
        · subst hee
          obtain ⟨m, rfl, hmd2⟩ := HND.out rfl
          have HF := hid (HX.out.trans (if_pos rfl))
          clear HND HX
          go_wp2
          ((try simp only [Exit.inBlock, Exit.then]); refine bodyPost_ret (results_cell3 rfl _ _ _ _ _ _ _ rfl (heap_set (heap_set y2 0 (.int .u64 tt)) 1 (.slice p8 ll.length c8)) Try.underlying38 rfl (by kernel_rfl)) rfl ?_)
          exact rc_end HF.out rfl hsi1 hal hnb hmd hown5
        · have hd0 : (ee == 0) = false := beq_eq_false_iff_ne.2 hee
          have HX2 := hid (HX.out.trans (if_neg hee))
          clear HND HX hee
          by_cases hw : W = 10
          · have hdw : (W == 10) = true := by rw [hw]; rfl
            by_cases h13 : ee = 13
            · have hd3 : (ee == 13) = true := by rw [h13]; rfl
              have HF := hid (HX2.out.trans (if_pos ⟨hw, Or.inl h13⟩))
              clear hw h13
              go_wp2
              ((try simp only [Exit.inBlock, Exit.then]); refine bodyPost_ret (results_cell3 rfl _ _ _ _ _ _ _ rfl (heap_set (heap_set y2 0 (.int .u64 0)) 1 (.slice none 0 0)) Try.underlying38 rfl (by kernel_rfl)) rfl ?_)
              exact rc_end HF.out rfl hsi1 hal hnb hmd (Own.nil _ _ _)
            · have hd3 : (ee == 13) = false := beq_eq_false_iff_ne.2 h13
              by_cases h7 : ee = 7
              · have hd4 : (ee == 7) = true := by rw [h7]; rfl
                have HF := hid (HX2.out.trans (if_pos ⟨hw, Or.inr h7⟩))
                clear hw h13 h7
                go_wp2
                ((try simp only [Exit.inBlock, Exit.then]); refine bodyPost_ret (results_cell3 rfl _ _ _ _ _ _ _ rfl (heap_set (heap_set y2 0 (.int .u64 0)) 1 (.slice none 0 0)) Try.underlying38 rfl (by kernel_rfl)) rfl ?_)
                exact rc_end HF.out rfl hsi1 hal hnb hmd (Own.nil _ _ _)
              · have hd4 : (ee == 7) = false := beq_eq_false_iff_ne.2 h7
                have HF := hid (HX2.out.trans (if_neg (by rintro ⟨_, z | z⟩; exact h13 z; exact h7 z)))
                clear hw h13 h7
                go_wp2
                ((try simp only [Exit.inBlock, Exit.then]); refine bodyPost_ret (results_cell3 rfl _ _ _ _ _ _ _ rfl (heap_set (heap_set y2 0 (.int .u64 0)) 1 (.slice none 0 0)) Try.underlying38 rfl (by kernel_rfl)) rfl ?_)
                exact rc_end HF.out rfl hsi1 hal hnb hmd (Own.nil _ _ _)
          · have hdw : (W == 10) = false := beq_eq_false_iff_ne.2 hw
            have HF := hid (HX2.out.trans (if_neg (fun z => hw z.1)))
            clear hw
            go_wp2
            ((try simp only [Exit.inBlock, Exit.then]); refine bodyPost_ret (results_cell3 rfl _ _ _ _ _ _ _ rfl (heap_set (heap_set y2 0 (.int .u64 0)) 1 (.slice none 0 0)) Try.underlying38 rfl (by kernel_rfl)) rfl ?_)
            exact rc_end HF.out rfl hsi1 hal hnb hmd (Own.nil _ _ _)
end Sc
end Go.Proofs.Ytdihoedehmfgfaa
