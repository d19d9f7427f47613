/- SourceAll walked: for any bytes, script, fault and mosts of lengths at most 100000000 the law returns true. -/
import Derived.Test.YtkaljbhedmlglaaSourceLaws
namespace Go.Proofs.Ytkaljbhedmlglaa
open Go.ChangeShapes Go.WideShapes Go.ChangeAt Go.RowKit
open Go.ChangeMaps (open_string shut_string)
theorem app1b {P : Program} {w : World} {ops : Array Oper} {rest : List Oper} {o : Oper} {a : Act} {Q : Exit → Act → World → Prop} (hgd : o.guard = none) (s x : Operand) (t : TypeId) (ho : o.op = .call { callee := .builtin .append, args := #[s, x], argTypes := #[t, t] })
    (e : TypeId) (z : Value) (bytes : Nat) (ht : P.underlying t = some (.slice e)) (hinfo : (P.info? e).map (fun i => (i.zero, i.size, i.bytes)) = some (some z, 1, bytes)) (hz : z.cells.size = 1) (hby : bytes ≤ 128)
    {B : Nat} (hB : B ≤ w.heap.size) {v : Value} {xs : List Value} (hown : Own w B e v xs) (hs : a.eval s = v) {u : Value} {news : List Value} (hu : Sl w u news) (hx : a.eval x = u) (h1 : ∀ u ∈ news, u.oneCell' = true)
    (h : ∀ v' w', Own w' B e v' (xs ++ news) → Mods (B ≤ ·) w w' → wpList P ops Q rest (a.put o.dst v') w')
    (h63 : xs.length + news.length ≤ 1099511627776) : wpList P ops Q (o :: rest) a w := by
  obtain ⟨i, hi, hz0, hz1, hz2⟩ := info_parts hinfo
  obtain ⟨p, cap, rfl, hcap, hmx, hnone, hc⟩ := hu
  cases p with
  | none =>
    obtain rfl := hnone rfl
    obtain rfl : news = [] := by cases news with | nil => rfl | cons y r => simp at hcap
    refine wpList_append_own_none hgd s x t ho B e i 1 ht hi v xs.length xs hs hown hx ?_
    exact h v w (by simpa using hown) (Mods.refl _ _)
  | some ad =>
    refine wpList_append_own (w := w) hgd s x t ho B e i z 1 bytes ht hi hz0 hz1 hz2 hz (by decide) v xs.length xs hs hown ad news.length cap news hx (by simp) (fun j y hj => ?_) h1 (by unfold maxLen; omega) ?_ hB (fun v' w' h2 h3 _ => ?_)
    · obtain ⟨hjl, rfl⟩ := List.getElem?_eq_some_iff.1 hj
      obtain ⟨b, off, e1, hcell⟩ := hc j hjl
      cases e1
      rw [addr_add]; exact hcell
    · have := Nat.mul_le_mul h63 hby; omega
    · exact h v' w' (by simpa [Own] using h2) ⟨h3.os, h3.tape, h3.output, h3.size, fun k hk hs => h3.block k hk (fun e => hs (Own.lt hown k e.symm))⟩
namespace Src
theorem many_bd (sc : List Int) (r n at_ : Nat) (most : Int) (h1 : at_ < r) (h2 : 1 ≤ most) : 1 ≤ many sc r n at_ most ∧ (many sc r n at_ most : Int) ≤ most ∧ many sc r n at_ most + at_ ≤ r := by
  unfold many
  cases sc[n]? with
  | none => dsimp only; omega
  | some x => dsimp only; omega
theorem read_in (b : List UInt8) (sc : List Int) (r n at_ : Nat) (most : Int) (hr : r ≤ b.length) (h1 : at_ < r) (h2 : 1 ≤ most) :
    ∃ K, read b sc r n at_ most = ((b.drop at_).take K, 0, n + 1) ∧ 1 ≤ K ∧ (K : Int) ≤ most ∧ K + at_ ≤ r := by
  obtain ⟨k1, k2, k3⟩ := many_bd sc r n at_ most h1 h2
  exact ⟨many sc r n at_ most, by unfold read; rw [if_neg (by omega), if_neg (by omega), if_neg (by omega)]; rfl, k1, k2, k3⟩
theorem read_at_end (b : List UInt8) (sc : List Int) (fault : Int) (n : Nat) :
    read b sc (rt b.length fault) n (rt b.length fault) 1 = ([], if 0 ≤ fault ∧ fault < b.length then 10 else 13, n) := by
  unfold read
  rw [if_neg (by omega)]
  by_cases h : 0 ≤ fault ∧ fault < b.length
  · have : rt b.length fault < b.length := by unfold rt; rw [if_pos h]; omega
    rw [if_neg (by omega), if_pos (by omega), if_pos h]
  · have : rt b.length fault = b.length := by unfold rt; rw [if_neg h]
    rw [this, if_pos (by omega), if_neg h]
theorem take_more (b : List UInt8) (m K : Nat) : b.take m ++ (b.drop m).take K = b.take (m + K) := by rw [List.take_add]
/-- What holds at a round's head. -/
structure AllAt (w w1 wr : World) (a : Nat) (b : List UInt8) (sc : List Int) (r k m : Nat) (v : Value) : Prop where
  src : Is wr (fun k => w.heap.size ≤ k ∧ k < a) a b sc r k
  nw : Nw w wr
  sz : w1.heap.size ≤ wr.heap.size
  own : Own wr w1.heap.size 5 v (u8s (b.take m))
  le : k ≤ m
  up : m ≤ r
set_option maxRecDepth 20000 in
set_option maxHeartbeats 2000000 in
theorem all_walk (bv sv mv : Value) (b : List UInt8) (sc : List Int) (fault : Int) (ms : List UInt8) (w : World) (hb : Bytes w bv b) (hs : Sl w sv (i64s sc)) (hms : Bytes w mv ms) (hlb : b.length ≤ 100000000) (hls : sc.length ≤ 100000000) (hll : ms.length ≤ 100000000)
    (hx : ∀ x ∈ sc, -9223372036854775808 ≤ x ∧ x ≤ 9223372036854775807) :
    Calls Try.prog 9 #[bv, sv, .int .i64 fault, mv] w fun e w' => e = .returned (.bool true) ∧ Nw w w' := by
  obtain ⟨pb, capb, rfl, hcapb, hmxb, hnb, hcb⟩ := hb.open
  obtain ⟨pm, capm, rfl, hcapm, hmxm, hnm, hcm⟩ := hms.open
  have hend := read_at_end b sc fault
  have hrt := rt_le b.length fault
  by_cases h0 : fault < 0
  · have hr : rt b.length fault = b.length := by unfold rt; rw [if_neg (by omega)]
    have hd1 : decide (0 ≤ fault) = false := decide_eq_false (by omega)
    rw [hr, if_neg (by omega)] at hend
    rw [hr] at hrt
    have HR := hid hr
    have HE := hid hend
    clear hr hend
    go_enter Try.func9, Try.ntmps9
    go_upto_block 0 with (first
      | (go_at_call 21; refine (new_c _ _ _ _ _ _ hb hs (by omega) (by omega)).mono ?_; rw [HR.out]; rintro e w1 ⟨a, rfl, his1, ha, hlt, hn1⟩))
    go_cut [12] (fun s12 wx => ∃ k : Nat, AllAt w w1 wx a b sc b.length k b.length s12)
    case first =>
      go_wp2_with fail
      go_loopw [12, 13, 14, 15, 16, 35] (fun v _ _ _ _ i wr => ∃ k m : Nat, i = .int .i64 k ∧ AllAt w w1 wr a b sc b.length k m v) (fun _ _ _ _ _ i _ => b.length - (intOf i).toNat)
      case atStart => exact ⟨0, 0, rfl, his1, hn1, Nat.le_refl _, Own.nil _ _ _, Nat.le_refl _, Nat.zero_le _⟩
      case round =>
        obtain ⟨k, m, rfl, hA⟩ := hrel
        have hle := hA.le
        have hup := hA.up
        have hnr := hA.nw
        have hsz := hA.sz
        have hwr := hnr.size
        have hown := hA.own
        have hsrc := hA.src
        obtain ⟨p1, c1, rfl, _⟩ := hown.sl.open (n := m) (by rw [u8s_length]; simp; omega)
        clear his1 hn1 hA
        by_cases hm : m < b.length
        · have hk : k < b.length := by omega
          have hm0 : ¬ (b.length : Int) ≤ (m : Int) := by omega
          have key : ∃ (mo : Int), 1 ≤ mo ∧ mo ≤ 256 ∧ (decide (0 < ms.length) = false ∧ mo = 1 ∨ ∃ (j : Nat) (mb mof : Nat) (x : UInt8), decide (0 < ms.length) = true ∧ (k : Int) % (ms.length : Int) = (j : Int) ∧ j < ms.length ∧ pm = some ⟨mb, mof, none⟩ ∧ wr.cell? ⟨mb, mof + j, none⟩ = some (.int .u8 (x.toNat : Int)) ∧ mo = 1 + (x.toNat : Int)) := by
            by_cases hz : ms = []
            · exact ⟨1, by omega, by omega, Or.inl ⟨by rw [hz]; rfl, rfl⟩⟩
            · have hpos : 0 < ms.length := List.length_pos_iff.2 hz
              have hj := Nat.mod_lt k hpos
              obtain ⟨mb, mof, x, hp, hcell, _, hx⟩ := u8s_cell hcm (k % ms.length) hj
              exact ⟨1 + x.toNat, by omega, by omega, Or.inr ⟨k % ms.length, mb, mof, x, decide_eq_true (by omega), by omega, hj, hp, hnr.cell hcell, rfl⟩⟩
          obtain ⟨mo, hmo1, hmo2, hcase⟩ := key
          obtain ⟨K, hrd, hK1, hK2, hK3⟩ := read_in b sc b.length k m mo hrt hm hmo1
          have R1 := fun W h => read_c (fun k => w.heap.size ≤ k ∧ k < a) a b sc b.length k m mo W h (by omega) (by omega) hrt (by omega) (by omega) hx
          rw [hrd] at R1
          have HR1 := hid R1
          have htk := hid (take_more b m K)
          have hxl : ((b.drop m).take K).length = K := by simp; omega
          have HXL := hid hxl
          have hBw : w1.heap.size ≤ wr.heap.size := hsz
          have hK0 : ((K : Int) == 0) = false := beq_eq_false_iff_ne.2 (by omega)
          have hK4 : decide (mo < (K : Int)) = false := decide_eq_false (by omega)
          clear R1 hrd hxl hcm hms
          rcases hcase with ⟨hz1, rfl⟩ | ⟨j, mb, mof, x, hz1, hj, hjl, rfl, hcell, rfl⟩
          all_goals
            go_wp2_with (first
              | (go_at_call 23; refine (HR1.out _ hsrc).mono ?_; rintro e w3 ⟨v3, rfl, hown3, his3, hm3⟩; obtain ⟨p3, c3, rfl, _⟩ := hown3.sl.open (n := K) (by rw [u8s_length]; exact HXL.out))
              | (go_at_call 25; refine (reads_c _ _ _ _ _ _ _ his3).mono ?_; rintro e w' ⟨rfl, rfl⟩)
              | (at_builtin; refine app1b rfl _ _ _ rfl _ _ _ Try.underlying23 info_u8 rfl (by decide) (Nat.le_trans hBw hm3.size) (hown.mods hm3 (fun q hq e => by omega)) rfl (hown3.sl) rfl (u8s_one _) ?_ ?_; rotate_left; (rw [u8s_length, u8s_length, HXL.out]; simp; omega); intro v4 w4 hown4 hm4))
            go_roundw
            case rel => exact ⟨k + 1, m + K, by go_num, his3.mods hm4 (by omega) (fun q hq => by omega), ((hnr.ofMods hm3 (fun q hq => by omega)).ofMods hm4 (fun q hq => by omega)), Nat.le_trans hBw (Nat.le_trans hm3.size hm4.size), by rw [u8s_append, htk.out] at hown4; exact hown4, by omega, by omega⟩
            case measure => simp [intOf]; omega
        · have hmr : b.length = m := by omega
          subst hmr
          have hA2 : AllAt w w1 wr a b sc b.length k b.length (.slice p1 b.length c1) := ⟨hsrc, hnr, hsz, hown, hle, hup⟩
          have HA := hid hA2
          clear hA2 hown hsrc
          by_cases hk : k < b.length
          all_goals
            go_wp2_with fail
            go_meet
            exact ⟨k, HA.out⟩
    case rest =>
      obtain ⟨k, hA⟩ := hcut
      have hle := hA.le
      have hnr := hA.nw
      have hsz := hA.sz
      have hown := hA.own
      have hsrc := hA.src
      obtain ⟨p1, c1, rfl, _⟩ := hown.sl.open (n := b.length) (by rw [u8s_length]; simp <;> omega)
      have hkr : (k : Int) ≤ (b.length : Int) := by omega
      have hcap1 : b.length ≤ capb := by omega
      have R1 := fun W h => read_c (fun k => w.heap.size ≤ k ∧ k < a) a b sc b.length k b.length 1 W h (by omega) (by omega) hrt (by omega) (by omega) hx
      rw [HE.out] at R1
      have HR1 := hid R1
      have hbt : Bytes w (.slice pb b.length capb) (b.take b.length) := Bytes.mk (by rw [u8s_take]; exact hcb.take _) (by simp; try omega) (by simp; try omega) hmxb hnb
      clear R1 hA
      go_upto_region 19 with (go_at_call 23; refine (HR1.out _ hsrc).mono ?_; rintro e w3 ⟨v3, rfl, hown3, his3, hm3⟩)
      have hn3 : Nw w w3 := hnr.ofMods hm3 (fun q hq => by omega)
      have hsA := str_later (hown.mods hm3 (fun q hq e => by omega)).sl
      have hsB := str_later (hbt.nw hn3)
      try rw [List.take_length] at hsA hsB
      have hrd : Is w3 (fun q => w.heap.size ≤ q ∧ q < a) a b sc b.length k := his3
      clear his3 HR1 HE HR hown hsrc hbt
      refine wp_region_says [Vl (.slice p1 b.length c1), Vl (.string ⟨(b).toArray⟩), Vl (.slice pb b.length capb), Vl (.int .i64 b.length), Vl (.slice pb b.length capb), Vl (.string ⟨(b).toArray⟩), Vl (.bool true), Vl (.bool true), Vl (.int .i64 13), Vl (.int .i64 13),
        Vl (.bool true), Vl (.bool true), Vl (.bool true), Vl (.pointer (some ⟨a, 0, none⟩)), Vl (.int .i64 k), Vl (.int .i64 b.length), Vl (.bool true), Vl (.bool true), Vl (.bool true), Vl (.bool true), Vl (.bool true), Vl (.bool true)] (by kernel_rfl) (by kernel_rfl) (by simp [StabL]) ?phi1 ?phi_end1
      case phi1 =>
        repeat' (first | exact StepsOk.nil | refine StepsOk.cons ?_ ?_)
        all_goals
          intro x wR hR hd K hK
          simp only [fill, Act.put, List.setIfInBounds_toArray, List.set_cons_zero, List.set_cons_succ, Nat.reduceAdd, says, List.getD_cons_zero, List.getD_cons_succ, Vl] at hK ⊢
          try simp [Region.binds, says, Vl] at hd
          try have hs := str_ok hd
          try simp only [hd] at hK ⊢
          first | (refine wanted_yes ?_ ?_; rfl) | (refine wanted_no ?_ ?_; rfl)
          go_wp2_with (first 
        | (go_at_call 25; refine (reads_c _ _ _ _ _ _ _ (hrd.nw hR)).mono ?_; rintro e w' ⟨rfl, rfl⟩)
        | (go_at_call 27; refine (awake_c _).mono ?_; rintro e w5 ⟨rfl, hn5⟩))
        all_goals (try simp only [hd])
        all_goals (refine hK _ _ ?_ ?_ <;> first | exact Nw.refl _ | assumption | exact rfl)
      intro x wR hR hx
      simp only [fill, Act.put, List.setIfInBounds_toArray, List.set_cons_zero, List.set_cons_succ, Nat.reduceAdd]
      have h21 := hx 21 (by decide)
      simp only [says, List.getD_cons_zero, List.getD_cons_succ, Vl] at h21
      try simp only [h21]
      clear hx
      go_wp2
      go_ret
      exact ⟨by first | rfl | (rw [← h21]; rfl), hn3.trans hR⟩
  · obtain ⟨f, rfl⟩ := Int.eq_ofNat_of_zero_le (by omega : 0 ≤ fault)
    have hd1 : decide (0 ≤ (f : Int)) = true := decide_eq_true (by omega)
    by_cases h1 : f < b.length
    · have hr : rt b.length (f : Int) = f := by unfold rt; rw [if_pos (by omega)]; omega
      have hd2 : decide ((f : Int) < b.length) = true := decide_eq_true (by omega)
      rw [hr, if_pos (by omega)] at hend
      rw [hr] at hrt
      have HR := hid hr
      have HE := hid hend
      clear hr hend
      go_enter Try.func9, Try.ntmps9
      go_upto_block 0 with (first
        | (go_at_call 21; refine (new_c _ _ _ _ _ _ hb hs (by omega) (by omega)).mono ?_; rw [HR.out]; rintro e w1 ⟨a, rfl, his1, ha, hlt, hn1⟩))
      go_cut [12] (fun s12 wx => ∃ k : Nat, AllAt w w1 wx a b sc f k f s12)
      case first =>
        go_wp2_with fail
        go_loopw [12, 13, 14, 15, 16, 35] (fun v _ _ _ _ i wr => ∃ k m : Nat, i = .int .i64 k ∧ AllAt w w1 wr a b sc f k m v) (fun _ _ _ _ _ i _ => f - (intOf i).toNat)
        case atStart => exact ⟨0, 0, rfl, his1, hn1, Nat.le_refl _, Own.nil _ _ _, Nat.le_refl _, Nat.zero_le _⟩
        case round =>
          obtain ⟨k, m, rfl, hA⟩ := hrel
          have hle := hA.le
          have hup := hA.up
          have hnr := hA.nw
          have hsz := hA.sz
          have hwr := hnr.size
          have hown := hA.own
          have hsrc := hA.src
          obtain ⟨p1, c1, rfl, _⟩ := hown.sl.open (n := m) (by rw [u8s_length]; simp; omega)
          clear his1 hn1 hA
          by_cases hm : m < f
          · have hk : k < f := by omega
            have hm0 : ¬ (f : Int) ≤ (m : Int) := by omega
            have key : ∃ (mo : Int), 1 ≤ mo ∧ mo ≤ 256 ∧ (decide (0 < ms.length) = false ∧ mo = 1 ∨ ∃ (j : Nat) (mb mof : Nat) (x : UInt8), decide (0 < ms.length) = true ∧ (k : Int) % (ms.length : Int) = (j : Int) ∧ j < ms.length ∧ pm = some ⟨mb, mof, none⟩ ∧ wr.cell? ⟨mb, mof + j, none⟩ = some (.int .u8 (x.toNat : Int)) ∧ mo = 1 + (x.toNat : Int)) := by
              by_cases hz : ms = []
              · exact ⟨1, by omega, by omega, Or.inl ⟨by rw [hz]; rfl, rfl⟩⟩
              · have hpos : 0 < ms.length := List.length_pos_iff.2 hz
                have hj := Nat.mod_lt k hpos
                obtain ⟨mb, mof, x, hp, hcell, _, hx⟩ := u8s_cell hcm (k % ms.length) hj
                exact ⟨1 + x.toNat, by omega, by omega, Or.inr ⟨k % ms.length, mb, mof, x, decide_eq_true (by omega), by omega, hj, hp, hnr.cell hcell, rfl⟩⟩
            obtain ⟨mo, hmo1, hmo2, hcase⟩ := key
            obtain ⟨K, hrd, hK1, hK2, hK3⟩ := read_in b sc f k m mo hrt hm hmo1
            have R1 := fun W h => read_c (fun k => w.heap.size ≤ k ∧ k < a) a b sc f k m mo W h (by omega) (by omega) hrt (by omega) (by omega) hx
            rw [hrd] at R1
            have HR1 := hid R1
            have htk := hid (take_more b m K)
            have hxl : ((b.drop m).take K).length = K := by simp; omega
            have HXL := hid hxl
            have hBw : w1.heap.size ≤ wr.heap.size := hsz
            have hK0 : ((K : Int) == 0) = false := beq_eq_false_iff_ne.2 (by omega)
            have hK4 : decide (mo < (K : Int)) = false := decide_eq_false (by omega)
            clear R1 hrd hxl hcm hms
            rcases hcase with ⟨hz1, rfl⟩ | ⟨j, mb, mof, x, hz1, hj, hjl, rfl, hcell, rfl⟩
            all_goals
              go_wp2_with (first
                | (go_at_call 23; refine (HR1.out _ hsrc).mono ?_; rintro e w3 ⟨v3, rfl, hown3, his3, hm3⟩; obtain ⟨p3, c3, rfl, _⟩ := hown3.sl.open (n := K) (by rw [u8s_length]; exact HXL.out))
                | (go_at_call 25; refine (reads_c _ _ _ _ _ _ _ his3).mono ?_; rintro e w' ⟨rfl, rfl⟩)
                | (at_builtin; refine app1b rfl _ _ _ rfl _ _ _ Try.underlying23 info_u8 rfl (by decide) (Nat.le_trans hBw hm3.size) (hown.mods hm3 (fun q hq e => by omega)) rfl (hown3.sl) rfl (u8s_one _) ?_ ?_; rotate_left; (rw [u8s_length, u8s_length, HXL.out]; simp; omega); intro v4 w4 hown4 hm4))
              go_roundw
              case rel => exact ⟨k + 1, m + K, by go_num, his3.mods hm4 (by omega) (fun q hq => by omega), ((hnr.ofMods hm3 (fun q hq => by omega)).ofMods hm4 (fun q hq => by omega)), Nat.le_trans hBw (Nat.le_trans hm3.size hm4.size), by rw [u8s_append, htk.out] at hown4; exact hown4, by omega, by omega⟩
              case measure => simp [intOf]; omega
          · have hmr : f = m := by omega
            subst hmr
            have hA2 : AllAt w w1 wr a b sc f k f (.slice p1 f c1) := ⟨hsrc, hnr, hsz, hown, hle, hup⟩
            have HA := hid hA2
            clear hA2 hown hsrc
            by_cases hk : k < f
            all_goals
              go_wp2_with fail
              go_meet
              exact ⟨k, HA.out⟩
      case rest =>
        obtain ⟨k, hA⟩ := hcut
        have hle := hA.le
        have hnr := hA.nw
        have hsz := hA.sz
        have hown := hA.own
        have hsrc := hA.src
        obtain ⟨p1, c1, rfl, _⟩ := hown.sl.open (n := f) (by rw [u8s_length]; simp <;> omega)
        have hkr : (k : Int) ≤ (f : Int) := by omega
        have hcap1 : f ≤ capb := by omega
        have R1 := fun W h => read_c (fun k => w.heap.size ≤ k ∧ k < a) a b sc f k f 1 W h (by omega) (by omega) hrt (by omega) (by omega) hx
        rw [HE.out] at R1
        have HR1 := hid R1
        have hbt : Bytes w (.slice pb f capb) (b.take f) := Bytes.mk (by rw [u8s_take]; exact hcb.take _) (by simp; try omega) (by simp; try omega) hmxb hnb
        clear R1 hA
        go_upto_region 19 with (go_at_call 23; refine (HR1.out _ hsrc).mono ?_; rintro e w3 ⟨v3, rfl, hown3, his3, hm3⟩)
        have hn3 : Nw w w3 := hnr.ofMods hm3 (fun q hq => by omega)
        have hsA := str_later (hown.mods hm3 (fun q hq e => by omega)).sl
        have hsB := str_later (hbt.nw hn3)
        try rw [List.take_length] at hsA hsB
        have hrd : Is w3 (fun q => w.heap.size ≤ q ∧ q < a) a b sc f k := his3
        clear his3 HR1 HE HR hown hsrc hbt
        refine wp_region_says [Vl (.slice p1 f c1), Vl (.string ⟨(b.take f).toArray⟩), Vl (.slice pb b.length capb), Vl (.int .i64 f), Vl (.slice pb f capb), Vl (.string ⟨(b.take f).toArray⟩), Vl (.bool true), Vl (.bool true), Vl (.int .i64 10), Vl (.int .i64 10),
          Vl (.bool true), Vl (.bool true), Vl (.bool true), Vl (.pointer (some ⟨a, 0, none⟩)), Vl (.int .i64 k), Vl (.int .i64 f), Vl (.bool true), Vl (.bool true), Vl (.bool true), Vl (.bool true), Vl (.bool true), Vl (.bool true)] (by kernel_rfl) (by kernel_rfl) (by simp [StabL]) ?phi2 ?phi_end2
        case phi2 =>
          repeat' (first | exact StepsOk.nil | refine StepsOk.cons ?_ ?_)
          all_goals
            intro x wR hR hd K hK
            simp only [fill, Act.put, List.setIfInBounds_toArray, List.set_cons_zero, List.set_cons_succ, Nat.reduceAdd, says, List.getD_cons_zero, List.getD_cons_succ, Vl] at hK ⊢
            try simp [Region.binds, says, Vl] at hd
            try have hs := str_ok hd
            try simp only [hd] at hK ⊢
            first | (refine wanted_yes ?_ ?_; rfl) | (refine wanted_no ?_ ?_; rfl)
            go_wp2_with (first 
          | (go_at_call 25; refine (reads_c _ _ _ _ _ _ _ (hrd.nw hR)).mono ?_; rintro e w' ⟨rfl, rfl⟩)
          | (go_at_call 27; refine (awake_c _).mono ?_; rintro e w5 ⟨rfl, hn5⟩))
          all_goals (try simp only [hd])
          all_goals (refine hK _ _ ?_ ?_ <;> first | exact Nw.refl _ | assumption | exact rfl)
        intro x wR hR hx
        simp only [fill, Act.put, List.setIfInBounds_toArray, List.set_cons_zero, List.set_cons_succ, Nat.reduceAdd]
        have h21 := hx 21 (by decide)
        simp only [says, List.getD_cons_zero, List.getD_cons_succ, Vl] at h21
        try simp only [h21]
        clear hx
        go_wp2
        go_ret
        exact ⟨by first | rfl | (rw [← h21]; rfl), hn3.trans hR⟩
    · have hr : rt b.length (f : Int) = b.length := by unfold rt; rw [if_neg (by omega)]
      have hd2 : decide ((f : Int) < b.length) = false := decide_eq_false (by omega)
      rw [hr, if_neg (by omega)] at hend
      rw [hr] at hrt
      have HR := hid hr
      have HE := hid hend
      clear hr hend
      go_enter Try.func9, Try.ntmps9
      go_upto_block 0 with (first
        | (go_at_call 21; refine (new_c _ _ _ _ _ _ hb hs (by omega) (by omega)).mono ?_; rw [HR.out]; rintro e w1 ⟨a, rfl, his1, ha, hlt, hn1⟩))
      go_cut [12] (fun s12 wx => ∃ k : Nat, AllAt w w1 wx a b sc b.length k b.length s12)
      case first =>
        go_wp2_with fail
        go_loopw [12, 13, 14, 15, 16, 35] (fun v _ _ _ _ i wr => ∃ k m : Nat, i = .int .i64 k ∧ AllAt w w1 wr a b sc b.length k m v) (fun _ _ _ _ _ i _ => b.length - (intOf i).toNat)
        case atStart => exact ⟨0, 0, rfl, his1, hn1, Nat.le_refl _, Own.nil _ _ _, Nat.le_refl _, Nat.zero_le _⟩
        case round =>
          obtain ⟨k, m, rfl, hA⟩ := hrel
          have hle := hA.le
          have hup := hA.up
          have hnr := hA.nw
          have hsz := hA.sz
          have hwr := hnr.size
          have hown := hA.own
          have hsrc := hA.src
          obtain ⟨p1, c1, rfl, _⟩ := hown.sl.open (n := m) (by rw [u8s_length]; simp; omega)
          clear his1 hn1 hA
          by_cases hm : m < b.length
          · have hk : k < b.length := by omega
            have hm0 : ¬ (b.length : Int) ≤ (m : Int) := by omega
            have key : ∃ (mo : Int), 1 ≤ mo ∧ mo ≤ 256 ∧ (decide (0 < ms.length) = false ∧ mo = 1 ∨ ∃ (j : Nat) (mb mof : Nat) (x : UInt8), decide (0 < ms.length) = true ∧ (k : Int) % (ms.length : Int) = (j : Int) ∧ j < ms.length ∧ pm = some ⟨mb, mof, none⟩ ∧ wr.cell? ⟨mb, mof + j, none⟩ = some (.int .u8 (x.toNat : Int)) ∧ mo = 1 + (x.toNat : Int)) := by
              by_cases hz : ms = []
              · exact ⟨1, by omega, by omega, Or.inl ⟨by rw [hz]; rfl, rfl⟩⟩
              · have hpos : 0 < ms.length := List.length_pos_iff.2 hz
                have hj := Nat.mod_lt k hpos
                obtain ⟨mb, mof, x, hp, hcell, _, hx⟩ := u8s_cell hcm (k % ms.length) hj
                exact ⟨1 + x.toNat, by omega, by omega, Or.inr ⟨k % ms.length, mb, mof, x, decide_eq_true (by omega), by omega, hj, hp, hnr.cell hcell, rfl⟩⟩
            obtain ⟨mo, hmo1, hmo2, hcase⟩ := key
            obtain ⟨K, hrd, hK1, hK2, hK3⟩ := read_in b sc b.length k m mo hrt hm hmo1
            have R1 := fun W h => read_c (fun k => w.heap.size ≤ k ∧ k < a) a b sc b.length k m mo W h (by omega) (by omega) hrt (by omega) (by omega) hx
            rw [hrd] at R1
            have HR1 := hid R1
            have htk := hid (take_more b m K)
            have hxl : ((b.drop m).take K).length = K := by simp; omega
            have HXL := hid hxl
            have hBw : w1.heap.size ≤ wr.heap.size := hsz
            have hK0 : ((K : Int) == 0) = false := beq_eq_false_iff_ne.2 (by omega)
            have hK4 : decide (mo < (K : Int)) = false := decide_eq_false (by omega)
            clear R1 hrd hxl hcm hms
            rcases hcase with ⟨hz1, rfl⟩ | ⟨j, mb, mof, x, hz1, hj, hjl, rfl, hcell, rfl⟩
            all_goals
              go_wp2_with (first
                | (go_at_call 23; refine (HR1.out _ hsrc).mono ?_; rintro e w3 ⟨v3, rfl, hown3, his3, hm3⟩; obtain ⟨p3, c3, rfl, _⟩ := hown3.sl.open (n := K) (by rw [u8s_length]; exact HXL.out))
                | (go_at_call 25; refine (reads_c _ _ _ _ _ _ _ his3).mono ?_; rintro e w' ⟨rfl, rfl⟩)
                | (at_builtin; refine app1b rfl _ _ _ rfl _ _ _ Try.underlying23 info_u8 rfl (by decide) (Nat.le_trans hBw hm3.size) (hown.mods hm3 (fun q hq e => by omega)) rfl (hown3.sl) rfl (u8s_one _) ?_ ?_; rotate_left; (rw [u8s_length, u8s_length, HXL.out]; simp; omega); intro v4 w4 hown4 hm4))
              go_roundw
              case rel => exact ⟨k + 1, m + K, by go_num, his3.mods hm4 (by omega) (fun q hq => by omega), ((hnr.ofMods hm3 (fun q hq => by omega)).ofMods hm4 (fun q hq => by omega)), Nat.le_trans hBw (Nat.le_trans hm3.size hm4.size), by rw [u8s_append, htk.out] at hown4; exact hown4, by omega, by omega⟩
              case measure => simp [intOf]; omega
          · have hmr : b.length = m := by omega
            subst hmr
            have hA2 : AllAt w w1 wr a b sc b.length k b.length (.slice p1 b.length c1) := ⟨hsrc, hnr, hsz, hown, hle, hup⟩
            have HA := hid hA2
            clear hA2 hown hsrc
            by_cases hk : k < b.length
            all_goals
              go_wp2_with fail
              go_meet
              exact ⟨k, HA.out⟩
      case rest =>
        obtain ⟨k, hA⟩ := hcut
        have hle := hA.le
        have hnr := hA.nw
        have hsz := hA.sz
        have hown := hA.own
        have hsrc := hA.src
        obtain ⟨p1, c1, rfl, _⟩ := hown.sl.open (n := b.length) (by rw [u8s_length]; simp <;> omega)
        have hkr : (k : Int) ≤ (b.length : Int) := by omega
        have hcap1 : b.length ≤ capb := by omega
        have R1 := fun W h => read_c (fun k => w.heap.size ≤ k ∧ k < a) a b sc b.length k b.length 1 W h (by omega) (by omega) hrt (by omega) (by omega) hx
        rw [HE.out] at R1
        have HR1 := hid R1
        have hbt : Bytes w (.slice pb b.length capb) (b.take b.length) := Bytes.mk (by rw [u8s_take]; exact hcb.take _) (by simp; try omega) (by simp; try omega) hmxb hnb
        clear R1 hA
        go_upto_region 19 with (go_at_call 23; refine (HR1.out _ hsrc).mono ?_; rintro e w3 ⟨v3, rfl, hown3, his3, hm3⟩)
        have hn3 : Nw w w3 := hnr.ofMods hm3 (fun q hq => by omega)
        have hsA := str_later (hown.mods hm3 (fun q hq e => by omega)).sl
        have hsB := str_later (hbt.nw hn3)
        try rw [List.take_length] at hsA hsB
        have hrd : Is w3 (fun q => w.heap.size ≤ q ∧ q < a) a b sc b.length k := his3
        clear his3 HR1 HE HR hown hsrc hbt
        refine wp_region_says [Vl (.slice p1 b.length c1), Vl (.string ⟨(b).toArray⟩), Vl (.slice pb b.length capb), Vl (.int .i64 b.length), Vl (.slice pb b.length capb), Vl (.string ⟨(b).toArray⟩), Vl (.bool true), Vl (.bool true), Vl (.int .i64 13), Vl (.int .i64 13),
          Vl (.bool true), Vl (.bool true), Vl (.bool true), Vl (.pointer (some ⟨a, 0, none⟩)), Vl (.int .i64 k), Vl (.int .i64 b.length), Vl (.bool true), Vl (.bool true), Vl (.bool true), Vl (.bool true), Vl (.bool true), Vl (.bool true)] (by kernel_rfl) (by kernel_rfl) (by simp [StabL]) ?phi3 ?phi_end3
        case phi3 =>
          repeat' (first | exact StepsOk.nil | refine StepsOk.cons ?_ ?_)
          all_goals
            intro x wR hR hd K hK
            simp only [fill, Act.put, List.setIfInBounds_toArray, List.set_cons_zero, List.set_cons_succ, Nat.reduceAdd, says, List.getD_cons_zero, List.getD_cons_succ, Vl] at hK ⊢
            try simp [Region.binds, says, Vl] at hd
            try have hs := str_ok hd
            try simp only [hd] at hK ⊢
            first | (refine wanted_yes ?_ ?_; rfl) | (refine wanted_no ?_ ?_; rfl)
            go_wp2_with (first 
          | (go_at_call 25; refine (reads_c _ _ _ _ _ _ _ (hrd.nw hR)).mono ?_; rintro e w' ⟨rfl, rfl⟩)
          | (go_at_call 27; refine (awake_c _).mono ?_; rintro e w5 ⟨rfl, hn5⟩))
          all_goals (try simp only [hd])
          all_goals (refine hK _ _ ?_ ?_ <;> first | exact Nw.refl _ | assumption | exact rfl)
        intro x wR hR hx
        simp only [fill, Act.put, List.setIfInBounds_toArray, List.set_cons_zero, List.set_cons_succ, Nat.reduceAdd]
        have h21 := hx 21 (by decide)
        simp only [says, List.getD_cons_zero, List.getD_cons_succ, Vl] at h21
        try simp only [h21]
        clear hx
        go_wp2
        go_ret
        exact ⟨by first | rfl | (rw [← h21]; rfl), hn3.trans hR⟩
end Src
end Go.Proofs.Ytkaljbhedmlglaa
