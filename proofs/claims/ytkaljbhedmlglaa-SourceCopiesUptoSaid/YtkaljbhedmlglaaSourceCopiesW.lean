/- SourceCopies walked: for any bytes and script of lengths at most 100000000 and any small place and length the law returns true. -/
import Derived.Test.YtkaljbhedmlglaaSourceAllW
import Derived.Test.YtkaljbhedmlglaaRSource
namespace Go.Proofs.Ytkaljbhedmlglaa
open Go.ChangeShapes Go.WideShapes Go.ChangeAt Go.RowKit
open Go.ChangeMaps (open_string shut_string)
namespace Src
theorem read_n (b : List UInt8) (sc : List Int) (r n : Nat) (at_ most : Int) : (read b sc r n at_ most).2.2 ≤ n + 1 := by
  unfold read; split; · simp
  split; · simp
  split <;> simp
/-- A row of integers of one kind, of the call's own. -/
def OwnInts (w : World) (B : Nat) (e : TypeId) (v : Value) (k : IntKind) (n : Nat) : Prop := ∃ xs, xs.length = n ∧ Own w B e v xs ∧ ∀ u ∈ xs, ∃ z, u = .int k z
theorem OwnInts.mods {S : Nat → Prop} {w w' : World} {B : Nat} {e : TypeId} {v : Value} {k : IntKind} {n : Nat} (h : OwnInts w B e v k n) (hm : Mods S w w') (hs : ∀ q, v.ownBlock = some q → ¬ S q) : OwnInts w' B e v k n := by
  obtain ⟨xs, h1, ⟨h2, h3⟩, h4⟩ := h
  refine ⟨xs, h1, ⟨h2, ?_⟩, h4⟩
  rcases h3 with h3 | ⟨g, cap, cur, hv, hg, hh, r⟩
  · exact Or.inl h3
  · exact Or.inr ⟨g, cap, cur, hv, hg, hm.heap hh (hs g (by rw [hv]; rfl)), r⟩
theorem OwnInts.cell {w : World} {B : Nat} {e : TypeId} {p : Option Addr} {k : IntKind} {n m cap : Nat} (h : OwnInts w B e (.slice p m cap) k n) (j : Nat) (hj : j < n) :
    ∃ g z, p = some ⟨g, 0, none⟩ ∧ B ≤ g ∧ w.cell? ⟨g, j, none⟩ = some (.int k z) ∧ w.frozen? ⟨g, j, none⟩ = false ∧ ∀ y, OwnInts (w.setCell ⟨g, j, none⟩ (.int k y)) B e (.slice p m cap) k n := by
  obtain ⟨xs, h1, h2, h3⟩ := h
  obtain ⟨g, cap', e1, hg, _⟩ := h2.opened (by omega)
  cases e1
  obtain ⟨z, hz⟩ := h3 xs[j] (List.getElem_mem (by omega))
  refine ⟨g, z, rfl, hg, ?_, Own.frozen h2 rfl j, fun y => ⟨xs.set j (.int k y), by simp [h1], Own.set h2 rfl j _, fun u hu => ?_⟩⟩
  · rw [Own.cell h2 rfl j (by omega), ← hz]; simp [h1, hj]
  · rcases List.mem_or_eq_of_mem_set hu with hu | hu
    · exact h3 u hu
    · exact ⟨y, hu⟩
/-- What holds between the loops: both sources, and the blocks that may be written. -/
structure Two (w wr : World) (F : Nat → Prop) (a a' : Nat) (b : List UInt8) (sc : List Int) (n : Nat) : Prop where
  p : Is wr F a b sc b.length n
  q : RIs wr (· < w.heap.size) a' b sc b.length n
  nw : Nw w wr
theorem Two.mods {w wr wr' : World} {F : Nat → Prop} {a a' n : Nat} {b : List UInt8} {sc : List Int} (h : Two w wr F a a' b sc n) {S : Nat → Prop} (hm : Mods S wr wr') (h0 : ∀ q, S q → w.heap.size ≤ q) (ha : ¬ S a) (ha' : ¬ S a') (hF : ∀ q, F q → ¬ S q) : Two w wr' F a a' b sc n :=
  ⟨h.p.mods hm ha hF, h.q.mods hm ha' (fun q hq hs => by have := h0 q hs; omega), h.nw.ofMods hm h0⟩
set_option maxRecDepth 20000 in
set_option maxHeartbeats 2000000 in
theorem copies_walk (bv sv : Value) (b : List UInt8) (sc : List Int) (at_ most : Int) (w : World) (hb : Bytes w bv b) (hs : Sl w sv (i64s sc)) (hlb : b.length ≤ 100000000) (hls : sc.length ≤ 100000000)
    (ha0 : 0 ≤ at_ ∧ at_ ≤ 255) (hm0 : 0 ≤ most ∧ most ≤ 255) (hx : ∀ x ∈ sc, -9223372036854775808 ≤ x ∧ x ≤ 9223372036854775807) :
    Calls Try.prog 10 #[bv, sv, .int .u8 at_, .int .u8 most] w fun e w' => e = .returned (.bool true) ∧ Nw w w' := by
  obtain ⟨pb, capb, eb, _⟩ := hb.open
  obtain ⟨a1, a2⟩ := ha0
  obtain ⟨m1, m2⟩ := hm0
  have HRT := hid (show rt b.length (-1) = b.length by unfold rt; rw [if_neg (by omega)])
  subst eb
  go_enter Try.func10, Try.ntmps10
  go_upto_region 2 with (first
    | (at_builtin; refine app1 rfl _ _ _ rfl _ _ _ Try.underlying23 info_u8 rfl (by decide) ((Nw.refl w).alloc _) (Own.new w _ _ [] (Nat.le_refl _) (Nat.zero_le _)) rfl (hb.nw ((Nw.refl w).alloc _)) rfl (u8s_one _) ?_ ?_; rotate_left; (simp only [u8s_length, List.length_append, List.length_nil, List.length_cons, List.length_map]; omega); intro v1 w1 hown1 hg1 hn1)
    | (at_builtin; refine app1 rfl _ _ _ rfl _ _ _ Try.underlying35 info_int rfl (by decide) ((Nw.refl w1).alloc _) (Own.new w1 _ _ [] (Nat.le_refl _) (Nat.zero_le _)) rfl (hs.nw (hn1.alloc _)) rfl (i64s_one _) ?_ ?_; rotate_left; (simp only [i64s_length, List.length_nil]; omega); intro v2 w2 hown2 hg2 hn12))
  have hn2 : Nw w w2 := hn1.trans hn12
  have hb1 : Bytes w2 v1 b := Bytes.nw (by simpa [Bytes] using hown1.sl) hn12
  have hs1 : Sl w2 v2 (i64s sc) := by simpa using hown2.sl
  have o1 : OwnInts w2 w.heap.size 5 v1 .u8 b.length := ⟨u8s b, u8s_length b, by simpa using hown1.nw hn12, fun u hu => by obtain ⟨x, _, rfl⟩ := List.mem_map.1 hu; exact ⟨_, rfl⟩⟩
  have o2 : OwnInts w2 w.heap.size 3 v2 .i64 sc.length := ⟨i64s sc, i64s_length sc, by simpa using hown2.mono hn1.size, fun u hu => by obtain ⟨x, _, rfl⟩ := List.mem_map.1 hu; exact ⟨_, rfl⟩⟩
  have l1 : ∀ q, v1.ownBlock = some q → q < w2.heap.size := fun q hq => Nat.lt_of_lt_of_le (World.ownsRow.lt hown1 q hq).2 hn12.size
  have l2 : ∀ q, v2.ownBlock = some q → q < w2.heap.size := fun q hq => (World.ownsRow.lt hown2 q hq).2
  have k1 : ∀ q, v1.ownBlock = some q → w.heap.size ≤ q := fun q hq => Own.lt hown1 q hq
  have k2 : ∀ q, v2.ownBlock = some q → w.heap.size ≤ q := fun q hq => Nat.le_trans hn1.size (Own.lt hown2 q hq)
  have hdis : ∀ q, v2.ownBlock = some q → ¬ some q = v1.ownBlock := fun q h2 h1 => by
    have := (World.ownsRow.lt hown1 q h1.symm).2
    have hx2 := Own.lt hown2 q h2
    omega
  obtain ⟨p1, c1, rfl, _⟩ := hb1.open
  obtain ⟨p2, c2, rfl, _⟩ := hs1.open (n := sc.length) (i64s_length sc)
  clear hown1 hown2 hg1 hg2 hn1
  have hw2 := hn2.size
  go_upto_region 3 with (first
    | (go_at_call 21; refine (new_c _ _ _ _ (-1) _ hb1 hs1 (by omega) (by omega)).mono ?_; rw [HRT.out]; rintro e w3 ⟨a, rfl, his3, ha, hlt, hn3⟩)
    | (go_at_call 22; refine (rnew_c (· < w.heap.size) _ _ _ _ (-1) _ ((hb.nw hn2).nw hn3) ((hs.nw hn2).nw hn3) hb.lt hs.lt).mono ?_; rw [HRT.out]; rintro e w4 ⟨a', rfl, his4, ha', hlt', hn4⟩))
  have hB : Two w w4 (fun k => w2.heap.size ≤ k ∧ k < a) a a' b sc 0 := ⟨his3.nw hn4, his4, (hn2.trans hn3).trans hn4⟩
  have o1' := o1.mods ((hn3.trans hn4).mods (fun _ => False)) (fun _ _ => id)
  have o2' := o2.mods ((hn3.trans hn4).mods (fun _ => False)) (fun _ _ => id)
  clear his3 his4 o1 o2 hb1 hs1 hn12
  have hw4 : w2.heap.size ≤ w4.heap.size := Nat.le_trans hn3.size hn4.size
  go_wp2
  go_loopw [13, 34] (fun _ i wr => ∃ k : Nat, k ≤ b.length ∧ i = .int .i64 k ∧ OwnInts wr w.heap.size 5 (.slice p1 b.length c1) .u8 b.length ∧ Mods (fun q => w.heap.size ≤ q ∧ q < w2.heap.size ∧ some q = (Value.slice p1 b.length c1).ownBlock) w4 wr) (fun _ i _ => b.length - (intOf i).toNat)
  case atStart => exact ⟨0, Nat.zero_le _, rfl, o1', Mods.refl _ _⟩
  case round =>
    obtain ⟨k, hk, rfl, oR, hmR⟩ := hrel
    by_cases hlt1 : k < b.length
    · obtain ⟨g, z, rfl, hg, hcell, hfz, hset⟩ := oR.cell k hlt1
      have hgl := l1 g rfl
      clear hB o1' o2' hs hb
      go_wp2
      go_roundw
      case rel => exact ⟨k + 1, by omega, by go_num, hset _, hmR.setCell (p := ⟨g, k, none⟩) ⟨hg, hgl, rfl⟩ _⟩
      case measure => simp [intOf]; omega
    · have hB2 : Two w wr (fun k => w2.heap.size ≤ k ∧ k < a) a a' b sc 0 := hB.mods hmR (fun q hq => hq.1) (fun hq => by omega) (fun hq => by omega) (fun q hq hs => by omega)
      have o2R := o2'.mods hmR (fun q hq hs => by
        obtain ⟨_, _, h3⟩ := hs
        exact hdis q hq h3)
      clear hB oR hmR o1' o2'
      go_wp2
      go_loopw [14, 46] (fun _ i wr => ∃ k : Nat, k ≤ sc.length ∧ i = .int .i64 k ∧ OwnInts wr w.heap.size 3 (.slice p2 sc.length c2) .i64 sc.length ∧ Two w wr (fun k => w2.heap.size ≤ k ∧ k < a) a a' b sc 0) (fun _ i _ => sc.length - (intOf i).toNat)
      case atStart => exact ⟨0, Nat.zero_le _, rfl, o2R, hB2⟩
      case round =>
        obtain ⟨k, hk, rfl, oR, hBR⟩ := hrel
        clear hB2 o2R
        by_cases hlt1 : k < sc.length
        · obtain ⟨g, z, rfl, hg, hcell, hfz, hset⟩ := oR.cell k hlt1
          have hgl := l2 g rfl
          go_wp2
          go_roundw
          case rel => exact ⟨k + 1, by omega, by go_num, hset _, hBR.mods (S := (· = g)) (mods_set (Mods.refl _ _) _ _) (fun q hq => by omega) (by omega) (by omega) (fun q hq hs => by omega)⟩
          case measure => simp [intOf]; omega
        · clear oR
          go_wp2
          go_loopw [15, 16, 17, 18, 19, 53] (fun _ _ _ _ _ i wr => ∃ k n : Nat, k ≤ 3 ∧ i = .int .i64 k ∧ n ≤ k ∧ Two w wr (fun k => w2.heap.size ≤ k ∧ k < a) a a' b sc n) (fun _ _ _ _ _ i _ => 3 - (intOf i).toNat)
          case atStart => exact ⟨0, 0, by omega, rfl, by omega, hBR⟩
          case round =>
            obtain ⟨k3, n, hk3, rfl, hn3k, hT⟩ := hrel
            clear hBR
            by_cases hlt3 : k3 < 3
            · have hp := hT.p
              have hq := hT.q
              have hnr := hT.nw
              have hwr := hnr.size
              have hla : a < wr.heap.size := by obtain ⟨_, _, h, _⟩ := hp; exact lt_of_heap h
              have hla' : a' < wr.heap.size := by obtain ⟨_, _, h, _⟩ := hq; exact lt_of_heap h
              have hnx := read_n b sc b.length n at_ most
              have R1 := fun W h => read_c (fun k => w2.heap.size ≤ k ∧ k < a) a b sc b.length n at_ most W h (by omega) (by omega) (Nat.le_refl _) (by omega) (by omega) hx
              have R2 := fun W h => rread_c (· < w.heap.size) a' b sc b.length n at_ most W h (by omega) (by omega) (Nat.le_refl _) (by omega) (by omega) hx (by omega)
              generalize hX : read b sc b.length n at_ most = X at *
              obtain ⟨x, z, n'⟩ := X
              have HR1 := hid R1
              have HR2 := hid R2
              clear R1 R2 hX hT
              dsimp only at hnx
              go_upto_region 16 with (go_at_call 23; refine (HR1.out _ hp).mono ?_; rintro e w5 ⟨v5, rfl, hown5, his5, hm5⟩)
              have hq5 : RIs w5 (· < w.heap.size) a' b sc b.length n := hq.mods hm5 (by omega) (fun k hk => by omega)
              have hn5 : Nw w w5 := hnr.ofMods hm5 (fun k hk => by omega)
              go_upto_region 17 with (go_at_call 24; refine (HR2.out _ hq5).mono ?_; rintro e w6 ⟨v6, rfl, hb6, his6, hm6⟩)
              have hT6 : Two w w6 (fun k => w2.heap.size ≤ k ∧ k < a) a a' b sc n' := ⟨his5.mods hm6 (by omega) (fun k hk => by omega), his6, hn5.ofMods hm6 (fun k hk => by omega)⟩
              have hown6 : Own w6 wr.heap.size 5 v5 (u8s x) := hown5.mods hm6 (fun q hq e => by omega)
              have hs5 := str_ok hown6.sl
              have hs6 := str_ok hb6
              have hlt5 : ∀ q, v5.ownBlock = some q → q < w6.heap.size := fun q hq => (World.ownsRow.lt hown6 q hq).2
              have o5 : OwnInts w6 wr.heap.size 5 v5 .u8 x.length := ⟨u8s x, u8s_length x, hown6, fun u hu => by obtain ⟨y, _, rfl⟩ := List.mem_map.1 hu; exact ⟨_, rfl⟩⟩
              obtain ⟨p5, c5, rfl, h5c, h5m, _⟩ := hown6.sl.open (n := x.length) (u8s_length x)
              unfold maxLen at h5m
              clear hp hq hown5 his5 hm5 hq5 hb6 his6 hm6 hown6 hn5
              go_wp2
              go_loopw [19, 85] (fun _ i wx => ∃ j : Nat, j ≤ x.length ∧ i = .int .i64 j ∧ OwnInts wx wr.heap.size 5 (.slice p5 x.length c5) .u8 x.length ∧ Two w wx (fun k => w2.heap.size ≤ k ∧ k < a) a a' b sc n') (fun _ i _ => x.length - (intOf i).toNat)
              case atStart => exact ⟨0, Nat.zero_le _, rfl, o5, hT6⟩
              case round =>
                obtain ⟨j, hj, rfl, oX, hTX⟩ := hrel
                clear o5 hT6 hs5 hs6
                by_cases hltj : j < x.length
                · obtain ⟨g, y, rfl, hg, hcell, hfz, hset⟩ := oX.cell j hltj
                  go_wp2
                  go_roundw
                  case rel => exact ⟨j + 1, by omega, by go_num, hset _, hTX.mods (S := (· = g)) (mods_set (Mods.refl _ _) _ _) (fun q hq => by omega) (by omega) (by omega) (fun q hq hs => by omega)⟩
                  case measure => simp [intOf]; omega
                · clear oX
                  go_wp2
                  go_roundw
                  case rel => exact ⟨k3 + 1, n', by omega, by go_num, by omega, hTX⟩
                  case measure => simp [intOf]; omega
            · go_wp2_with (go_at_call 27; refine (awake_c _).mono ?_; rintro e w7 ⟨rfl, hn7⟩)
              go_ret
              exact ⟨rfl, hT.nw.trans hn7⟩
end Src
end Go.Proofs.Ytkaljbhedmlglaa
