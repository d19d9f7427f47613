/- ScanFault: headers and records of a log of which only a front can be read (plain); the law walked. No condition but lengths. -/
import Derived.Test.YtdihoedehmfgfaaScanH
import Derived.Test.YtdihoedehmfgfaaSpoil
set_option linter.unusedSimpArgs false
set_option linter.unusedVariables false
namespace Go.Proofs.Ytdihoedehmfgfaa
open Go.ChangeShapes Go.WideShapes Go.ChangeAt Go.RowKit
namespace Sc
open Go.Proofs.Ytdihoedehmfgfaa.Rec (rises get none_ rec_ rec_len)
open Go.Proofs.Ytdihoedehmfgfaa.Tr (T Es tm ids namesP)
open Go.Proofs.Ytdihoedehmfgfaa.Lg (Hd noHd headR headL headE head_same rgo sz cutS headerP recsX mark str)
theorem rgo_m (b : List UInt8) {m m' : Int} (h0 : m ≠ 0) : ∀ (n i : Nat) (acc l : List ByteArray) (j : Nat), rgo b m n i acc = ((l, j), 0) → rgo b m' n i acc = ((l, j), 0)
  | 0, i, acc, l, j, h => h
  | n + 1, i, acc, l, j, h => by
    unfold Lg.rgo at h ⊢
    split at h
    · exact absurd (congrArg Prod.snd h) h0
    split at h
    · exact absurd (congrArg Prod.snd h) (show ¬ ((5 : Int) = 0) by decide)
    split at h
    · exact absurd (congrArg Prod.snd h) h0
    split at h
    · exact absurd (congrArg Prod.snd h) (show ¬ ((5 : Int) = 0) by decide)
    rename_i h1 h2 h3 h4
    rw [if_neg h1, if_neg h2, if_neg h3, if_neg h4]
    exact rgo_m b h0 n _ _ _ _ h
theorem sz_take {b : List UInt8} {k i : Nat} (h : i < k) : sz (b.take k) i = sz b i := by
  unfold Lg.sz
  simp only [List.getD_eq_getElem?_getD]
  rw [List.getElem?_take_of_lt h]
theorem cutS_take {b : List UInt8} {k i n : Nat} (h : i + n ≤ k) : cutS (b.take k) i n = cutS b i n := by
  unfold Lg.cutS
  rw [List.drop_take, List.take_take, Nat.min_eq_left (by omega)]
theorem rgo_pre (b : List UInt8) (m : Int) (k : Nat) (hk : k ≤ b.length) : ∀ (n i : Nat) (acc : List ByteArray), rgo (b.take k) m n i acc = rgo b m n i acc ∨ rgo (b.take k) m n i acc = (([], 0), m)
  | 0, i, acc => Or.inl rfl
  | n + 1, i, acc => by
    have hl : (b.take k).length = k := by rw [List.length_take]; omega
    unfold Lg.rgo
    rw [hl]
    by_cases h1 : k ≤ i
    · exact Or.inr (by rw [if_pos h1])
    · rw [if_neg h1, if_neg (show ¬ b.length ≤ i by omega), sz_take (by omega)]
      by_cases h2 : sz b i < 1 ∨ 16 < sz b i
      · exact Or.inl (by rw [if_pos h2, if_pos h2])
      · rw [if_neg h2, if_neg h2]
        by_cases h3 : k < i + 1 + sz b i
        · exact Or.inr (by rw [if_pos h3])
        · rw [if_neg h3, if_neg (show ¬ b.length < i + 1 + sz b i by omega), cutS_take (by omega)]
          split
          · exact Or.inl rfl
          · exact rgo_pre b m k hk n _ _
theorem headR_inv {b : List UInt8} {l : List ByteArray} {i : Int} (h : headR b 5 = (l, i, 0)) : ∃ j : Nat, i = (j : Int) + 4 ∧ j + 4 ≤ b.length ∧ 5 ≤ b.length ∧ b.take 4 = Lg.mark ∧ sz b 4 ≤ 64 ∧ rgo b 5 (sz b 4) 5 [] = ((l, j), 0) ∧ headE b l j = (l, i, 0) := by
  unfold Lg.headR at h
  split at h
  · cases h
  split at h
  · cases h
  rename_i h5 hm
  obtain ⟨l', j, e, hg⟩ : ∃ l' j e, rgo b 5 (sz b 4) 5 [] = ((l', j), e) := ⟨_, _, _, rfl⟩
  rw [hg] at h
  dsimp only at h
  split at h
  · rename_i he
    exact absurd (congrArg (fun x : Hd => x.2.2) h) he
  split at h
  · cases h
  rename_i he hj
  have he0 : e = 0 := by omega
  subst he0
  have h2 := h
  unfold Lg.headE at h2
  split at h2
  · simp only [Prod.mk.injEq, and_true] at h2
    obtain ⟨rfl, rfl⟩ := h2
    refine ⟨j, rfl, by omega, by omega, ?_, by omega, hg, h⟩
    by_cases q : b.take 4 = Lg.mark
    · exact q
    · exact absurd (Or.inl q) hm
  · cases h2
/-- A right header is so, whatever the error for what is missing. -/
theorem headR_of {b : List UInt8} {l : List ByteArray} {i m : Int} (h : headR b 5 = (l, i, 0)) : headR b m = (l, i, 0) := by
  obtain ⟨j, rfl, h1, h2, h3, h4, h5, h6⟩ := headR_inv h
  unfold Lg.headR
  rw [if_neg (by omega), if_neg (by rintro (q | q); exact q h3; omega), rgo_m b (by decide) _ _ _ _ _ h5]
  dsimp only
  rw [if_neg (by decide), if_neg (by omega)]
  exact h6
/-- A front of a right header lacks something. -/
theorem headR_pre {b : List UInt8} {l : List ByteArray} {i m : Int} {k : Nat} (hm : m ≠ 0) (h : headR b 5 = (l, i, 0)) (hk : (k : Int) < i) : headR (b.take k) m = noHd m := by
  obtain ⟨j, rfl, h1, h2, h3, h4, h5, h6⟩ := headR_inv h
  have hl : (b.take k).length = k := by rw [List.length_take]; omega
  unfold Lg.headR
  rw [hl]
  by_cases hk5 : k < 5
  · rw [if_pos hk5]
  · rw [if_neg hk5, sz_take (by omega), List.take_take, Nat.min_eq_left (by omega), if_neg (by rintro (q | q); exact q h3; omega)]
    rcases rgo_pre b m k (by omega) (sz b 4) 5 [] with e | e
    · rw [e, rgo_m b (by decide) _ _ _ _ _ h5]
      dsimp only
      rw [if_neg (by decide), if_pos (by omega)]
    · rw [e]
      dsimp only
      rw [if_pos hm]
/-! ### Records of a right log -/
/-- Where a record begins. -/
def place (l : List ByteArray) (es : Es) (j : Nat) : Nat := (headerP l).length + (recsX (es.take j)).length
theorem place_step {l : List ByteArray} {es : Es} {j : Nat} (h : j < es.length) : place l es (j + 1) = place l es j + (14 + (ids es j).length) := by
  unfold place
  rw [Lg.recsX_step h]
  omega
theorem place_drop {l : List ByteArray} {es : Es} {j : Nat} (h : j < es.length) : (headerP l ++ recsX es).drop (place l es j) = rec_ (tm es j) (ids es j) ++ recsX (es.drop (j + 1)) := by
  unfold place
  rw [← List.drop_drop, List.drop_left' rfl, Lg.recsX_at h, List.drop_left' rfl]
theorem place_le {l : List ByteArray} {es : Es} {j : Nat} (h : j < es.length) : place l es (j + 1) ≤ (headerP l ++ recsX es).length := by
  have h1 := congrArg List.length (place_drop (l := l) h)
  have h2 : (rec_ (tm es j) (ids es j) ++ recsX (es.drop (j + 1))).length = 14 + (ids es j).length + (recsX (es.drop (j + 1))).length := by rw [List.length_append, rec_len]
  rw [List.length_drop, h2] at h1
  rw [place_step h]
  omega
/-- A record that can be read whole. -/
theorem rec_in {l : List ByteArray} {es : Es} {j k : Nat} {p : Int} (hf : Lg.Fine p [] es) (h0 : 0 ≤ p) (h1 : p ≤ 64) (h : j < es.length) (hk : place l es (j + 1) ≤ k) :
    recP (headerP l ++ recsX es) k (place l es j : Int) p = ((tm es j, ids es j), ((place l es (j + 1) : Nat) : Int), 0) := by
  have hle := place_le (l := l) h
  have hst := place_step (l := l) h
  have hfj := hf j (Nat.zero_le _) h
  rw [Lg.eOk_iff] at hfj
  have hd := place_drop (l := l) h
  unfold recP
  rw [if_neg (by omega), if_neg (by omega), Int.toNat_natCast, Nat.min_eq_left (by omega), List.drop_take, hd]
  rw [show k - place l es j = (rec_ (tm es j) (ids es j)).length + (k - place l es (j + 1)) by rw [rec_len]; omega, List.take_append, List.take_of_length_le (by omega), Nat.add_sub_cancel_left]
  rw [Lg.get_whole _ h0 h1 hfj.2.1 hfj.2.2 hfj.1.1]
  dsimp only
  rw [if_neg (by omega), if_neg (by omega), hst]
  congr 2
/-- A record that can't. -/
theorem rec_out {l : List ByteArray} {es : Es} {j k : Nat} {p : Int} (hf : Lg.Fine p [] es) (h0 : 0 ≤ p) (h1 : p ≤ 64) (h : j < es.length) (hk : k < place l es (j + 1)) (hkb : k < (headerP l ++ recsX es).length) :
    recP (headerP l ++ recsX es) k (place l es j : Int) p = none_ 10 := by
  have hle := place_le (l := l) h
  have hst := place_step (l := l) h
  have hfj := hf j (Nat.zero_le _) h
  rw [Lg.eOk_iff] at hfj
  have hd := place_drop (l := l) h
  have hg : get (((headerP l ++ recsX es).take k).drop (min (place l es j) k)) p = none_ 13 ∨ get (((headerP l ++ recsX es).take k).drop (min (place l es j) k)) p = none_ 7 := by
    by_cases hjk : place l es j ≤ k
    · rw [Nat.min_eq_left hjk, List.drop_take, hd, List.take_append_of_le_length (by rw [rec_len]; omega), Lg.get_short (k - place l es j) h0 h1 hfj.1.1 (by omega)]
      split
      · exact Or.inl rfl
      · exact Or.inr rfl
    · rw [Nat.min_eq_right (by omega), List.drop_take, Nat.sub_self, List.take_zero]
      exact Or.inl rfl
  unfold recP
  rw [if_neg (by omega), if_neg (by omega), Int.toNat_natCast]
  rcases hg with e | e
  · rw [e]
    exact if_pos ⟨hkb, Or.inl rfl⟩
  · rw [e]
    exact if_pos ⟨hkb, Or.inr rfl⟩
/-! ### The walk -/
open Go.Proofs.Ytdihoedehmfgfaa.Rec (i64s_open)
open Go.Proofs.Ytdihoedehmfgfaa.Sum (Hands8)
open Go.Proofs.Ytdihoedehmfgfaa.Tr (Evs EC Small box2 lt_alloc makeP make_may make_len make_small make_c3 u16s u16s_length pqr same_c)
open Go.Proofs.Ytdihoedehmfgfaa.Lx (strs_open)
open Go.Proofs.Ytdihoedehmfgfaa.Lg (encP encode_c make_tb make_enc enc_len9 may_fine may_names names_le head_enc)
theorem SI.other {w w' : World} {B a : Nat} {b : List UInt8} {sc : List Int} {r n : Nat} (h : SI w B a b sc r n) {S : Nat → Prop} (hm : Mods S w w') (hB : B ≤ a) (hS : ∀ k, S k → k < B ∨ a < k) : SI w' B a b sc r n :=
  Src.Is.mods h hm (fun q => by have := hS _ q; omega) (fun k hk q => by have := hS _ q; omega)
theorem make_is' (start : Int) (ns : List Nat) : ∃ es, makeP start ns = (⟨pqr, es⟩ : T) := ⟨_, rfl⟩
theorem Mods.cellM {S : Nat → Prop} {w w' : World} {b o : Nat} {v : Value} (h : Mods S w w') (hs : ¬ S b) (hc : w.cell? ⟨b, o, none⟩ = some v) : w'.cell? ⟨b, o, none⟩ = some v :=
  (World.cell?_of_block (a := ⟨b, o, none⟩) (h.block b (World.block_lt_of_cell? w _ hc) hs)).trans hc
set_option maxRecDepth 20000 in
set_option maxHeartbeats 1600000 in
theorem fault_walk (start : Int) (h0 : 0 ≤ start) (h64 : start < 18446744073709551616) (v1 vs : Value) (ns : List Nat) (sc : List Int) (f : Nat) (w : World) (hv1 : Sl w v1 (u16s ns)) (hns : ∀ n ∈ ns, n ≤ 65535) (hs : Sl w vs (i64s sc)) (hls : sc.length ≤ 1000000000) (hx : ∀ x ∈ sc, -9223372036854775808 ≤ x ∧ x ≤ 9223372036854775807) (hf : f ≤ 65535) :
    Calls Try.prog 6 #[.int .u64 start, v1, vs, .int .u16 (f : Int)] w fun e w' => e = .returned (.bool true) ∧ Nw w w' := by
  have HM1 := hid (fun w' (h : Nw w w') => make_c3 start h0 h64 v1 ns w' (hv1.nw h) hns)
  have HMM := hid (make_may start h0 ns)
  have HSM := hid (make_small start h0 ns)
  have HLE := hid (make_len start h0 ns)
  have HTB := hid (make_tb start h0 ns)
  have hme := make_enc start h0 ns
  have hm9 := enc_len9 _ (make_may start h0 ns)
  obtain ⟨es, hE⟩ := make_is' start ns
  have HSL := hid (fun w' (h : Nw w w') => hs.nw h)
  obtain ⟨p5, k5, rfl, _, _, _, _⟩ := hv1.open (u16s_length ns)
  obtain ⟨ps, ks, rfl, _, _, _, _⟩ := hs.open (i64s_length sc)
  rw [hE] at HM1 HMM HSM HLE HTB hme hm9
  dsimp only at HM1 HLE HTB
  clear hv1 hns hE hs
  have HEE := hid (fun (x y : Value) w' (h1 : Sl w' x (Lx.strs pqr)) (h2 : Evs w' y es) => encode_c x y ⟨pqr, es⟩ w' h1 h2 HSM.out (Nat.le_trans HLE.out (by decide)) HTB.out)
  have hem : encP (⟨pqr, es⟩ : T) = headerP pqr ++ recsX es := by unfold Lg.encP; rw [if_pos HMM.out]
  have hpq : namesP pqr = true := may_names HMM.out
  have hfine := may_fine HMM.out HTB.out
  have hwn : ∀ j, j < es.length → place pqr es (j + 1) ≤ (encP (⟨pqr, es⟩ : T)).length := fun j hj => by rw [hem]; exact place_le hj
  have hrin := fun j k (h : j < es.length) hk => rec_in (l := pqr) (k := k) (p := 3) hfine (by decide) (by decide) h hk
  have hrout := fun j k (h : j < es.length) hk hkb => rec_out (l := pqr) (k := k) (p := 3) hfine (by decide) (by decide) h hk hkb
  rw [← hem] at hrin hrout
  have hpl0 : place pqr es 0 = (headerP pqr).length := rfl
  have hst := fun j (h : j < es.length) => place_step (l := pqr) h
  have hfull : headR (encP (⟨pqr, es⟩ : T)) 5 = (pqr, ((place pqr es 0 : Nat) : Int), 0) := by rw [head_same, hem, hpl0]; exact head_enc _ _ hpq
  have hfr := fun k (h : place pqr es 0 ≤ k) => show headR ((encP (⟨pqr, es⟩ : T)).take k) 10 = (pqr, ((place pqr es 0 : Nat) : Int), 0) by
    refine headR_of ?_
    rw [head_same, hem, List.take_append, List.take_of_length_le (by rw [← hpl0]; exact h)]
    rw [hpl0]
    exact head_enc _ _ hpq
  have hpre := fun k (h : k < place pqr es 0) => headR_pre (m := 10) (k := k) (by decide) hfull (by omega)
  have HRIN := hid hrin
  have HROUT := hid hrout
  have HWN := hid hwn
  have HST := hid hst
  have HFU := hid hfull
  have HFR := hid hfr
  have HPR := hid hpre
  clear hwn hrin hrout hpl0 hst hfull hfr hpre hem hpq hfine
  obtain ⟨em, hemE⟩ : ∃ em, encP (⟨pqr, es⟩ : T) = em := ⟨_, rfl⟩
  rw [hemE] at HRIN HROUT HWN HFU HFR HPR HEE hme hm9
  obtain ⟨N, hN⟩ : ∃ N, em.length = N := ⟨_, rfl⟩
  rw [hN] at HROUT HWN hme hm9
  obtain ⟨k, hk⟩ : ∃ k, f % N = k := ⟨_, rfl⟩
  have hkN : k < N := by rw [← hk]; exact Nat.mod_lt _ (by omega)
  have HK := hid (show (f : Int) % (N : Int) = (k : Int) by rw [← hk]; rfl)
  obtain ⟨pl, hpl⟩ : ∃ pl, place pqr es = pl := ⟨_, rfl⟩
  simp only [hpl] at HRIN HROUT HWN HST HFU HFR HPR
  have HN := hid hN
  have hz : decide ((N : Int) = 0) = false := decide_eq_false (by omega)
  have HNS := hid (fun (v s : Value) w' (hv : Bytes w' v em) (hs : Sl w' s (i64s sc)) => show Calls Try.prog 21 #[v, s, .int .i64 (k : Int)] w' (Src.NewOk w' em sc k) by
    have := Src.new_c v s em sc (k : Int) w' hv hs (by omega) hls
    rwa [show Src.rt em.length (k : Int) = k by unfold Src.rt; rw [if_pos ⟨by omega, by omega⟩]; rfl] at this)
  have HNW := hid (fun (v : Value) w' (hv : Bytes w' v em) => show Calls Try.prog 21 #[v, .slice none 0 0, .int .i64 (-1)] w' (Src.NewOk w' em [] N) by
    have := Src.new_c v (.slice none 0 0) em [] (-1) w' hv (Sl.nil _) (by omega) (by decide)
    rwa [show Src.rt em.length (-1) = N by unfold Src.rt; rw [if_neg (by omega), hN]] at this)
  have OkS : Ok em sc k := ⟨by omega, by omega, hx⟩
  have OkW : Ok em [] N := ⟨by omega, by omega, fun x hx => by cases hx⟩
  have HHS := hid (fun B a n w' h hn => show Calls Try.prog 22 #[.pointer (some ⟨a, 0, none⟩)] w' (HandsHs w' B a em sc k n (headR (em.take k) 10)) by
    have := head_c B a em sc k n w' h OkS hn
    rwa [show miss em k = 10 by unfold miss; rw [if_pos (by omega)]] at this)
  have HHW := hid (fun B a n w' h hn => show Calls Try.prog 22 #[.pointer (some ⟨a, 0, none⟩)] w' (HandsHs w' B a em [] N n (pqr, ((pl 0 : Nat) : Int), 0)) by
    have := head_c B a em [] N n w' h OkW hn
    rw [List.take_of_length_le (by omega), show miss em N = 5 by unfold miss; rw [if_neg (by omega)], HFU.out] at this
    exact this)
  have HRS := hid (fun B a n j w' h hn (hj : pl j ≤ N) => record_c B a em sc k n ((pl j : Nat) : Int) 3 w' h OkS hn (by omega) (by omega) (by decide) (by decide))
  have HRW := hid (fun B a n j w' h hn (hj : pl j ≤ N) => record_c B a em [] N n ((pl j : Nat) : Int) 3 w' h OkW hn (by omega) (by omega) (by decide) (by decide))
  clear hk hN hemE hpl OkS OkW HFU
  go_enter Try.func6, Try.ntmps6
  go_upto_region 2 with (first
    | (go_at_call 18; refine (HM1.out _ (by repeat (first | assumption | exact Nw.refl _ | refine Nw.alloc ?_ _ | refine Nw.drew ?_ | refine Nw.drewN2 ?_ _ | (refine Nw.trans ?_ (by assumption))))).mono ?_; rintro e w2 ⟨q1, c1, q2, c2, rfl, hs1, he1, hn2⟩)
    | fail)
  obtain ⟨t0, t1⟩ := box2 w2 (.slice q1 3 c1) (.slice q2 es.length c2) 34
  have hnA := (Nw.refl w2).alloc (.cells #[.slice q1 3 c1, .slice q2 es.length c2] 34)
  have lA := lt_alloc w2 (.cells #[.slice q1 3 c1, .slice q2 es.length c2] 34)
  have hn2A := hn2.trans hnA
  go_upto_region 5 with (first
    | (go_at_call 20; refine (HEE.out _ _ _ (hs1.nw hnA) (he1.nw hnA)).mono ?_; rintro e w3 ⟨v3, rfl, hown3, hn3⟩; have hbe : Bytes w3 v3 em := hown3.sl; obtain ⟨q3, c3, rfl, _⟩ := hown3.sl.open (n := N) ((u8s_length _).trans HN.out))
    | fail)
  clear HM1 HEE
  have hw3 := hn2A.trans hn3
  have hsc3 := HSL.out _ hw3
  have z0 := hn3.cell t0
  have z1 := hn3.cell t1
  clear hs1 he1 hn2 hnA hn2A t0 t1
  generalize w2.alloc (.cells #[.slice q1 3 c1, .slice q2 es.length c2] 34) = wA at *
  generalize w2.heap.size = g2 at *
  clear hn3
  go_upto_region 6 with fail
  simp only [HK.out]
  go_upto_region 7 with (first
    | (go_at_call 21; refine (HNS.out _ _ _ hbe hsc3).mono ?_; rintro e' w4 ⟨a2, rfl, his2, ha2, hlt2, hn4⟩)
    | fail)
  have hbe4 := hbe.nw hn4
  go_upto_region 8 with (first
    | (go_at_call 21; refine (HNW.out _ _ hbe4).mono ?_; rintro e' w5 ⟨a1, rfl, his1, ha1, hlt1, hn5⟩)
    | fail)
  have hs2 : SI w5 w3.heap.size a2 em sc k 0 := SI.nw his2 hn5
  have hs1 : SI w5 w4.heap.size a1 em [] N 0 := his1
  have HH1 := hid (HHW.out _ a1 0 w5 hs1 (by omega))
  have hb1 : w4.heap.size ≤ a1 := ha1
  have hb2 : w3.heap.size ≤ a2 := ha2
  have hw5 := hw3.trans (hn4.trans hn5)
  have hsz3 := hw3.size
  have y0 := (hn4.trans hn5).cell z0
  have y1 := (hn4.trans hn5).cell z1
  have hg2 : g2 < w3.heap.size := World.block_lt_of_cell? _ _ z0
  clear z0 z1 hbe hbe4 his1 his2 hn4 hn5 HNS HNW hsc3 HHW HSL
  go_upto_region 9 with (first
    | (go_at_call 22; refine HH1.out.mono ?_; rintro e' w6 ⟨v6, n6, rfl, hv6, hsi6, hn6, hm6⟩; dsimp only at hv6 ⊢; obtain ⟨q6, c6, rfl⟩ : ∃ q6 c6, v6 = .slice q6 3 c6 := (by obtain ⟨q, c, h, _⟩ := strs_open hv6; exact ⟨q, c, h⟩); clear hv6)
    | fail)
  have hs2' := hs2.other hm6 hb2 (fun k hk => Or.inr (by omega))
  have HH2 := hid (HHS.out _ a2 0 w6 hs2' (by omega))
  clear hs2 hs1 HHS HH1
  by_cases hat : pl 0 ≤ k
  · rw [HFR.out k hat] at HH2
    have hd0 : decide (((pl 0 : Nat) : Int) ≤ (k : Int)) = true := decide_eq_true (by omega)
    go_upto_region 14 with (first
      | (go_at_call 22; refine HH2.out.mono ?_; rintro e' w7 ⟨v7, n7, rfl, hv7, hsi7, hn7, hm7⟩; dsimp only at hv7 ⊢; obtain ⟨q7, c7, rfl⟩ : ∃ q7 c7, v7 = .slice q7 3 c7 := (by obtain ⟨q, c, h, _⟩ := strs_open hv7; exact ⟨q, c, h⟩); clear hv7)
      | fail)
    have hs1' := hsi6.other hm7 hb1 (fun k hk => Or.inl (by omega))
    have hwl := (hw5.ofMods hm6 (fun k hk => by omega)).ofMods hm7 (fun k hk => by omega)
    have u0 := Mods.cellM hm7 (show ¬ g2 = a2 by omega) (Mods.cellM hm6 (show ¬ g2 = a1 by omega) y0)
    have u1 := Mods.cellM hm7 (show ¬ g2 = a2 by omega) (Mods.cellM hm6 (show ¬ g2 = a1 by omega) y1)
    have hEL := HLE.out
    have lw7 := hwl.size
    clear hm6 hm7 hs2' hsi6 HH2 hw5 y0 y1 hg2
    go_upto_region 15 with fail
    go_loopw [15, 20, 21, 22, 23, 24, 25, 85] (fun at_ _ _ _ _ _ _ i wr => ∃ j m1 m2 : Nat, j ≤ es.length ∧ at_ = .int .i64 (pl j) ∧ i = .int .i64 j ∧ m1 ≤ 2000 + 100 * j ∧ m2 ≤ 2000 + 100 * j ∧ SI wr w4.heap.size a1 em [] N m1 ∧ SI wr w3.heap.size a2 em sc k m2 ∧ Nw w wr) (fun _ _ _ _ _ _ _ i _ => es.length - (intOf i).toNat)
    case atStart => exact ⟨0, _, _, Nat.zero_le _, rfl, rfl, by omega, by omega, hs1', hsi7, hwl⟩
    case round =>
      obtain ⟨j, m1, m2, hj, rfl, rfl, hm1, hm2, hs1, hs2, hn⟩ := hrel
      clear u0 u1
      have hal1 := hs1.lt
      have hal2 := hs2.lt
      by_cases hlt : j < es.length
      · have hdj : decide (j < es.length) = true := decide_eq_true hlt
        have hle := HWN.out j hlt
        have hst := HST.out j hlt
        have HR1 := hid (fun w' (h : SI w' w3.heap.size a2 em sc k m2) => HRS.out _ a2 m2 j w' h (by omega) (by omega))
        have HR2 := hid (HRW.out _ a1 m1 j wr hs1 (by omega) (by omega))
        rw [HRIN.out j N hlt hle] at HR2
        by_cases hin : pl (j + 1) ≤ k
        · rw [HRIN.out j k hlt hin] at HR1
          have hdi : decide (((pl (j + 1) : Nat) : Int) ≤ (k : Int)) = true := decide_eq_true (by omega)
          generalize tm es j = tj at *
          generalize ids es j = idl at *
          obtain ⟨il, hil⟩ : ∃ il, idl.length = il := ⟨_, rfl⟩
          rw [hil] at hst
          have HIL := hid hil
          clear hil
          -- tj il (pl (j + 1) : Int) 0: the second Record's time, number of ids, place, error; HR1 (the part), HR2 (the whole)
          go_upto_region 17 with (first
            | (go_at_call 23; refine HR2.out.mono ?_; rintro e' wX ⟨v6, k1, rfl, hownX, hsiX, hk1, hmX⟩; dsimp only at hownX ⊢; obtain ⟨pX, cX, rfl, _⟩ := hownX.sl.open (n := il) ((i64s_length _).trans HIL.out))
            | fail)
          have hgX := hmX.size
          have hmA := hmX.nw ((Nw.refl wX).alloc (.cells #[.int .u64 tj, .slice pX il cX] 38))
          obtain ⟨x0, x1⟩ := box2 wX (.int .u64 tj) (.slice pX il cX) 38
          have lX := lt_alloc wX (.cells #[.int .u64 tj, .slice pX il cX] 38)
          have hsA := hownX.sl.nw ((Nw.refl wX).alloc (.cells #[.int .u64 tj, .slice pX il cX] 38))
          have hsiA := hsiX.nw ((Nw.refl wX).alloc (.cells #[.int .u64 tj, .slice pX il cX] 38))
          have hlowX := fun k hk => (World.ownsRow.lt hownX k hk).1
          have hs2A := hs2.other hmA hb2 (fun k hk => Or.inr (by omega))
          have hwA := hn.ofMods hmA (fun k hk => by omega)
          have hszA := hmA.size
          clear hownX hsiX hmX HR2 hs1 hs2 hn
          generalize wX.alloc (.cells #[.int .u64 tj, .slice pX il cX] 38) = wY at *
          generalize wX.heap.size = g20 at *
          have HRA := hid (HR1.out wY hs2A)
          clear HR1
          go_upto_region 18 with (first
            | (go_at_call 23; refine HRA.out.mono ?_; rintro e' wZ ⟨v7, k2, rfl, hownZ, hsiZ, hk2, hmZ⟩; dsimp only at hownZ ⊢; obtain ⟨pZ, cZ, rfl, _⟩ := hownZ.sl.open (n := il) (by first | exact (i64s_length _).trans HIL.out | rfl))
            | fail)
          have hgZ := hmZ.size
          have hmB := hmZ.nw ((Nw.refl wZ).alloc (.cells #[.int .u64 tj, .slice pZ il cZ] 38))
          obtain ⟨y0, y1⟩ := box2 wZ (.int .u64 tj) (.slice pZ il cZ) 38
          have lZ := lt_alloc wZ (.cells #[.int .u64 tj, .slice pZ il cZ] 38)
          have hsB := hownZ.sl.nw ((Nw.refl wZ).alloc (.cells #[.int .u64 tj, .slice pZ il cZ] 38))
          have hsiB := hsiZ.nw ((Nw.refl wZ).alloc (.cells #[.int .u64 tj, .slice pZ il cZ] 38))
          have hs1B := hsiA.other hmB hb1 (fun k hk => Or.inl (by omega))
          have hwB := hwA.ofMods hmB (fun k hk => by omega)
          have x0B := Mods.cellM hmB (show ¬ g20 = a2 by omega) x0
          have x1B := Mods.cellM hmB (show ¬ g20 = a2 by omega) x1
          have hszB := hmB.size
          have lXB : g20 < (wZ.alloc (.cells #[.int .u64 tj, .slice pZ il cZ] 38)).heap.size := by omega
          have hsAB := Sl.mods hsA hmB (fun _ k hk e => by have := hlowX k hk; omega)
          clear hownZ hsiZ hmZ hmA hmB HRA x0 x1 hsA hsiA hs2A hwA
          generalize wZ.alloc (.cells #[.int .u64 tj, .slice pZ il cZ] 38) = wB at *
          generalize wZ.heap.size = g23 at *
          have HSM := hid (show Calls Try.prog 24 #[.agg #[.int .u64 tj, .slice pX il cX], .agg #[.int .u64 tj, .slice pZ il cZ]] wB (Gives (.bool true) wB) by
            have := same_c _ _ tj tj idl idl wB hsAB hsB
            rwa [decide_eq_true ⟨rfl, rfl⟩] at this)
          go_wp2_with (first
            | (go_at_call 24; refine HSM.out.mono ?_; rintro e' w5' ⟨rfl, hn5⟩)
            | fail)
          go_roundw
          case rel => exact ⟨j + 1, k1, k2, by omega, by rw [show ((pl (j + 1) : Nat) : Int) = (pl j : Int) + (14 + (il : Int)) by omega], by go_num, by omega, by omega, hs1B.nw hn5, hsiB.nw hn5, hwB.trans hn5⟩
          case measure => (simp [intOf] <;> omega)
        · rw [HROUT.out j k hlt (by omega) hkN, show (none_ 10 : Rec.Got) = ((0, []), 0, 10) from rfl] at HR1
          have hdi : decide (((pl (j + 1) : Nat) : Int) ≤ (k : Int)) = false := decide_eq_false (by omega)
          generalize tm es j = tj at *
          generalize ids es j = idl at *
          obtain ⟨il, hil⟩ : ∃ il, idl.length = il := ⟨_, rfl⟩
          rw [hil] at hst
          have HIL := hid hil
          clear hil
          -- 0 0 0 10: the second Record's time, number of ids, place, error; HR1 (the part), HR2 (the whole)
          go_upto_region 17 with (first
            | (go_at_call 23; refine HR2.out.mono ?_; rintro e' wX ⟨v6, k1, rfl, hownX, hsiX, hk1, hmX⟩; dsimp only at hownX ⊢; obtain ⟨pX, cX, rfl, _⟩ := hownX.sl.open (n := il) ((i64s_length _).trans HIL.out))
            | fail)
          have hgX := hmX.size
          have hmA := hmX.nw ((Nw.refl wX).alloc (.cells #[.int .u64 tj, .slice pX il cX] 38))
          obtain ⟨x0, x1⟩ := box2 wX (.int .u64 tj) (.slice pX il cX) 38
          have lX := lt_alloc wX (.cells #[.int .u64 tj, .slice pX il cX] 38)
          have hsA := hownX.sl.nw ((Nw.refl wX).alloc (.cells #[.int .u64 tj, .slice pX il cX] 38))
          have hsiA := hsiX.nw ((Nw.refl wX).alloc (.cells #[.int .u64 tj, .slice pX il cX] 38))
          have hlowX := fun k hk => (World.ownsRow.lt hownX k hk).1
          have hs2A := hs2.other hmA hb2 (fun k hk => Or.inr (by omega))
          have hwA := hn.ofMods hmA (fun k hk => by omega)
          have hszA := hmA.size
          clear hownX hsiX hmX HR2 hs1 hs2 hn
          generalize wX.alloc (.cells #[.int .u64 tj, .slice pX il cX] 38) = wY at *
          generalize wX.heap.size = g20 at *
          have HRA := hid (HR1.out wY hs2A)
          clear HR1
          go_upto_region 18 with (first
            | (go_at_call 23; refine HRA.out.mono ?_; rintro e' wZ ⟨v7, k2, rfl, hownZ, hsiZ, hk2, hmZ⟩; dsimp only at hownZ ⊢; obtain ⟨pZ, cZ, rfl, _⟩ := hownZ.sl.open (n := 0) (by first | exact (i64s_length _).trans HIL.out | rfl))
            | fail)
          have hgZ := hmZ.size
          have hmB := hmZ.nw ((Nw.refl wZ).alloc (.cells #[.int .u64 0, .slice pZ 0 cZ] 38))
          obtain ⟨y0, y1⟩ := box2 wZ (.int .u64 0) (.slice pZ 0 cZ) 38
          have lZ := lt_alloc wZ (.cells #[.int .u64 0, .slice pZ 0 cZ] 38)
          have hsB := hownZ.sl.nw ((Nw.refl wZ).alloc (.cells #[.int .u64 0, .slice pZ 0 cZ] 38))
          have hsiB := hsiZ.nw ((Nw.refl wZ).alloc (.cells #[.int .u64 0, .slice pZ 0 cZ] 38))
          have hs1B := hsiA.other hmB hb1 (fun k hk => Or.inl (by omega))
          have hwB := hwA.ofMods hmB (fun k hk => by omega)
          have x0B := Mods.cellM hmB (show ¬ g20 = a2 by omega) x0
          have x1B := Mods.cellM hmB (show ¬ g20 = a2 by omega) x1
          have hszB := hmB.size
          have lXB : g20 < (wZ.alloc (.cells #[.int .u64 0, .slice pZ 0 cZ] 38)).heap.size := by omega
          have hsAB := Sl.mods hsA hmB (fun _ k hk e => by have := hlowX k hk; omega)
          clear hownZ hsiZ hmZ hmA hmB HRA x0 x1 hsA hsiA hs2A hwA
          generalize wZ.alloc (.cells #[.int .u64 0, .slice pZ 0 cZ] 38) = wB at *
          generalize wZ.heap.size = g23 at *
          go_wp2
          go_roundw
          case rel => exact ⟨j + 1, k1, k2, by omega, by rw [show ((pl (j + 1) : Nat) : Int) = (pl j : Int) + (14 + (il : Int)) by omega], by go_num, by omega, by omega, hs1B, hsiB, hwB⟩
          case measure => (simp [intOf] <;> omega)
      · obtain rfl : j = es.length := by omega
        have hdj : decide (es.length < es.length) = false := decide_eq_false (by omega)
        go_wp2_with (first
          | (go_at_call 15; refine (awake_c _).mono ?_; rintro e' w5' ⟨rfl, hn5⟩)
          | fail)
        go_ret
        exact ⟨rfl, hn.trans hn5⟩
  · rw [HPR.out k (by omega), show (noHd 10 : Hd) = ([], 0, 10) from rfl] at HH2
    have hd0 : decide (((pl 0 : Nat) : Int) ≤ (k : Int)) = false := decide_eq_false (by omega)
    go_upto_region 14 with (first
      | (go_at_call 22; refine HH2.out.mono ?_; rintro e' w7 ⟨v7, n7, rfl, hv7, hsi7, hn7, hm7⟩; dsimp only at hv7 ⊢; obtain ⟨q7, c7, rfl⟩ : ∃ q7 c7, v7 = .slice q7 0 c7 := (by obtain ⟨q, c, h, _⟩ := strs_open hv7; exact ⟨q, c, h⟩); clear hv7)
      | fail)
    have hs1' := hsi6.other hm7 hb1 (fun k hk => Or.inl (by omega))
    have hwl := (hw5.ofMods hm6 (fun k hk => by omega)).ofMods hm7 (fun k hk => by omega)
    have u0 := Mods.cellM hm7 (show ¬ g2 = a2 by omega) (Mods.cellM hm6 (show ¬ g2 = a1 by omega) y0)
    have u1 := Mods.cellM hm7 (show ¬ g2 = a2 by omega) (Mods.cellM hm6 (show ¬ g2 = a1 by omega) y1)
    have hEL := HLE.out
    have lw7 := hwl.size
    clear hm6 hm7 hs2' hsi6 HH2 hw5 y0 y1 hg2
    go_upto_region 15 with fail
    go_loopw [15, 20, 21, 22, 23, 24, 25, 85] (fun at_ _ _ _ _ _ _ i wr => ∃ j m1 m2 : Nat, j ≤ es.length ∧ at_ = .int .i64 (pl j) ∧ i = .int .i64 j ∧ m1 ≤ 2000 + 100 * j ∧ m2 ≤ 2000 + 100 * j ∧ SI wr w4.heap.size a1 em [] N m1 ∧ SI wr w3.heap.size a2 em sc k m2 ∧ Nw w wr) (fun _ _ _ _ _ _ _ i _ => es.length - (intOf i).toNat)
    case atStart => exact ⟨0, _, _, Nat.zero_le _, rfl, rfl, by omega, by omega, hs1', hsi7, hwl⟩
    case round =>
      obtain ⟨j, m1, m2, hj, rfl, rfl, hm1, hm2, hs1, hs2, hn⟩ := hrel
      clear u0 u1
      have hal1 := hs1.lt
      have hal2 := hs2.lt
      by_cases hlt : j < es.length
      · have hdj : decide (j < es.length) = true := decide_eq_true hlt
        have hle := HWN.out j hlt
        have hst := HST.out j hlt
        have HR1 := hid (fun w' (h : SI w' w3.heap.size a2 em sc k m2) => HRS.out _ a2 m2 j w' h (by omega) (by omega))
        have HR2 := hid (HRW.out _ a1 m1 j wr hs1 (by omega) (by omega))
        rw [HRIN.out j N hlt hle] at HR2
        by_cases hin : pl (j + 1) ≤ k
        · rw [HRIN.out j k hlt hin] at HR1
          have hdi : decide (((pl (j + 1) : Nat) : Int) ≤ (k : Int)) = true := decide_eq_true (by omega)
          generalize tm es j = tj at *
          generalize ids es j = idl at *
          obtain ⟨il, hil⟩ : ∃ il, idl.length = il := ⟨_, rfl⟩
          rw [hil] at hst
          have HIL := hid hil
          clear hil
          -- tj il (pl (j + 1) : Int) 0: the second Record's time, number of ids, place, error; HR1 (the part), HR2 (the whole)
          go_upto_region 17 with (first
            | (go_at_call 23; refine HR2.out.mono ?_; rintro e' wX ⟨v6, k1, rfl, hownX, hsiX, hk1, hmX⟩; dsimp only at hownX ⊢; obtain ⟨pX, cX, rfl, _⟩ := hownX.sl.open (n := il) ((i64s_length _).trans HIL.out))
            | fail)
          have hgX := hmX.size
          have hmA := hmX.nw ((Nw.refl wX).alloc (.cells #[.int .u64 tj, .slice pX il cX] 38))
          obtain ⟨x0, x1⟩ := box2 wX (.int .u64 tj) (.slice pX il cX) 38
          have lX := lt_alloc wX (.cells #[.int .u64 tj, .slice pX il cX] 38)
          have hsA := hownX.sl.nw ((Nw.refl wX).alloc (.cells #[.int .u64 tj, .slice pX il cX] 38))
          have hsiA := hsiX.nw ((Nw.refl wX).alloc (.cells #[.int .u64 tj, .slice pX il cX] 38))
          have hlowX := fun k hk => (World.ownsRow.lt hownX k hk).1
          have hs2A := hs2.other hmA hb2 (fun k hk => Or.inr (by omega))
          have hwA := hn.ofMods hmA (fun k hk => by omega)
          have hszA := hmA.size
          clear hownX hsiX hmX HR2 hs1 hs2 hn
          generalize wX.alloc (.cells #[.int .u64 tj, .slice pX il cX] 38) = wY at *
          generalize wX.heap.size = g20 at *
          have HRA := hid (HR1.out wY hs2A)
          clear HR1
          go_upto_region 18 with (first
            | (go_at_call 23; refine HRA.out.mono ?_; rintro e' wZ ⟨v7, k2, rfl, hownZ, hsiZ, hk2, hmZ⟩; dsimp only at hownZ ⊢; obtain ⟨pZ, cZ, rfl, _⟩ := hownZ.sl.open (n := il) (by first | exact (i64s_length _).trans HIL.out | rfl))
            | fail)
          have hgZ := hmZ.size
          have hmB := hmZ.nw ((Nw.refl wZ).alloc (.cells #[.int .u64 tj, .slice pZ il cZ] 38))
          obtain ⟨y0, y1⟩ := box2 wZ (.int .u64 tj) (.slice pZ il cZ) 38
          have lZ := lt_alloc wZ (.cells #[.int .u64 tj, .slice pZ il cZ] 38)
          have hsB := hownZ.sl.nw ((Nw.refl wZ).alloc (.cells #[.int .u64 tj, .slice pZ il cZ] 38))
          have hsiB := hsiZ.nw ((Nw.refl wZ).alloc (.cells #[.int .u64 tj, .slice pZ il cZ] 38))
          have hs1B := hsiA.other hmB hb1 (fun k hk => Or.inl (by omega))
          have hwB := hwA.ofMods hmB (fun k hk => by omega)
          have x0B := Mods.cellM hmB (show ¬ g20 = a2 by omega) x0
          have x1B := Mods.cellM hmB (show ¬ g20 = a2 by omega) x1
          have hszB := hmB.size
          have lXB : g20 < (wZ.alloc (.cells #[.int .u64 tj, .slice pZ il cZ] 38)).heap.size := by omega
          have hsAB := Sl.mods hsA hmB (fun _ k hk e => by have := hlowX k hk; omega)
          clear hownZ hsiZ hmZ hmA hmB HRA x0 x1 hsA hsiA hs2A hwA
          generalize wZ.alloc (.cells #[.int .u64 tj, .slice pZ il cZ] 38) = wB at *
          generalize wZ.heap.size = g23 at *
          have HSM := hid (show Calls Try.prog 24 #[.agg #[.int .u64 tj, .slice pX il cX], .agg #[.int .u64 tj, .slice pZ il cZ]] wB (Gives (.bool true) wB) by
            have := same_c _ _ tj tj idl idl wB hsAB hsB
            rwa [decide_eq_true ⟨rfl, rfl⟩] at this)
          go_wp2_with (first
            | (go_at_call 24; refine HSM.out.mono ?_; rintro e' w5' ⟨rfl, hn5⟩)
            | fail)
          go_roundw
          case rel => exact ⟨j + 1, k1, k2, by omega, by rw [show ((pl (j + 1) : Nat) : Int) = (pl j : Int) + (14 + (il : Int)) by omega], by go_num, by omega, by omega, hs1B.nw hn5, hsiB.nw hn5, hwB.trans hn5⟩
          case measure => (simp [intOf] <;> omega)
        · rw [HROUT.out j k hlt (by omega) hkN, show (none_ 10 : Rec.Got) = ((0, []), 0, 10) from rfl] at HR1
          have hdi : decide (((pl (j + 1) : Nat) : Int) ≤ (k : Int)) = false := decide_eq_false (by omega)
          generalize tm es j = tj at *
          generalize ids es j = idl at *
          obtain ⟨il, hil⟩ : ∃ il, idl.length = il := ⟨_, rfl⟩
          rw [hil] at hst
          have HIL := hid hil
          clear hil
          -- 0 0 0 10: the second Record's time, number of ids, place, error; HR1 (the part), HR2 (the whole)
          go_upto_region 17 with (first
            | (go_at_call 23; refine HR2.out.mono ?_; rintro e' wX ⟨v6, k1, rfl, hownX, hsiX, hk1, hmX⟩; dsimp only at hownX ⊢; obtain ⟨pX, cX, rfl, _⟩ := hownX.sl.open (n := il) ((i64s_length _).trans HIL.out))
            | fail)
          have hgX := hmX.size
          have hmA := hmX.nw ((Nw.refl wX).alloc (.cells #[.int .u64 tj, .slice pX il cX] 38))
          obtain ⟨x0, x1⟩ := box2 wX (.int .u64 tj) (.slice pX il cX) 38
          have lX := lt_alloc wX (.cells #[.int .u64 tj, .slice pX il cX] 38)
          have hsA := hownX.sl.nw ((Nw.refl wX).alloc (.cells #[.int .u64 tj, .slice pX il cX] 38))
          have hsiA := hsiX.nw ((Nw.refl wX).alloc (.cells #[.int .u64 tj, .slice pX il cX] 38))
          have hlowX := fun k hk => (World.ownsRow.lt hownX k hk).1
          have hs2A := hs2.other hmA hb2 (fun k hk => Or.inr (by omega))
          have hwA := hn.ofMods hmA (fun k hk => by omega)
          have hszA := hmA.size
          clear hownX hsiX hmX HR2 hs1 hs2 hn
          generalize wX.alloc (.cells #[.int .u64 tj, .slice pX il cX] 38) = wY at *
          generalize wX.heap.size = g20 at *
          have HRA := hid (HR1.out wY hs2A)
          clear HR1
          go_upto_region 18 with (first
            | (go_at_call 23; refine HRA.out.mono ?_; rintro e' wZ ⟨v7, k2, rfl, hownZ, hsiZ, hk2, hmZ⟩; dsimp only at hownZ ⊢; obtain ⟨pZ, cZ, rfl, _⟩ := hownZ.sl.open (n := 0) (by first | exact (i64s_length _).trans HIL.out | rfl))
            | fail)
          have hgZ := hmZ.size
          have hmB := hmZ.nw ((Nw.refl wZ).alloc (.cells #[.int .u64 0, .slice pZ 0 cZ] 38))
          obtain ⟨y0, y1⟩ := box2 wZ (.int .u64 0) (.slice pZ 0 cZ) 38
          have lZ := lt_alloc wZ (.cells #[.int .u64 0, .slice pZ 0 cZ] 38)
          have hsB := hownZ.sl.nw ((Nw.refl wZ).alloc (.cells #[.int .u64 0, .slice pZ 0 cZ] 38))
          have hsiB := hsiZ.nw ((Nw.refl wZ).alloc (.cells #[.int .u64 0, .slice pZ 0 cZ] 38))
          have hs1B := hsiA.other hmB hb1 (fun k hk => Or.inl (by omega))
          have hwB := hwA.ofMods hmB (fun k hk => by omega)
          have x0B := Mods.cellM hmB (show ¬ g20 = a2 by omega) x0
          have x1B := Mods.cellM hmB (show ¬ g20 = a2 by omega) x1
          have hszB := hmB.size
          have lXB : g20 < (wZ.alloc (.cells #[.int .u64 0, .slice pZ 0 cZ] 38)).heap.size := by omega
          have hsAB := Sl.mods hsA hmB (fun _ k hk e => by have := hlowX k hk; omega)
          clear hownZ hsiZ hmZ hmA hmB HRA x0 x1 hsA hsiA hs2A hwA
          generalize wZ.alloc (.cells #[.int .u64 0, .slice pZ 0 cZ] 38) = wB at *
          generalize wZ.heap.size = g23 at *
          go_wp2
          go_roundw
          case rel => exact ⟨j + 1, k1, k2, by omega, by rw [show ((pl (j + 1) : Nat) : Int) = (pl j : Int) + (14 + (il : Int)) by omega], by go_num, by omega, by omega, hs1B, hsiB, hwB⟩
          case measure => (simp [intOf] <;> omega)
      · obtain rfl : j = es.length := by omega
        have hdj : decide (es.length < es.length) = false := decide_eq_false (by omega)
        go_wp2_with (first
          | (go_at_call 15; refine (awake_c _).mono ?_; rintro e' w5' ⟨rfl, hn5⟩)
          | fail)
        go_ret
        exact ⟨rfl, hn.trans hn5⟩
end Sc
end Go.Proofs.Ytdihoedehmfgfaa
