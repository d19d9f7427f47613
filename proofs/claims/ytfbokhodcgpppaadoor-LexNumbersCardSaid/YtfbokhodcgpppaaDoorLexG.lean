/- The contract of lex.token: the token at a place. No condition but lengths. -/
import Derived.Test.YtfbokhodcgpppaaDoorLexF
import Derived.Test.YtfbokhodcgpppaaDoorSeqEnd
import Derived.Lib.ConvBytes
namespace Go.Proofs.YtfbokhodcgpppaaDoor
open Go.ChangeShapes Go.WideShapes Go.ChangeAt Go.RowKit
namespace Lx
/-- A call hands back a token and its length, 0 where there is none. -/
def HandsT (w : World) (r : Option (Tk × Nat)) (e : Ending) (w' : World) : Prop := ∃ (t : Tk) (n : Nat), e = .returned (.tuple #[.agg #[.int .i64 t.kind, .string ⟨t.text.toArray⟩, .int .i64 t.num, .int .i64 (t.at_ : Int)], .int .i64 (n : Int)]) ∧ (match r with | none => n = 0 | some (t', n') => t = t' ∧ n = n') ∧ Nw w w'
theorem results_cell2 {P : Program} {fn : Func} {p u : Tmp} {ty : TypeId} (h : fn.results = #[.cell p ty, .tmp u]) (tmps : Array Value) (w : World) (g : Nat) (t : TypeId) (cs : Array Value) (fr : Nat × Nat) (d : TypeDesc)
    (hp : tmps.getD p undef = .pointer (some ⟨g, 0, none⟩)) (hg : w.heap[g]? = some (.cells cs t fr))
    (hu : P.underlying ty = some d) (hd : (match d with | .struct _ | .array _ _ => true | _ => false) = true) (hi : (P.info? ty).map (·.size) = some cs.size) :
    (results fn tmps).run P w = .ok (.tuple #[.agg cs, tmps.getD u undef]) w := by
  have hp' : tmps[p]?.getD undef = .pointer (some ⟨g, 0, none⟩) := by simpa using hp
  simp [results, h, hp', asAddr, run_loadVar_row w g t ty cs fr d hg hu hd hi]
/-- Four cells are written. -/
theorem four_heap {w w1 : World} {z : Nat} {a0 a1 a2 a3 : Value} (h : w1.heap[z]? = some (.cells #[a0, a1, a2, a3] 29 (0, 0))) (hn : Nw w w1) (hz : w.heap.size ≤ z) (b0 b1 b2 b3 : Value) :
    ((((w1.setCell ⟨z, 0, none⟩ b0).setCell ⟨z, 1, none⟩ b1).setCell ⟨z, 2, none⟩ b2).setCell ⟨z, 3, none⟩ b3).heap[z]? = some (.cells #[b0, b1, b2, b3] 29 (0, 0)) ∧
    Nw w ((((w1.setCell ⟨z, 0, none⟩ b0).setCell ⟨z, 1, none⟩ b1).setCell ⟨z, 2, none⟩ b2).setCell ⟨z, 3, none⟩ b3) :=
  ⟨heap_set (heap_set (heap_set (heap_set h 0 b0) 1 b1) 2 b2) 3 b3, (((hn.setCell (p := ⟨z, 0, none⟩) hz b0).setCell (p := ⟨z, 1, none⟩) hz b1).setCell (p := ⟨z, 2, none⟩) hz b2).setCell (p := ⟨z, 3, none⟩) hz b3⟩
/-- The token that is being filled (block g), and the one that is handed back (block z). -/
def TkSt (w : World) (t : Tk) (wr : World) : Prop :=
  wr.heap[w.heap.size + 1]? = some (.cells #[.int .i64 t.kind, .string ⟨t.text.toArray⟩, .int .i64 t.num, .int .i64 (t.at_ : Int)] 29 (0, 0)) ∧ wr.heap[w.heap.size]? = some (.cells #[.int .i64 0, .string ⟨#[]⟩, .int .i64 0, .int .i64 0] 29 (0, 0)) ∧ Nw w wr
theorem TkSt.new (w : World) (k : Nat) : TkSt w ⟨0, [], 0, k⟩ ((w.alloc (.cells #[.int .i64 0, .string ⟨#[]⟩, .int .i64 0, .int .i64 0] 29)).alloc (.cells #[.int .i64 0, .string ⟨#[]⟩, .int .i64 0, .int .i64 (k : Int)] 29)) :=
  ⟨heap_alloc2_new w _ _, ((Nw.refl _).alloc _).heap (heap_new w _), ((Nw.refl w).alloc _).alloc _⟩
theorem TkSt.nw {w wr w1 : World} {t : Tk} (h : TkSt w t wr) (hn : Nw wr w1) : TkSt w t w1 := ⟨hn.heap h.1, hn.heap h.2.1, h.2.2.trans hn⟩
theorem TkSt.set {w wr : World} {t : Tk} (h : TkSt w t wr) (kd : Int) (tx : List UInt8) : TkSt w ⟨kd, tx, t.num, t.at_⟩ ((wr.setCell ⟨w.heap.size + 1, 0, none⟩ (.int .i64 kd)).setCell ⟨w.heap.size + 1, 1, none⟩ (.string ⟨tx.toArray⟩)) := by
  have ms : Mods (· = w.heap.size + 1) wr ((wr.setCell ⟨w.heap.size + 1, 0, none⟩ (.int .i64 kd)).setCell ⟨w.heap.size + 1, 1, none⟩ (.string ⟨tx.toArray⟩)) := Mods.setCell (S := (· = w.heap.size + 1)) (Mods.setCell (S := (· = w.heap.size + 1)) (Mods.refl _ wr) (p := ⟨w.heap.size + 1, 0, none⟩) rfl _) (p := ⟨w.heap.size + 1, 1, none⟩) rfl _
  exact ⟨heap_set (heap_set h.1 0 _) 1 _, ms.heap h.2.1 (by omega), h.2.2.ofMods ms (fun q hq => by omega)⟩
theorem TkSt.kind {w wr : World} {t : Tk} (h : TkSt w t wr) (kd : Int) : TkSt w ⟨kd, t.text, t.num, t.at_⟩ (wr.setCell ⟨w.heap.size + 1, 0, none⟩ (.int .i64 kd)) := by
  have ms : Mods (· = w.heap.size + 1) wr (wr.setCell ⟨w.heap.size + 1, 0, none⟩ (.int .i64 kd)) := Mods.setCell (S := (· = w.heap.size + 1)) (Mods.refl _ wr) (p := ⟨w.heap.size + 1, 0, none⟩) rfl _
  exact ⟨heap_set h.1 0 _, ms.heap h.2.1 (by omega), h.2.2.ofMods ms (fun q hq => by omega)⟩
theorem TkSt.numb {w wr : World} {t : Tk} (h : TkSt w t wr) (n : Int) : TkSt w ⟨t.kind, t.text, n, t.at_⟩ (wr.setCell ⟨w.heap.size + 1, 2, none⟩ (.int .i64 n)) := by
  have ms : Mods (· = w.heap.size + 1) wr (wr.setCell ⟨w.heap.size + 1, 2, none⟩ (.int .i64 n)) := Mods.setCell (S := (· = w.heap.size + 1)) (Mods.refl _ wr) (p := ⟨w.heap.size + 1, 2, none⟩) rfl _
  exact ⟨heap_set h.1 2 _, ms.heap h.2.1 (by omega), h.2.2.ofMods ms (fun q hq => by omega)⟩
theorem cut_str (bs : List UInt8) (a b : Nat) : (ByteArray.mk bs.toArray).extract a b = ⟨(cut bs a b).toArray⟩ := by
  rw [ByteArray.extract_mk]
  simp [cut]
theorem cut_len (bs : List UInt8) (a b : Nat) (h : b ≤ bs.length) : (cut bs a b).length = b - a := by
  unfold cut
  rw [List.length_take, List.length_drop]; omega
/-- The token is handed back. -/
theorem TkSt.hand {w wr : World} {t : Tk} (h : TkSt w t wr) {r : Option (Tk × Nat)} {n : Int} (m : Nat) (hm : n = (m : Int)) (hr : match r with | none => m = 0 | some (t', n') => t = t' ∧ m = n') {w' : World}
    (hw : w' = ((((wr.setCell ⟨w.heap.size, 0, none⟩ (.int .i64 t.kind)).setCell ⟨w.heap.size, 1, none⟩ (.string ⟨t.text.toArray⟩)).setCell ⟨w.heap.size, 2, none⟩ (.int .i64 t.num)).setCell ⟨w.heap.size, 3, none⟩ (.int .i64 (t.at_ : Int)))) :
    w'.heap[w.heap.size]? = some (.cells #[.int .i64 t.kind, .string ⟨t.text.toArray⟩, .int .i64 t.num, .int .i64 (t.at_ : Int)] 29 (0, 0)) ∧
    HandsT w r (.returned (.tuple #[.agg #[.int .i64 t.kind, .string ⟨t.text.toArray⟩, .int .i64 t.num, .int .i64 (t.at_ : Int)], .int .i64 n])) w' := by
  subst hw hm
  have := four_heap h.2.1 h.2.2 (Nat.le_refl _) (.int .i64 t.kind) (.string ⟨t.text.toArray⟩) (.int .i64 t.num) (.int .i64 (t.at_ : Int))
  exact ⟨this.1, t, m, rfl, hr, this.2⟩
theorem HandsT.drew {w w' : World} {r : Option (Tk × Nat)} {e : Ending} (h : HandsT w r e w') : HandsT w r e w'.drew := by
  obtain ⟨t, n, h1, h2, h3⟩ := h
  exact ⟨t, n, h1, h2, h3.drew⟩
/-- A text as bytes of its own. -/
theorem conv_bytes (w : World) (s : ByteArray) (l : List UInt8) (hs : s = ⟨l.toArray⟩) (hl : l.length ≤ 1000000000) : ∃ (c : Nat) (W : World), (convert 9 37 (.string s)).run Tryd.prog w = .ok (.slice (some ⟨w.heap.size, 0, none⟩) l.length c) W ∧ Nw w W ∧ Cells W (some ⟨w.heap.size, 0, none⟩) (u8s l) := by
  subst hs
  have hsz : (ByteArray.mk l.toArray).size = l.length := by show l.toArray.size = _; simp
  refine ⟨grownCap w (ByteArray.mk l.toArray).size 0 5, Lib.bytesWorld w 5 ⟨l.toArray⟩, ?_, ?_, ?_⟩
  · rw [Lib.run_convert_string_bytes w 9 37 5 _ Tryd.underlying9 Tryd.underlying37 Tryd.underlying5, hsz]
  · refine ⟨rfl, rfl, rfl, by rw [Lib.bytesWorld_size]; omega, fun j hj => Lib.bytesWorld_at_old w _ _ j hj⟩
  · intro i hi
    rw [u8s_length] at hi
    refine ⟨w.heap.size, 0, rfl, ?_⟩
    rw [Nat.zero_add, Lib.bytesWorld_cell w _ _ i (by rw [hsz]; exact hi)]
    simp [u8s, hi]
theorem cells_keep {w : World} {g r o i : Nat} {u : Value} {vs : List Value} (h : Cells w (some ⟨r, o, none⟩) vs) (hg : g ≠ r) : Cells (w.setCell ⟨g, i, none⟩ u) (some ⟨r, o, none⟩) vs := by
  intro k hk
  obtain ⟨b, off, e, hc⟩ := h k hk
  cases e
  have ms : Mods (· = g) w (w.setCell ⟨g, i, none⟩ u) := Mods.setCell (S := (· = g)) (Mods.refl _ w) (p := ⟨g, i, none⟩) rfl u
  exact ⟨r, o, rfl, ms.cell hc (fun e => hg e.symm)⟩
theorem numOf_snoc (l : List UInt8) (k : Nat) (x : UInt8) (h : l[k]? = some x) : numOf (l.take (k + 1)) = 10 * numOf (l.take k) + ((x.toNat : Int) - 48) := by
  rw [List.take_add_one, h]; simp [numOf]
theorem numOf_bd (l : List UInt8) (hl : l.length ≤ 3) (h : ∀ x ∈ l, dg x = true) : 0 ≤ numOf l ∧ numOf l < 1000 := by
  have hb : ∀ x, dg x = true → 48 ≤ x.toNat ∧ x.toNat ≤ 57 := fun x hx => by unfold dg at hx; simpa using hx
  match l, hl with
  | [], _ => simp [numOf]
  | [a], _ => have := hb a (h a (by simp)); simp [numOf]; omega
  | [a, b], _ => have := hb a (h a (by simp)); have := hb b (h b (by simp)); simp [numOf]; omega
  | [a, b, c], _ => have := hb a (h a (by simp)); have := hb b (h b (by simp)); have := hb c (h c (by simp)); simp [numOf]; omega
theorem cut_all (P : UInt8 → Bool) (bs : List UInt8) (k : Nat) : ∀ x ∈ cut bs k (fin P bs k), P x = true := by
  unfold cut fin
  rw [Nat.add_sub_cancel_left]
  have e : (bs.drop k).take ((bs.drop k).takeWhile P).length = (bs.drop k).takeWhile P := by
    have := List.takeWhile_prefix P (l := bs.drop k)
    exact (List.prefix_iff_eq_take.1 this).symm
  rw [e]
  intro x hx
  have := List.all_takeWhile (p := P) (l := bs.drop k)
  rw [List.all_eq_true] at this
  exact this x hx
set_option maxRecDepth 20000 in
set_option maxHeartbeats 1600000 in
theorem token_word (bs : List UInt8) (k : Nat) (x : UInt8) (w : World) (hx : bs[k]? = some x) (hb : bs.length ≤ 1000000000) (hs : sm x = true) :
    Calls Tryd.prog 8 #[.string ⟨bs.toArray⟩, .int .i64 (k : Int)] w (HandsT w (tokAt bs k x)) := by
  obtain ⟨hk, _⟩ := List.getElem?_eq_some_iff.1 hx
  obtain ⟨hgb, hgx⟩ := str_at hx
  have HL := hid (fun w => letter_c x w)
  rw [hs] at HL
  have HE := hid (fun w => end_more bs k w (Nat.le_of_lt hk) hb)
  have hfl := fin_le mo bs k (Nat.le_of_lt hk)
  have HT := hid (show tokAt bs k x = if 16 < fin mo bs k - k then none else some (⟨1, cut bs k (fin mo bs k), 0, k⟩, fin mo bs k - k) by unfold tokAt; rw [if_pos hs])
  generalize fin mo bs k = f at *
  go_enter Tryd.func8, Tryd.ntmps8
  go_upto_region 4 with (first
    | (go_at_call 10; refine (HL.out _).mono ?_; rintro e w1 ⟨rfl, hn1⟩)
    | fail)
  have hst := (TkSt.new w k).nw hn1
  have HS1 := hid hst
  go_region_with ((go_at_call 11; refine (HE.out _).mono ?_; rintro e w2 ⟨rfl, hn2⟩; have g2 := hn2.heap hst.1; have c0 := heap_cell g2 0; have c1 := heap_cell g2 1; have f0 := heap_frozen g2 0; have f1 := heap_frozen g2 1; simp at c0 c1; have hst2 := (TkSt.nw hst (show Nw w1 w2 from ⟨hn2.os, hn2.tape, hn2.output, hn2.size, hn2.block⟩))))
  clear g2 c0 c1 f0 f1 hst HS1
  rw [cut_str]
  have hst3 := hst2.set 1 (cut bs k f)
  have hcl := cut_len bs k f hfl.2
  generalize cut bs k f = T at *
  generalize ((w2.setCell ⟨w.heap.size + 1, 0, none⟩ (.int .i64 1)).setCell ⟨w.heap.size + 1, 1, none⟩ (.string ⟨T.toArray⟩)) = w3 at *
  dsimp only at hst3
  have g0 := heap_cell (hst3).1 0
  have g1 := heap_cell (hst3).1 1
  have g2 := heap_cell (hst3).1 2
  have g3 := heap_cell (hst3).1 3
  have gf0 := heap_frozen (hst3).1 0
  have gf1 := heap_frozen (hst3).1 1
  have gf2 := heap_frozen (hst3).1 2
  have z0 := heap_cell (hst3).2.1 0
  have z1 := heap_cell (hst3).2.1 1
  have z2 := heap_cell (hst3).2.1 2
  have z3 := heap_cell (hst3).2.1 3
  have zf0 := heap_frozen (hst3).2.1 0
  have zf1 := heap_frozen (hst3).2.1 1
  have zf2 := heap_frozen (hst3).2.1 2
  have zf3 := heap_frozen (hst3).2.1 3
  have zlt := lt_of_heap (hst3).1
  simp at g0 g1 g2 g3 z0 z1 z2 z3
  by_cases h16 : 16 < f - k
  · have hd : decide (16 < f - k) = true := decide_eq_true h16
    have HR := hid (HT.out.trans (if_pos h16))
    have hfin := hst3.hand (r := none) (n := 0) 0 rfl rfl rfl
    clear HT
    go_wp2
    ((try simp only [Exit.inBlock, Exit.then]); refine bodyPost_ret (results_cell2 rfl _ _ _ _ _ _ _ rfl hfin.1 Tryd.underlying29 rfl (by kernel_rfl)) rfl ?_)
    rw [HR.out]
    exact hfin.2
  · have hd : decide (16 < f - k) = false := decide_eq_false h16
    have HR := hid (HT.out.trans (if_neg h16))
    clear HT
    have hfin := hst3.hand (r := some (⟨1, T, 0, k⟩, f - k)) (n := ((f - k : Nat) : Int)) (f - k) rfl ⟨rfl, rfl⟩ rfl
    go_upto_region 7 with fail
    go_region
    go_wp2
    ((try simp only [Exit.inBlock, Exit.then]); refine bodyPost_ret (results_cell2 rfl _ _ _ _ _ _ _ rfl hfin.1 Tryd.underlying29 rfl (by kernel_rfl)) rfl ?_)
    rw [HR.out]
    exact hfin.2.drew
set_option maxRecDepth 20000 in
set_option maxHeartbeats 1600000 in
theorem token_num (bs : List UInt8) (k : Nat) (x : UInt8) (w : World) (hx : bs[k]? = some x) (hb : bs.length ≤ 1000000000) (hs : sm x = false) (hdg : dg x = true) :
    Calls Tryd.prog 8 #[.string ⟨bs.toArray⟩, .int .i64 (k : Int)] w (HandsT w (tokAt bs k x)) := by
  obtain ⟨hk, _⟩ := List.getElem?_eq_some_iff.1 hx
  obtain ⟨hgb, hgx⟩ := str_at hx
  have HL := hid (fun w => letter_c x w)
  rw [hs] at HL
  have HD := hid (fun w => digit_c x w)
  rw [hdg] at HD
  have HE := hid (fun w => end_digit bs k w (Nat.le_of_lt hk) hb)
  have hfl := fin_le dg bs k (Nat.le_of_lt hk)
  have HT := hid (show tokAt bs k x = if 4 < fin dg bs k - k ∨ (x = 48 ∧ 1 < fin dg bs k - k) then none else some (⟨2, [], numOf (cut bs k (fin dg bs k)), k⟩, fin dg bs k - k) by unfold tokAt; rw [if_neg (by rw [hs]; decide), if_pos hdg])
  obtain ⟨n, hn⟩ : ∃ n, fin dg bs k = k + n := ⟨fin dg bs k - k, by omega⟩
  have HALL := hid (cut_all dg bs k)
  rw [hn] at HT HE hfl HALL
  rw [Nat.add_sub_cancel_left] at HT
  have hx48 : ((x.toNat : Int) == 48) = decide (x = 48) := by
    rw [Bool.eq_iff_iff, beq_iff_eq, decide_eq_true_iff]
    constructor
    · intro h; exact UInt8.toNat_inj.1 (by have : (48 : UInt8).toNat = 48 := rfl; omega)
    · rintro rfl; rfl
  have hkn : k + n ≤ bs.length := hfl.2
  clear hn hfl
  by_cases hbad : 4 < n ∨ (x = 48 ∧ 1 < n)
  · have HR := hid (HT.out.trans (if_pos hbad))
    clear HT
    go_enter Tryd.func8, Tryd.ntmps8
    go_upto_region 10 with (first
      | (go_at_call 10; refine (HL.out _).mono ?_; rintro e w1 ⟨rfl, hn1⟩)
      | (go_at_call 13; refine (HD.out _).mono ?_; rintro e w2 ⟨rfl, hn2⟩)
      | (go_at_call 11; refine (HE.out _).mono ?_; rintro e w3 ⟨rfl, hn3⟩)
      | fail)
    have hst3 := (TkSt.new w k).nw (hn1.trans (hn2.trans hn3))
    have g0 := heap_cell (hst3).1 0
    have g1 := heap_cell (hst3).1 1
    have g2 := heap_cell (hst3).1 2
    have g3 := heap_cell (hst3).1 3
    have gf0 := heap_frozen (hst3).1 0
    have gf1 := heap_frozen (hst3).1 1
    have gf2 := heap_frozen (hst3).1 2
    have z0 := heap_cell (hst3).2.1 0
    have z1 := heap_cell (hst3).2.1 1
    have z2 := heap_cell (hst3).2.1 2
    have z3 := heap_cell (hst3).2.1 3
    have zf0 := heap_frozen (hst3).2.1 0
    have zf1 := heap_frozen (hst3).2.1 1
    have zf2 := heap_frozen (hst3).2.1 2
    have zf3 := heap_frozen (hst3).2.1 3
    have zlt := lt_of_heap (hst3).1
    simp at g0 g1 g2 g3 z0 z1 z2 z3
    have hfin := hst3.hand (r := none) (n := 0) 0 rfl rfl rfl
    have d2 : decide (x = 48) = true ∨ 4 < n := by rcases hbad with h | h; exact Or.inr h; exact Or.inl (decide_eq_true h.1)
    by_cases h4 : 4 < n
    · have d4 : decide ((4 : Int) < (k : Int) + (n : Int) - (k : Int)) = true := decide_eq_true (by omega)
      clear hbad d2
      go_wp2
      ((try simp only [Exit.inBlock, Exit.then]); refine bodyPost_ret (results_cell2 rfl _ _ _ _ _ _ _ rfl hfin.1 Tryd.underlying29 rfl (by kernel_rfl)) rfl ?_)
      rw [HR.out]
      exact hfin.2
    · have d4 : decide ((4 : Int) < (k : Int) + (n : Int) - (k : Int)) = false := decide_eq_false (by omega)
      have h48 : x = 48 ∧ 1 < n := by rcases hbad with h | h; exact absurd h h4; exact h
      have d48 : decide (x = 48) = true := decide_eq_true h48.1
      rw [d48] at hx48
      have d1 : decide ((1 : Int) < (k : Int) + (n : Int) - (k : Int)) = true := decide_eq_true (by omega)
      clear hbad d2 h48
      go_wp2
      ((try simp only [Exit.inBlock, Exit.then]); refine bodyPost_ret (results_cell2 rfl _ _ _ _ _ _ _ rfl hfin.1 Tryd.underlying29 rfl (by kernel_rfl)) rfl ?_)
      rw [HR.out]
      exact hfin.2
  · have HR := hid (HT.out.trans (if_neg hbad))
    clear HT
    have d4 : decide ((4 : Int) < (k : Int) + (n : Int) - (k : Int)) = false := decide_eq_false (by omega)
    go_enter Tryd.func8, Tryd.ntmps8
    go_upto_region 10 with (first
      | (go_at_call 10; refine (HL.out _).mono ?_; rintro e w1 ⟨rfl, hn1⟩)
      | (go_at_call 13; refine (HD.out _).mono ?_; rintro e w2 ⟨rfl, hn2⟩)
      | (go_at_call 11; refine (HE.out _).mono ?_; rintro e w3 ⟨rfl, hn3⟩)
      | fail)
    have hst3 := (TkSt.new w k).nw (hn1.trans (hn2.trans hn3))
    have g0 := heap_cell (hst3).1 0
    have g1 := heap_cell (hst3).1 1
    have g2 := heap_cell (hst3).1 2
    have g3 := heap_cell (hst3).1 3
    have gf0 := heap_frozen (hst3).1 0
    have gf1 := heap_frozen (hst3).1 1
    have gf2 := heap_frozen (hst3).1 2
    have z0 := heap_cell (hst3).2.1 0
    have z1 := heap_cell (hst3).2.1 1
    have z2 := heap_cell (hst3).2.1 2
    have z3 := heap_cell (hst3).2.1 3
    have zf0 := heap_frozen (hst3).2.1 0
    have zf1 := heap_frozen (hst3).2.1 1
    have zf2 := heap_frozen (hst3).2.1 2
    have zf3 := heap_frozen (hst3).2.1 3
    have zlt := lt_of_heap (hst3).1
    simp at g0 g1 g2 g3 z0 z1 z2 z3
    have hn4 : n ≤ 4 := by omega
    have hor : x = 48 → n ≤ 1 := fun h => by
      rcases Nat.lt_or_ge 1 n with h2 | h2
      · exact absurd (Or.inr ⟨h, h2⟩) hbad
      · exact h2
    clear hbad
    by_cases h48 : x = 48
    · have d48 : decide (x = 48) = true := decide_eq_true h48
      have hn1' := hor h48
      have d1 : decide ((1 : Int) < (k : Int) + (n : Int) - (k : Int)) = false := decide_eq_false (by omega)
      rw [d48] at hx48
      clear h48 hor
      have hk3 := hst3.kind 2
      go_upto_region 13 with fail
      generalize w3.setCell ⟨w.heap.size + 1, 0, none⟩ (.int .i64 2) = w4 at *
      try dsimp only at hk3
      have hTl : (cut bs k (k + n)).length = n := by rw [cut_len _ _ _ hkn]; omega
      obtain ⟨c5, w5, hcv, hn5, hcs5⟩ := conv_bytes w4 ((ByteArray.mk bs.toArray).extract k (k + n)) (cut bs k (k + n)) (cut_str bs k (k + n)) (by omega)
      rw [hTl] at hcv
      have hk5 := hk3.nw hn5
      have hg4 : w.heap.size + 1 < w4.heap.size := lt_of_heap hk3.1
      generalize cut bs k (k + n) = T at *
      have HTl := hid hTl
      have HC := hid hcs5
      clear hTl hcs5 g0 g1 g2 g3 gf0 gf1 gf2 z0 z1 z2 z3 zf0 zf1 zf2 zf3 zlt hst3 d4
      go_wp2
      go_loopw [10, 64] (fun _ i wr => ∃ j : Nat, j ≤ n ∧ i = .int .i64 j ∧ TkSt w ⟨2, [], numOf (T.take j), k⟩ wr ∧ Cells wr (some ⟨w4.heap.size, 0, none⟩) (u8s T)) (fun _ i _ => n - (intOf i).toNat)
      case atStart => exact ⟨0, Nat.zero_le _, rfl, hk5, HC.out⟩
      case round =>
        obtain ⟨j, hj, rfl, hst, hce⟩ := hrel
        have HST := hid hst
        have hg0 := heap_cell hst.1 2
        have hgf := heap_frozen hst.1 2
        have hgl := lt_of_heap hst.1
        simp at hg0
        by_cases hlt : j < n
        · have hdj : decide (j < n) = true := decide_eq_true hlt
          obtain ⟨bx, ox, y, e, hcell, hy, hly⟩ := u8s_cell hce j (by rw [HTl.out]; exact hlt)
          cases e
          simp only [Nat.zero_add] at hcell
          have HS := hid (numOf_snoc T j y hy.out)
          have hdy := HALL.out y (List.mem_of_getElem? hy.out)
          have hb1 : 48 ≤ y.toNat ∧ y.toNat ≤ 57 := by unfold dg at hdy; simpa using hdy
          have hbd := numOf_bd (T.take j) (by rw [List.length_take]; omega) (fun z hz => HALL.out z (List.mem_of_mem_take hz))
          generalize numOf (T.take j) = A at *
          obtain ⟨b1, b2⟩ := hb1
          obtain ⟨b3, b4⟩ := hbd
          have b1' : (48 : Int) ≤ (y.toNat : Int) := by omega
          have HCE := hid hce
          clear hdy hy hst hce
          go_wp2
          go_roundw
          case rel => exact ⟨j + 1, by omega, by go_num, by rw [HS.out]; exact HST.out.numb _, cells_keep HCE.out (by omega)⟩
          case measure => simp [intOf]; omega
        · obtain rfl : j = n := by omega
          have hdj : decide (j < j) = false := decide_eq_false (by omega)
          have hst4 := HST.out
          rw [List.take_of_length_le (by rw [HTl.out]; exact Nat.le_refl _)] at hst4
          clear hg0 hgf hgl hst HST
          have g0 := heap_cell (hst4).1 0
          have g1 := heap_cell (hst4).1 1
          have g2 := heap_cell (hst4).1 2
          have g3 := heap_cell (hst4).1 3
          have gf0 := heap_frozen (hst4).1 0
          have gf1 := heap_frozen (hst4).1 1
          have gf2 := heap_frozen (hst4).1 2
          have z0 := heap_cell (hst4).2.1 0
          have z1 := heap_cell (hst4).2.1 1
          have z2 := heap_cell (hst4).2.1 2
          have z3 := heap_cell (hst4).2.1 3
          have zf0 := heap_frozen (hst4).2.1 0
          have zf1 := heap_frozen (hst4).2.1 1
          have zf2 := heap_frozen (hst4).2.1 2
          have zf3 := heap_frozen (hst4).2.1 3
          have zlt := lt_of_heap (hst4).1
          simp at g0 g1 g2 g3 z0 z1 z2 z3
          have hfin := hst4.hand (r := some (⟨2, [], numOf T, k⟩, j)) (n := (k : Int) + (j : Int) - (k : Int)) j (by omega) ⟨rfl, rfl⟩ rfl
          go_wp2
          ((try simp only [Exit.inBlock, Exit.then]); refine bodyPost_ret (results_cell2 rfl _ _ _ _ _ _ _ rfl hfin.1 Tryd.underlying29 rfl (by kernel_rfl)) rfl ?_)
          rw [HR.out]
          exact hfin.2
    · have d48 : decide (x = 48) = false := decide_eq_false h48
      rw [d48] at hx48
      clear h48 hor
      have hk3 := hst3.kind 2
      go_upto_region 13 with fail
      generalize w3.setCell ⟨w.heap.size + 1, 0, none⟩ (.int .i64 2) = w4 at *
      try dsimp only at hk3
      have hTl : (cut bs k (k + n)).length = n := by rw [cut_len _ _ _ hkn]; omega
      obtain ⟨c5, w5, hcv, hn5, hcs5⟩ := conv_bytes w4 ((ByteArray.mk bs.toArray).extract k (k + n)) (cut bs k (k + n)) (cut_str bs k (k + n)) (by omega)
      rw [hTl] at hcv
      have hk5 := hk3.nw hn5
      have hg4 : w.heap.size + 1 < w4.heap.size := lt_of_heap hk3.1
      generalize cut bs k (k + n) = T at *
      have HTl := hid hTl
      have HC := hid hcs5
      clear hTl hcs5 g0 g1 g2 g3 gf0 gf1 gf2 z0 z1 z2 z3 zf0 zf1 zf2 zf3 zlt hst3 d4
      go_wp2
      go_loopw [10, 64] (fun _ i wr => ∃ j : Nat, j ≤ n ∧ i = .int .i64 j ∧ TkSt w ⟨2, [], numOf (T.take j), k⟩ wr ∧ Cells wr (some ⟨w4.heap.size, 0, none⟩) (u8s T)) (fun _ i _ => n - (intOf i).toNat)
      case atStart => exact ⟨0, Nat.zero_le _, rfl, hk5, HC.out⟩
      case round =>
        obtain ⟨j, hj, rfl, hst, hce⟩ := hrel
        have HST := hid hst
        have hg0 := heap_cell hst.1 2
        have hgf := heap_frozen hst.1 2
        have hgl := lt_of_heap hst.1
        simp at hg0
        by_cases hlt : j < n
        · have hdj : decide (j < n) = true := decide_eq_true hlt
          obtain ⟨bx, ox, y, e, hcell, hy, hly⟩ := u8s_cell hce j (by rw [HTl.out]; exact hlt)
          cases e
          simp only [Nat.zero_add] at hcell
          have HS := hid (numOf_snoc T j y hy.out)
          have hdy := HALL.out y (List.mem_of_getElem? hy.out)
          have hb1 : 48 ≤ y.toNat ∧ y.toNat ≤ 57 := by unfold dg at hdy; simpa using hdy
          have hbd := numOf_bd (T.take j) (by rw [List.length_take]; omega) (fun z hz => HALL.out z (List.mem_of_mem_take hz))
          generalize numOf (T.take j) = A at *
          obtain ⟨b1, b2⟩ := hb1
          obtain ⟨b3, b4⟩ := hbd
          have b1' : (48 : Int) ≤ (y.toNat : Int) := by omega
          have HCE := hid hce
          clear hdy hy hst hce
          go_wp2
          go_roundw
          case rel => exact ⟨j + 1, by omega, by go_num, by rw [HS.out]; exact HST.out.numb _, cells_keep HCE.out (by omega)⟩
          case measure => simp [intOf]; omega
        · obtain rfl : j = n := by omega
          have hdj : decide (j < j) = false := decide_eq_false (by omega)
          have hst4 := HST.out
          rw [List.take_of_length_le (by rw [HTl.out]; exact Nat.le_refl _)] at hst4
          clear hg0 hgf hgl hst HST
          have g0 := heap_cell (hst4).1 0
          have g1 := heap_cell (hst4).1 1
          have g2 := heap_cell (hst4).1 2
          have g3 := heap_cell (hst4).1 3
          have gf0 := heap_frozen (hst4).1 0
          have gf1 := heap_frozen (hst4).1 1
          have gf2 := heap_frozen (hst4).1 2
          have z0 := heap_cell (hst4).2.1 0
          have z1 := heap_cell (hst4).2.1 1
          have z2 := heap_cell (hst4).2.1 2
          have z3 := heap_cell (hst4).2.1 3
          have zf0 := heap_frozen (hst4).2.1 0
          have zf1 := heap_frozen (hst4).2.1 1
          have zf2 := heap_frozen (hst4).2.1 2
          have zf3 := heap_frozen (hst4).2.1 3
          have zlt := lt_of_heap (hst4).1
          simp at g0 g1 g2 g3 z0 z1 z2 z3
          have hfin := hst4.hand (r := some (⟨2, [], numOf T, k⟩, j)) (n := (k : Int) + (j : Int) - (k : Int)) j (by omega) ⟨rfl, rfl⟩ rfl
          go_wp2
          ((try simp only [Exit.inBlock, Exit.then]); refine bodyPost_ret (results_cell2 rfl _ _ _ _ _ _ _ rfl hfin.1 Tryd.underlying29 rfl (by kernel_rfl)) rfl ?_)
          rw [HR.out]
          exact hfin.2
end Lx
end Go.Proofs.YtfbokhodcgpppaaDoor
