/- SourcePlays: for every input of bulk at most 1048576 the law returns true, and each argument reads as it did. -/
import Derived.Test.YtkaljbhedmlglaaSourceLaws
import Derived.Test.YtkaljbhedmlglaaRSource
namespace Go.Proofs.Ytkaljbhedmlglaa
open Go.ChangeShapes Go.WideShapes Go.ChangeAt Go.RowKit
open Go.ChangeMaps (open_string shut_string)
namespace Src
def acts (l : List (Int × Int)) : List (Value × Value) := l.map fun x => (.int .i64 x.1, .int .i64 x.2)
/-- What holds of both sources at a round's head. -/
structure Both (w w1 : World) (F F' : Nat → Prop) (a a' : Nat) (b : List UInt8) (sc : List Int) (r n k : Nat) : Prop where
  p : Is w1 F a b sc r n
  q : RIs w1 F' a' b sc r n
  nw : Nw w w1
  le : n ≤ k
theorem read_n (b : List UInt8) (sc : List Int) (r n : Nat) (at_ most : Int) : (read b sc r n at_ most).2.2 ≤ n + 1 := by
  unfold read; split; · simp
  split; · simp
  split <;> simp
set_option maxRecDepth 20000 in
set_option maxHeartbeats 2000000 in
theorem plays_walk (bv sv lv : Value) (b : List UInt8) (sc : List Int) (fault : Int) (l : List (Int × Int)) (w : World) (hb : Bytes w bv b) (hs : Sl w sv (i64s sc)) (hl : Sl2 w lv (acts l)) (hlb : b.length ≤ 100000000) (hls : sc.length ≤ 100000000) (hll : l.length ≤ 100000000)
    (hx : ∀ x ∈ sc, -9223372036854775808 ≤ x ∧ x ≤ 9223372036854775807) (hm : ∀ x ∈ l, x.2 ≤ 9223372036854775807) :
    Calls Try.prog 8 #[bv, sv, .int .i64 fault, lv] w fun e w' => e = .returned (.bool true) ∧ Nw w w' := by
  obtain ⟨pb, capb, eb, _⟩ := hb.open
  subst eb
  obtain ⟨p, cap, rfl, hcap, hmx, hnil, hc⟩ := hl.open (n := l.length) (by simp [acts])
  go_enter Try.func8, Try.ntmps8
  go_wp2_with (first
    | (go_at_call 21; refine (new_c _ _ _ _ _ _ hb hs (by omega) (by omega)).mono ?_; rintro e w1 ⟨a, rfl, his1, ha, hlt, hn1⟩)
    | (go_at_call 22; refine (rnew_c (· < w.heap.size) _ _ _ _ _ _ (hb.nw hn1) (hs.nw hn1) hb.lt hs.lt).mono ?_; rintro e w2 ⟨a', rfl, his2, ha', hlt', hn2⟩))
  have hnw : Nw w w2 := hn1.trans hn2
  have haa : a < a' := by omega
  have hwa' : w.heap.size ≤ a' := by omega
  have hB : ∃ n, Both w w2 (fun k => w.heap.size ≤ k ∧ k < a) (· < w.heap.size) a a' b sc (rt b.length fault) n 0 := ⟨0, his1.nw hn2, his2, hnw, Nat.le_refl _⟩
  have hrt := rt_le b.length fault
  generalize rt b.length fault = r at *
  clear his1 his2 hn1 hn2 hnw hlt hlt' ha'
  go_loopw [12, 13, 14, 15, 16, 27] (fun _ _ _ _ _ i wr => ∃ k : Nat, k ≤ l.length ∧ i = .int .i64 k ∧ ∃ n, Both w wr (fun k => w.heap.size ≤ k ∧ k < a) (· < w.heap.size) a a' b sc r n k) (fun _ _ _ _ _ i _ => l.length - (intOf i).toNat)
  case atStart => exact ⟨0, Nat.zero_le _, rfl, hB⟩
  case round =>
    obtain ⟨k, hk, rfl, n, hBoth⟩ := hrel
    by_cases hlt : k < l.length
    · obtain ⟨lb, lo, rfl, k0, k1⟩ := hc k (by simp [acts]; omega)
      have e0 : (acts l)[k]'(by simp [acts]; omega) = (.int .i64 l[k].1, .int .i64 l[k].2) := by simp [acts]
      rw [e0] at k0 k1
      have hm1 := hm _ (List.getElem_mem hlt)
      clear e0 hB hc
      generalize l[k].1 = at_ at *
      generalize l[k].2 = most at *
      have k0' := hBoth.nw.cell k0
      have k1' := hBoth.nw.cell k1
      clear k0 k1
      have hp := hBoth.p
      have hq := hBoth.q
      have hnr := hBoth.nw
      have hle := hBoth.le
      have hwr := hnr.size
      have hla : a < wr.heap.size := by obtain ⟨_, _, h, _⟩ := hp; exact lt_of_heap h
      have hla' : a' < wr.heap.size := by obtain ⟨_, _, h, _⟩ := hq; exact lt_of_heap h
      have hnx := read_n b sc r n at_ most
      have R1 := fun W h => read_c (fun k => w.heap.size ≤ k ∧ k < a) a b sc r n at_ most W h (by omega) hm1 hrt (by omega) (by omega) hx
      have R2 := fun W h => rread_c (· < w.heap.size) a' b sc r n at_ most W h (by omega) hm1 hrt (by omega) (by omega) hx (by omega)
      generalize hX : read b sc r n at_ most = X at *
      obtain ⟨x, z, n'⟩ := X
      have HR1 := hid R1
      have HR2 := hid R2
      clear R1 R2 hX hBoth
      dsimp only at hnx
      go_upto_region 6 with (go_at_call 23; refine (HR1.out _ (hp.nw ((Nw.refl wr).alloc _))).mono ?_; rintro e w3 ⟨v3, rfl, hown3, his3, hm3⟩)
      have hb3 := hm3.heap (heap_new wr (.cells #[.int .i64 at_, .int .i64 most] 42)) (by omega)
      have j0 : w3.cell? ⟨wr.heap.size, 0, none⟩ = _ := heap_cell hb3 0
      have j1 : w3.cell? ⟨wr.heap.size, 1, none⟩ = _ := heap_cell hb3 1
      simp at j0 j1
      have hq3 : RIs w3 (· < w.heap.size) a' b sc r n := (hq.nw ((Nw.refl wr).alloc _)).mods hm3 (by omega) (fun k hk => by omega)
      have hn3 : Nw w w3 := (hnr.alloc _).ofMods hm3 (fun k hk => by omega)
      clear hb3 hq hp
      go_upto_region 7 with (go_at_call 24; refine (HR2.out _ hq3).mono ?_; rintro e w4 ⟨v4, rfl, hb4, his4, hm4⟩)
      have his4' := his3.mods hm4 (by omega) (fun k hk => by omega)
      have hn4 : Nw w w4 := hn3.ofMods hm4 (fun k hk => by omega)
      have hs3 := str_later (hown3.mods hm4 (fun k hk e => by simp at hk; omega)).sl
      have hs4 := str_later hb4
      have hpa : w4.cell? ⟨a', 3, none⟩ = some (.int .i64 n') := by obtain ⟨_, _, h, _⟩ := his4; have := heap_cell h 3; simpa using this
      have hpl := fun W (h : Nw w4 W) => h.cell hpa
      clear hq3 his3 hown3 hm3 hm4 hb4 hpa j0 j1 k0' k1' hn3
      refine wp_region_says [Vl v3, Vl (.string ⟨x.toArray⟩), Vl v4, Vl (.string ⟨x.toArray⟩), Vl (.bool false), Vl (.bool false), Vl (.int .i64 z), Vl (.int .i64 z), Vl (.bool false), Vl (.bool false), Vl (.bool false),
        Vl (.pointer (some ⟨a, 0, none⟩)), Vl (.int .i64 n'), Vl (.pointer (some ⟨a', 0, none⟩)), Vl (.pointer (some ⟨a', 0, none⟩)), Vl (.pointer (some ⟨a', 3, none⟩)), Vl (.int .i64 n'), Vl (.bool false), Vl (.bool false), Vl (.bool false),
        Vl (.pointer (some ⟨a, 0, none⟩)), Vl (.int .i64 b.length), Vl (.slice pb b.length capb), Vl (.int .i64 b.length), Vl (.bool false), Vl (.bool false)] (by kernel_rfl) (by kernel_rfl) (by simp [StabL]) ?phi_steps ?phi_end
      case phi_steps =>
        repeat' (first | exact StepsOk.nil | refine StepsOk.cons ?_ ?_)
        all_goals
          intro x wR hR hd K hK
          simp only [fill, Act.put, List.setIfInBounds_toArray, List.set_cons_zero, List.set_cons_succ, Nat.reduceAdd, says, List.getD_cons_zero, List.getD_cons_succ, Vl] at hK ⊢
          try simp [Region.binds, says, Vl] at hd
          try have hs := str_ok hd
          try simp only [hd] at hK ⊢
          first | (refine wanted_yes ?_ ?_; rfl) | (refine wanted_no ?_ ?_; rfl)
          go_wp2_with (first 
        | (go_at_call 26; refine (len_c _ _ _ _ _ _ _ (his4'.nw hR)).mono ?_; rintro e w' ⟨rfl, rfl⟩)
        | (go_at_call 25; refine (reads_c _ _ _ _ _ _ _ (his4'.nw hR)).mono ?_; rintro e w' ⟨rfl, rfl⟩))
        all_goals (try simp only [hd])
        all_goals (refine hK _ _ ?_ ?_ <;> first | exact Nw.refl _ | assumption | exact rfl)
      intro x wR hR hx
      simp only [fill, Act.put, List.setIfInBounds_toArray, List.set_cons_zero, List.set_cons_succ, Nat.reduceAdd]
      have h25 := hx 25 (by decide)
      simp only [says, List.getD_cons_zero, List.getD_cons_succ, Vl] at h25
      try simp only [h25]
      clear hx
      go_wp2
      go_roundw
      case rel => exact ⟨k + 1, by omega, by go_num, n', his4'.nw hR, his4.nw hR, hn4.trans hR, by omega⟩
      case measure => simp [intOf]; omega
    · go_wp2_with (go_at_call 27; refine (awake_c _).mono ?_; rintro e w5 ⟨rfl, hn5⟩)
      go_ret
      exact ⟨rfl, hBoth.nw.trans hn5⟩
end Src
namespace LSourcePlays
theorem contract (H : Type) (enc : TypeId × Value → H) (W : World) (base : Nat) (args : Array Value) (ds gs : List (DataW H)) (before : List MemPlace)
    (hval : ∀ (j : Nat) t v, Try.f8.params[j]? = some t → args[j]? = some v → Value.okWide Try.prog W .any base t v)
    (hW : DataW.Whole enc Try.prog Try.f8.params.toList Rows.sourcePlaysSpec.vars false W args.toList ds gs before) (hk : Rows.uptoSmall H (ds ++ gs) = true) :
    Calls Try.prog 8 args W fun e W' => ∃ v, e = .returned v ∧ Rows.sourcePlaysSpec.post enc Try.prog Try.f8 false true false false W args v W' := by
  have hA1 := hW
  obtain ⟨p, q, hA, hV, _, _, _⟩ := hA1
  obtain ⟨rfl, _⟩ := trodVars_none hV
  rw [Try.params8] at hA hval
  obtain ⟨v0, vs0, d0, ds0, p0, q0, hargs, rfl, _, h0, r0⟩ := trodAll_cons hA
  obtain ⟨v1, vs1, d1, ds1, p1, q1, rfl, rfl, _, h1, r1⟩ := trodAll_cons r0
  obtain ⟨v2, vs2, d2, ds2, p2, q2, rfl, rfl, _, h2, r2⟩ := trodAll_cons r1
  obtain ⟨v3, vs3, d3, ds3, p3, q3, rfl, rfl, _, h3, r3⟩ := trodAll_cons r2
  obtain ⟨rfl, rfl, _⟩ := trodAll_nil r3
  obtain rfl : args = #[v0, v1, v2, v3] := by cases args; simp_all
  have hk0 := hk
  simp only [List.append_nil] at hk0
  have hk1 : Rows.uptoBulkAll [d0, d1, d2, d3] ≤ 1048576 := of_decide_eq_true hk0
  simp only [Rows.uptoBulkAll] at hk1
  obtain ⟨b0, hb0, hl0⟩ := open_bytes Try.underlying23 Try.underlying5 (by kernel_rfl) (hval 0 23 v0 rfl rfl) h0
  obtain ⟨b1, hb1, hx1, hl1⟩ := open_int64s Try.underlying35 Try.underlying3 (by kernel_rfl) (hval 1 35 v1 rfl rfl) h1
  obtain ⟨n2, rfl, e2, _, wf2⟩ := open_int Try.underlying3 (hval 2 3 v2 rfl rfl) h2
  have bd2 := bounds_i64 wf2
  obtain ⟨b3, hb3, hm3, hl3⟩ := open_int_pairs Try.underlying36 Try.underlying42 (by kernel_rfl) rfl rfl (by kernel_rfl) (by kernel_rfl) (by kernel_rfl) (by kernel_rfl) (hval 3 36 v3 rfl rfl) h3
  refine (Src.plays_walk _ _ _ b0 b1 _ b3 _ hb0 hb1 hb3 (by omega) (by omega) (by omega) hx1 (fun x h => (hm3 x h).2.2)).mono fun e W' ⟨he, hb⟩ => ⟨_, he, law_post 4 laidOut hW rfl (by rw [Try.params8]; intro t ht; simp at ht; rcases ht with rfl | rfl | rfl | rfl <;> exact ⟨by kernel_rfl, of_decide_eq_true (by kernel_rfl)⟩) (by kernel_rfl) Try.underlying4 rfl hb⟩
set_option maxRecDepth 100000 in
theorem lifted (os : Os) (started : os.Started) (H : Type) (enc : TypeId × Value → H) (F : Stop.Interp) :
    ReturnsInHanded {} Try.checked os 8 .any ((Rows.OpenSpec.upto Rows.sourcePlaysSpec).pre6 enc Try.prog Try.f8 Rows.sourcePlaysUptoRow.domain false) (((Rows.OpenSpec.upto Rows.sourcePlaysSpec).at F).post enc Try.prog Try.f8 false true false false) := by
  refine returnsInHanded_of_cond (C := Try.checked) (s := Rows.OpenSpec.upto Rows.sourcePlaysSpec) (k := Rows.uptoSmall) rfl own started (by kernel_rfl) Try.func8
    (OpenSpec.witness (enc := enc) (C := Try.checked) (s := Rows.OpenSpec.upto Rows.sourcePlaysSpec) (k := Rows.uptoSmall) rfl false ⟨#[], #[.slice none 0 0, .slice none 0 0, .int .i64 0, .slice none 0 0], []⟩ 8 (by kernel_rfl) (by kernel_rfl) (by kernel_rfl)
      (x := ([.nil, .nil, .lit (.int .i64 0), .nil], [], [])) (by kernel_rfl) rfl (by kernel_rfl)) ?_
  intro W base args ds gs before hval hW _ hk _
  exact contract H enc W base args ds gs before hval hW hk
theorem proved : Rows.SourcePlaysUptoSaid :=
  OpenClaim.holds_of_cond 8 Try.f8 rfl rfl rfl rfl rfl rfl rfl ⟨rfl, rfl, rfl, rfl, rfl⟩ rfl rfl rfl rfl rfl (by kernel_rfl) Try.func8 (by kernel_rfl)
    (of_decide_eq_true (by kernel_rfl)) (by unfold Func.isWrapper; first | (rw [if_pos (by decide +kernel)]; kernel_rfl) | (rw [if_neg (by decide +kernel)]; exact ⟨rfl, rfl⟩))
    (fun os started H enc _ F => lifted os started H enc F)
end LSourcePlays

end Go.Proofs.Ytkaljbhedmlglaa
