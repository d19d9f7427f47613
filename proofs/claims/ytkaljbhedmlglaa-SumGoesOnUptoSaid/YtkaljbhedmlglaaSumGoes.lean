/- SumGoesOn: for every input of bulk at most 1048576 the law returns true, and each argument reads as it did. -/
import Derived.Test.YtkaljbhedmlglaaSumLaws
import Derived.Test.YtkaljbhedmlglaaPuts
namespace Go.Proofs.Ytkaljbhedmlglaa
open Go.ChangeShapes Go.WideShapes Go.ChangeAt Go.RowKit
open Go.ChangeMaps (open_string shut_string)
namespace Sum
/-! ### A sum goes on -/
theorem start_fin (p : Int × Int) (h : 0 ≤ p.1 ∧ p.1 < 65521 ∧ 0 ≤ p.2 ∧ p.2 < 65521) : start (fin p) = p := by
  obtain ⟨a, c⟩ := p
  simp only [start, fin, Prod.mk.injEq] at *
  omega
theorem more_append (n : Int) (a b : List UInt8) : more (more n a) b = more n (a ++ b) := by
  simp only [more]
  rw [start_fin _ (run_bd _ _ (start_bd n))]
  simp [run]
theorem more_none (n : Int) (a : List UInt8) : more (more n a) [] = more n a := by rw [more_append, List.append_nil]
theorem right_put (l : List UInt8) : right (put l) = some l := by
  have h : (put l).length = l.length + 4 := by simp [put, be4]
  have e : (put l).take l.length = l := by simp [put]
  simp [right, h, e]
set_option maxRecDepth 20000 in
set_option maxHeartbeats 1000000 in
theorem goes_walk (va vb vc : Value) (a b c : List UInt8) (w : World) (ha : Bytes w va a) (hb : Bytes w vb b) (hc : Bytes w vc c) (hn : a.length + b.length + c.length ≤ 1000000000) :
    Calls Try.prog 7 #[va, vb, vc] w fun e w' => e = .returned (.bool true) ∧ Nw w w' := by
  have hm1 := more_append 1 a b
  have hm2 := more_append 1 (a ++ b) c
  have hm3 := more_none 1 a
  have hr := right_put (a ++ b ++ c)
  have hbd := more_bd 1 a
  have hbd2 := more_bd 1 (a ++ b)
  have HL : (a ++ b ++ c).length ≤ 1000000000 := by simp only [List.length_append]; omega
  have HP : (put (a ++ b ++ c)).length ≤ 1073741824 := by simp only [put, be4, List.length_append] at *; simp; omega
  rw [List.append_assoc] at hm2
  go_enter Try.func7, Try.ntmps7
  go_wp2_with (first
    | (at_builtin; refine app1 rfl _ _ _ rfl _ _ _ Try.underlying23 info_u8 rfl (by decide) ((Nw.refl w).alloc _) (Own.new w _ _ [] (Nat.le_refl _) (Nat.zero_le _)) rfl (ha.nw ((Nw.refl w).alloc _)) rfl (u8s_one _) ?_ ?_; rotate_left; (simp only [u8s_length, List.length_append, List.length_nil, List.length_cons, List.length_map]; omega); intro v1 w1 hown1 hg1 hn1)
    | (at_builtin; refine app1 rfl _ _ _ rfl _ _ _ Try.underlying23 info_u8 rfl (by decide) (hn1) (hown1) rfl (hb.nw hn1) rfl (u8s_one _) ?_ ?_; rotate_left; (simp only [u8s_length, List.length_append, List.length_nil, List.length_cons, List.length_map]; omega); intro v2 w2 hown2 hg2 hn2; clear hown1)
    | (at_builtin; refine app1 rfl _ _ _ rfl _ _ _ Try.underlying23 info_u8 rfl (by decide) (hn2) (hown2) rfl (hc.nw hn2) rfl (u8s_one _) ?_ ?_; rotate_left; (simp only [u8s_length, List.length_append, List.length_nil, List.length_cons, List.length_map]; omega); intro v3 w3 hown3 hg3 hn3; have hall : Bytes w3 v3 (a ++ b ++ c) := (by have := hown3.sl; simpa [Bytes, u8s_append] using this); clear hown2 hown3)
    | (go_at_call 19; refine (put_c _ _ _ hall (by omega)).mono ?_; rintro e w4 ⟨v4, rfl, hown4, hn4⟩)
    | (go_at_call 17; refine (right_c _ _ _ hown4.sl HP).mono ?_; rintro e w5 ⟨v5, rfl, hb5, hn5⟩; rw [hr] at hb5 ⊢; have hs5 := str_later hb5; have hs3 := str_ok (hall.nw (hn4.trans hn5)))
    | (go_at_call 12; refine (sum_c _ _ _ (by first | assumption | exact Bytes.nil _ | (apply Bytes.nw; assumption; repeat (first | assumption | exact Nw.refl _ | refine Nw.alloc ?_ _ | refine Nw.drew ?_ | (refine Nw.trans ?_ (by assumption)))))).mono ?_; rintro e w' ⟨rfl, rfl⟩)
    | (go_at_call 14; refine (more_c _ _ _ _ (by omega) (by omega) (by first | assumption | exact Bytes.nil _ | (apply Bytes.nw; assumption; repeat (first | assumption | exact Nw.refl _ | refine Nw.alloc ?_ _ | refine Nw.drew ?_ | (refine Nw.trans ?_ (by assumption)))))).mono ?_; rintro e w' ⟨rfl, rfl⟩)
    | (go_at_call 16; refine (awake_c _).mono ?_; rintro e w5 ⟨rfl, hn6⟩))
  go_ret
  exact ⟨rfl, (by repeat (first | assumption | exact Nw.refl _ | refine Nw.alloc ?_ _ | refine Nw.drew ?_ | (refine Nw.trans ?_ (by assumption))))⟩
end Sum
namespace LSumGoesOn
theorem contract (H : Type) (enc : TypeId × Value → H) (W : World) (base : Nat) (args : Array Value) (ds gs : List (DataW H)) (before : List MemPlace)
    (hval : ∀ (j : Nat) t v, Try.f7.params[j]? = some t → args[j]? = some v → Value.okWide Try.prog W .any base t v)
    (hW : DataW.Whole enc Try.prog Try.f7.params.toList Rows.sumGoesOnSpec.vars false W args.toList ds gs before) (hk : Rows.uptoSmall H (ds ++ gs) = true) :
    Calls Try.prog 7 args W fun e W' => ∃ v, e = .returned v ∧ Rows.sumGoesOnSpec.post enc Try.prog Try.f7 false true false false W args v W' := by
  have hA1 := hW
  obtain ⟨p, q, hA, hV, _, _, _⟩ := hA1
  obtain ⟨rfl, _⟩ := trodVars_none hV
  rw [Try.params7] at hA hval
  obtain ⟨v0, vs0, d0, ds0, p0, q0, hargs, rfl, _, h0, r0⟩ := trodAll_cons hA
  obtain ⟨v1, vs1, d1, ds1, p1, q1, rfl, rfl, _, h1, r1⟩ := trodAll_cons r0
  obtain ⟨v2, vs2, d2, ds2, p2, q2, rfl, rfl, _, h2, r2⟩ := trodAll_cons r1
  obtain ⟨rfl, rfl, _⟩ := trodAll_nil r2
  obtain rfl : args = #[v0, v1, v2] := by cases args; simp_all
  have hk0 := hk
  simp only [List.append_nil] at hk0
  have hk1 : Rows.uptoBulkAll [d0, d1, d2] ≤ 1048576 := of_decide_eq_true hk0
  simp only [Rows.uptoBulkAll] at hk1
  obtain ⟨b0, hb0, hl0⟩ := open_bytes Try.underlying23 Try.underlying5 (by kernel_rfl) (hval 0 23 v0 rfl rfl) h0
  obtain ⟨b1, hb1, hl1⟩ := open_bytes Try.underlying23 Try.underlying5 (by kernel_rfl) (hval 1 23 v1 rfl rfl) h1
  obtain ⟨b2, hb2, hl2⟩ := open_bytes Try.underlying23 Try.underlying5 (by kernel_rfl) (hval 2 23 v2 rfl rfl) h2
  refine (Sum.goes_walk _ _ _ b0 b1 b2 _ hb0 hb1 hb2 (by omega)).mono fun e W' ⟨he, hb⟩ => ⟨_, he, law_post 4 laidOut hW rfl (by rw [Try.params7]; intro t ht; simp at ht; rcases ht with rfl <;> exact ⟨by kernel_rfl, of_decide_eq_true (by kernel_rfl)⟩) (by kernel_rfl) Try.underlying4 rfl hb⟩
set_option maxRecDepth 100000 in
theorem lifted (os : Os) (started : os.Started) (H : Type) (enc : TypeId × Value → H) (F : Stop.Interp) :
    ReturnsInHanded {} Try.checked os 7 .any ((Rows.OpenSpec.upto Rows.sumGoesOnSpec).pre6 enc Try.prog Try.f7 Rows.sumGoesOnUptoRow.domain false) (((Rows.OpenSpec.upto Rows.sumGoesOnSpec).at F).post enc Try.prog Try.f7 false true false false) := by
  refine returnsInHanded_of_cond (C := Try.checked) (s := Rows.OpenSpec.upto Rows.sumGoesOnSpec) (k := Rows.uptoSmall) rfl own started (by kernel_rfl) Try.func7
    (OpenSpec.witness (enc := enc) (C := Try.checked) (s := Rows.OpenSpec.upto Rows.sumGoesOnSpec) (k := Rows.uptoSmall) rfl false ⟨#[], #[.slice none 0 0, .slice none 0 0, .slice none 0 0], []⟩ 8 (by kernel_rfl) (by kernel_rfl) (by kernel_rfl)
      (x := ([.nil, .nil, .nil], [], [])) (by kernel_rfl) rfl (by kernel_rfl)) ?_
  intro W base args ds gs before hval hW _ hk _
  exact contract H enc W base args ds gs before hval hW hk
theorem proved : Rows.SumGoesOnUptoSaid :=
  OpenClaim.holds_of_cond 7 Try.f7 rfl rfl rfl rfl rfl rfl rfl ⟨rfl, rfl, rfl, rfl, rfl⟩ rfl rfl rfl rfl rfl (by kernel_rfl) Try.func7 (by kernel_rfl)
    (of_decide_eq_true (by kernel_rfl)) (by unfold Func.isWrapper; first | (rw [if_pos (by decide +kernel)]; kernel_rfl) | (rw [if_neg (by decide +kernel)]; exact ⟨rfl, rfl⟩))
    (fun os started H enc _ F => lifted os started H enc F)
end LSumGoesOn

end Go.Proofs.Ytkaljbhedmlglaa
