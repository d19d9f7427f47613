/- SumAdds: for every input the law returns true, and each argument reads as it did. No condition. -/
import Derived.Test.YtkaljbhedmlglaaSumLaws
namespace Go.Proofs.Ytkaljbhedmlglaa
open Go.ChangeShapes Go.WideShapes Go.ChangeAt Go.RowKit
open Go.ChangeMaps (open_string shut_string)
namespace Sum
/-! ### What the halves of a sum are -/
def S (l : List UInt8) : Int := l.foldl (fun s x => s + x.toNat) 0
theorem S_from (l : List UInt8) (s : Int) : l.foldl (fun s (x : UInt8) => s + (x.toNat : Int)) s = s + S l := by
  induction l generalizing s with
  | nil => simp [S]
  | cons x r ih => simp only [S, List.foldl_cons]; rw [ih, ih (0 + _)]; omega
theorem S_cons (x : UInt8) (r : List UInt8) : S (x :: r) = x.toNat + S r := by simp only [S, List.foldl_cons]; rw [S_from, S]; omega
theorem S_snoc (l : List UInt8) (x : UInt8) : S (l ++ [x]) = S l + x.toNat := by simp [S]
def V : Int → List UInt8 → Int
  | _, [] => 0
  | n, x :: r => x.toNat * n + V (n - 1) r
theorem V_snoc (l : List UInt8) (x : UInt8) (n : Int) : V n (l ++ [x]) = V n l + x.toNat * (n - l.length) := by
  induction l generalizing n with
  | nil => simp [V]
  | cons y r ih => simp only [List.cons_append, V, ih, List.length_cons]; grind
theorem run_is (l : List UInt8) (a c : Int) (ha : 0 ≤ a ∧ a < 65521) (hc : 0 ≤ c ∧ c < 65521) : run (a, c) l = ((a + S l) % 65521, (c + l.length * a + V l.length l) % 65521) := by
  induction l generalizing a c with
  | nil =>
    simp [run, S, V]
    omega
  | cons x r ih =>
    have e : run (a, c) (x :: r) = run (step (a, c) x) r := rfl
    rw [e]
    simp only [step]
    rw [ih _ _ (by omega) (by omega), S_cons]
    have h1 : (a + x.toNat) % 65521 = a + x.toNat - 65521 * ((a + x.toNat) / 65521) := by omega
    have h2 : (c + (a + x.toNat) % 65521) % 65521 = c + (a + x.toNat) % 65521 - 65521 * ((c + (a + x.toNat) % 65521) / 65521) := by omega
    refine Prod.ext (by dsimp only; omega) ?_
    dsimp only
    generalize (c + (a + x.toNat) % 65521) / 65521 = q2 at h2
    generalize (a + x.toNat) / 65521 = q1 at h1
    rw [h2, h1, V, List.length_cons]
    have hv : ((r.length + 1 : Nat) : Int) - 1 = r.length := by omega
    rw [hv]
    generalize V r.length r = v
    generalize ((x.toNat : Nat) : Int) = y
    have e2 : ((r.length + 1 : Nat) : Int) = (r.length : Int) + 1 := by omega
    rw [e2]
    generalize (r.length : Int) = L
    have e3 : c + (a + y - 65521 * q1) - 65521 * q2 + L * (a + y - 65521 * q1) + v = (c + (L + 1) * a + (y * (L + 1) + v)) + 65521 * (-(q2 + q1 + L * q1)) := by grind
    rw [e3, Int.add_mul_emod_self_left]
theorem S_bd (l : List UInt8) : 0 ≤ S l ∧ S l ≤ 255 * l.length := by
  induction l with
  | nil => simp [S]
  | cons x r ih => have := x.toNat_lt; rw [S_cons, List.length_cons]; omega
theorem mul_bd (x : Int) (d : Int) (h0 : 0 ≤ x) (h1 : x ≤ 255) (h2 : 0 ≤ d) (h3 : d ≤ 20000) : 0 ≤ x * d ∧ x * d ≤ 5100000 := by
  refine ⟨Int.mul_nonneg h0 h2, ?_⟩
  have := Int.mul_le_mul h1 h3 h2 (by omega : (0 : Int) ≤ 255)
  omega
theorem V_bd (l : List UInt8) (n : Int) (h : l.length ≤ n) (hn : n ≤ 20000) : 0 ≤ V n l ∧ V n l ≤ 5100000 * l.length := by
  induction l generalizing n with
  | nil => simp [V]
  | cons x r ih =>
    have hx := x.toNat_lt
    simp only [List.length_cons] at h
    have := ih (n - 1) (by omega) (by omega)
    have := mul_bd x.toNat n (by omega) (by omega) (by omega) hn
    simp only [V, List.length_cons]
    omega
theorem sum_is (l : List UInt8) : more 1 l = (l.length + V l.length l) % 65521 * 65536 + (1 + S l) % 65521 := by
  have : start 1 = (1, 0) := by decide
  simp only [more, fin, this]
  rw [run_is l 1 0 (by omega) (by omega)]
  simp
theorem snoc_facts (bs : List UInt8) (k : Nat) (x : UInt8) (h : bs[k]? = some x) : S (bs.take (k + 1)) = S (bs.take k) + x.toNat ∧ V bs.length (bs.take (k + 1)) = V bs.length (bs.take k) + x.toNat * (bs.length - k) := by
  have hk : k < bs.length := (List.getElem?_eq_some_iff.1 h).1
  rw [List.take_add_one, h]
  refine ⟨S_snoc _ _, ?_⟩
  rw [show (some x).toList = [x] from rfl, V_snoc]
  simp only [List.length_take, Nat.min_eq_left (Nat.le_of_lt hk)]
set_option maxRecDepth 20000 in
set_option maxHeartbeats 1000000 in
theorem adds_walk (v : Value) (bs : List UInt8) (w : World) (hv : Bytes w v bs) :
    Calls Try.prog 5 #[v] w fun e w' => e = .returned (.bool true) ∧ Nw w w' := by
  obtain ⟨p, cap, rfl, hcap, hmx, _, hc⟩ := hv.open
  unfold maxLen at hmx
  by_cases hl : 20000 < bs.length
  · go_enter Try.func5, Try.ntmps5
    go_wp2_with (go_at_call 16; refine (awake_c _).mono ?_; rintro e w5 ⟨rfl, hn6⟩)
    go_ret
    exact ⟨rfl, (by repeat (first | assumption | exact Nw.refl _ | refine Nw.alloc ?_ _ | refine Nw.drew ?_ | (refine Nw.trans ?_ (by assumption))))⟩
  · have hlen : bs.length ≤ 20000 := by omega
    have hfin := sum_is bs
    have hsb := S_bd bs
    have hvb := V_bd bs bs.length (Int.le_refl _) (by omega)
    have HF := hid hfin
    clear hfin hl
    go_enter Try.func5, Try.ntmps5
    go_wp2_with fail
    go_loop [3, 4, 5, 6, 16] (fun a c _ _ i => ∃ k : Nat, k ≤ bs.length ∧ i = .int .i64 k ∧ a = .int .u64 (1 + S (bs.take k)) ∧ c = .int .u64 (bs.length + V bs.length (bs.take k))) (fun _ _ _ _ i => bs.length - (intOf i).toNat)
    case atStart => exact ⟨0, Nat.zero_le _, rfl, rfl, by simp [V]⟩
    case round =>
      obtain ⟨k, hk, rfl, rfl, rfl⟩ := hrel
      have hb1 := S_bd (bs.take k)
      have hb2 := V_bd (bs.take k) bs.length (by simp; omega) (by omega)
      have hkl : (bs.take k).length = k := by simp; omega
      rw [hkl] at hb1 hb2
      clear hkl
      by_cases hlt : k < bs.length
      · obtain ⟨b, off, x, rfl, hcell, hx, hlx⟩ := u8s_cell hc k hlt
        obtain ⟨s1, s2⟩ := snoc_facts bs k x hx.out
        have HS1 := hid s1
        have HS2 := hid s2
        have hm := mul_bd x.toNat (bs.length - k) (by omega) (by omega) (by omega) (by omega)
        clear s1 s2 hc
        generalize S (bs.take k) = A at *
        generalize V bs.length (bs.take k) = C at *
        go_wp2_with fail
        go_round
        case rel => exact ⟨k + 1, by omega, by go_num, by rw [HS1.out]; congr 1; omega, by rw [HS2.out]; congr 1; omega⟩
        case measure => simp [intOf]; omega
      · have hd : bs.take k = bs := List.take_of_length_le (by omega)
        rw [hd]
        clear hd hb1 hb2
        have hwr : IntKind.u64.wrap (more 1 bs) = ((bs.length : Int) + V bs.length bs) % 65521 * 65536 + (1 + S bs) % 65521 := by rw [IntKind.wrap_u64, HF.out]; omega
        go_wp2_with (first
          | (go_at_call 12; refine (sum_c _ _ _ hv).mono ?_; rintro e w' ⟨rfl, rfl⟩)
          | (go_at_call 16; refine (awake_c _).mono ?_; rintro e w5 ⟨rfl, hn6⟩))
        go_ret
        exact ⟨rfl, (by repeat (first | assumption | exact Nw.refl _ | refine Nw.alloc ?_ _ | refine Nw.drew ?_ | (refine Nw.trans ?_ (by assumption))))⟩
end Sum
namespace LSumAdds
theorem contract (H : Type) (enc : TypeId × Value → H) (W : World) (base : Nat) (args : Array Value) (ds gs : List (DataW H)) (before : List MemPlace)
    (hval : ∀ (j : Nat) t v, Try.f5.params[j]? = some t → args[j]? = some v → Value.okWide Try.prog W .any base t v)
    (hW : DataW.Whole enc Try.prog Try.f5.params.toList Rows.sumAddsSpec.vars false W args.toList ds gs before) :
    Calls Try.prog 5 args W fun e W' => ∃ v, e = .returned v ∧ Rows.sumAddsSpec.post enc Try.prog Try.f5 false true false false W args v W' := by
  have hA1 := hW
  obtain ⟨p, q, hA, hV, _, _, _⟩ := hA1
  obtain ⟨rfl, _⟩ := trodVars_none hV
  rw [Try.params5] at hA hval
  obtain ⟨v0, vs0, d0, ds0, p0, q0, hargs, rfl, _, h0, r0⟩ := trodAll_cons hA
  obtain ⟨rfl, rfl, _⟩ := trodAll_nil r0
  obtain rfl : args = #[v0] := by cases args; simp_all
  obtain ⟨b0, hb0, hl0⟩ := open_bytes Try.underlying23 Try.underlying5 (by kernel_rfl) (hval 0 23 v0 rfl rfl) h0
  refine (Sum.adds_walk _ b0 _ hb0).mono fun e W' ⟨he, hb⟩ => ⟨_, he, law_post 4 laidOut hW rfl (by rw [Try.params5]; intro t ht; simp at ht; rcases ht with rfl <;> exact ⟨by kernel_rfl, of_decide_eq_true (by kernel_rfl)⟩) (by kernel_rfl) Try.underlying4 rfl hb⟩
set_option maxRecDepth 100000 in
theorem lifted (os : Os) (started : os.Started) (H : Type) (enc : TypeId × Value → H) :
    ReturnsInHanded {} Try.checked os 5 .any (Rows.sumAddsSpec.pre6 enc Try.prog Try.f5 Rows.sumAddsRow.domain false) (Rows.sumAddsSpec.post enc Try.prog Try.f5 false true false false) := by
  refine returnsInHanded_of_change (C := Try.checked) own started (by kernel_rfl) Try.func5
    (ChangeSpec.witness6 (enc := enc) (C := Try.checked) false ⟨#[], #[.slice none 0 0], []⟩ 8 (by kernel_rfl) (by kernel_rfl) (by kernel_rfl) (by kernel_rfl)) ?_
  intro W base args ds gs before hval hW _ _
  exact contract H enc W base args ds gs before hval hW
theorem proved : Rows.SumAddsSaid :=
  OpenClaim.holds_of_wide 5 Try.f5 rfl rfl rfl rfl rfl rfl rfl ⟨rfl, rfl, rfl, rfl, rfl⟩ rfl rfl rfl rfl rfl (by kernel_rfl) Try.func5 (by kernel_rfl)
    (of_decide_eq_true (by kernel_rfl)) (by unfold Func.isWrapper; first | (rw [if_pos (by decide +kernel)]; kernel_rfl) | (rw [if_neg (by decide +kernel)]; exact ⟨rfl, rfl⟩))
    (fun os started H enc _ => lifted os started H enc)
end LSumAdds

end Go.Proofs.Ytkaljbhedmlglaa
