/- HeadsFull walked. No condition. -/
import Derived.Test.YtdihoedehmfgfaaHdsL
set_option linter.unusedSimpArgs false
set_option linter.unusedVariables false
namespace Go.Proofs.Ytdihoedehmfgfaa
open Go.ChangeShapes Go.WideShapes Go.ChangeAt Go.RowKit
namespace Hp
open Go.Proofs.Ytdihoedehmfgfaa.Rec (none_ get i64s_open)
open Go.Proofs.Ytdihoedehmfgfaa.Sc (recP SI Ok miss)
open Go.Proofs.Ytdihoedehmfgfaa.Sum (Hands8)
open Go.Proofs.Ytdihoedehmfgfaa.Tr (T Es Evs EC Small box2 lt_alloc same_c)
open Go.Proofs.Ytdihoedehmfgfaa.Lg (Hd headR encP encode_c)
open Go.Proofs.Ytdihoedehmfgfaa.Src (rt)
/-! ### Plain: many heads alike -/
def R (x : HS) (n : Nat) : List (Option HS) := List.replicate n (some x)
/-- n heads alike, the k-th one gone. -/
def G (x : HS) (n k : Nat) : List (Option HS) := R x k ++ none :: R x (n - k - 1)
theorem R_len (x : HS) (n : Nat) : (R x n).length = n := List.length_replicate
theorem R_cnt (x : HS) (n : Nat) : cnt (R x n) = n := by unfold cnt R; rw [List.countP_replicate]; rfl
theorem R_cells (x : HS) (n : Nat) : cells (R x n) = n * (3 + x.ids.length) := by unfold cells R; rw [List.map_replicate, List.sum_replicate_nat]; rfl
theorem R_snoc (x : HS) (n : Nat) : R x n ++ [some x] = R x (n + 1) := List.replicate_succ'.symm
theorem R_free (x : HS) (r : List (Option HS)) : ∀ n, free (R x n ++ r) = n + free r
  | 0 => by simp [R]
  | n + 1 => by
    show free (some x :: (R x n ++ r)) = _
    simp only [free, R_free x r n]; omega
theorem R_free0 (x : HS) (n : Nat) : free (R x n) = n := by have := R_free x [] n; simpa [free] using this
theorem R_put (x : HS) (n : Nat) : put (R x n) x = R x (n + 1) := by
  unfold put
  rw [R_free0, R_len, if_neg (by omega), R_snoc]
theorem R_fnd (x : HS) (n k : Nat) (h : k < n) : fnd (R x n) (k : Int) = some x := by
  rw [fnd_at]; unfold R; rw [List.getElem?_replicate, if_pos h]; rfl
theorem R_open (x : HS) (n : Nat) (size pk : Int) (h : (n : Int) < size) (hx : x.ids = []) (hp : pk ≤ 3 * (n + 1)) : openP size (R x n) pk x = ((R x (n + 1), 3 * ((n : Int) + 1)), ((n : Int), 0)) := by
  unfold openP
  rw [R_cnt, if_neg (by omega), R_put, R_cells, R_free0, hx]
  have : max pk (((n + 1) * (3 + ([] : List Int).length) : Nat) : Int) = 3 * ((n : Int) + 1) := by simp; omega
  rw [this]
theorem R_full (x y : HS) (n : Nat) (pk : Int) : openP (n : Int) (R x n) pk y = ((R x n, pk), (0, 12)) := by
  unfold openP; rw [R_cnt, if_pos (by omega)]
theorem G_len (x : HS) (n k : Nat) (h : k < n) : (G x n k).length = n := by
  unfold G; rw [List.length_append, List.length_cons, R_len, R_len]; omega
theorem R_set (x : HS) (n k : Nat) (h : k < n) : (R x n).set k none = G x n k := by
  have : R x n = R x k ++ some x :: R x (n - k - 1) := by
    unfold R
    rw [← List.replicate_succ, List.replicate_append_replicate]
    congr 1; omega
  rw [this, List.set_append_right _ _ (by rw [R_len]; omega), R_len, Nat.sub_self]; rfl
theorem G_cnt (x : HS) (n k : Nat) (h : k < n) : cnt (G x n k) = n - 1 := by
  have h1 := R_cnt x k
  have h2 := R_cnt x (n - k - 1)
  unfold cnt at *
  unfold G
  rw [List.countP_append, List.countP_cons, h1, h2]
  simp; omega
theorem G_free (x : HS) (n k : Nat) : free (G x n k) = k := by unfold G; rw [R_free]; rfl
theorem G_put (x : HS) (n k : Nat) (h : k < n) : put (G x n k) x = R x n := by
  unfold put
  rw [G_free, G_len x n k h, if_pos h]
  unfold G
  rw [List.set_append_right _ _ (by rw [R_len]; omega), R_len, Nat.sub_self]
  show R x k ++ some x :: R x (n - k - 1) = _
  unfold R
  rw [← List.replicate_succ, List.replicate_append_replicate]
  congr 1; omega
theorem G_open (x : HS) (n k : Nat) (size pk : Int) (h : k < n) (hs : (n : Int) ≤ size) (hx : x.ids = []) (hp : pk = 3 * n) : openP size (G x n k) pk x = ((R x n, 3 * (n : Int)), ((k : Int), 0)) := by
  unfold openP
  rw [G_cnt x n k h, if_neg (by omega), G_put x n k h, R_cells, G_free, hx, hp]
  have : max (3 * (n : Int)) ((n * (3 + ([] : List Int).length) : Nat) : Int) = 3 * (n : Int) := by simp; omega
  rw [this]
theorem G_fnd (x : HS) (n k : Nat) : fnd (G x n k) (k : Int) = none := by
  rw [fnd_at]; unfold G
  rw [List.getElem?_append_right (by rw [R_len]; omega), R_len, Nat.sub_self]; rfl
theorem G_fnd0 (x : HS) (n k : Nat) (h : 0 < k) : fnd (G x n k) (0 : Int) = some x := by
  rw [show (0 : Int) = ((0 : Nat) : Int) from rfl, fnd_at]; unfold G
  rw [List.getElem?_append_left (by rw [R_len]; omega)]
  unfold R; rw [List.getElem?_replicate, if_pos h]; rfl
theorem R_close (x : HS) (n k : Nat) (h : k < n) : closeP (R x n) (k : Int) = (G x n k, true) := by
  unfold closeP
  rw [R_fnd x n k h, Int.toNat_natCast, R_set x n k h]; rfl
theorem G_close (x : HS) (n k : Nat) : closeP (G x n k) (k : Int) = (G x n k, false) := by
  unfold closeP
  rw [G_fnd]; rfl
/-! ### The log of one name -/
def on : T := ⟨[⟨#[112]⟩], []⟩
def onB : List UInt8 := encP on
theorem on_small : Small on := by
  refine ⟨by decide, by decide, (fun i hi => by cases hi), fun s hs => ?_⟩
  simp only [on, List.mem_cons, List.not_mem_nil, or_false] at hs
  subst hs
  decide
theorem on_len : onB.length = 11 := by decide +kernel
theorem on_head : headR onB 5 = ([⟨#[112]⟩], 11, 0) := by decide +kernel
theorem on_rt : rt onB.length (-1) = 11 := by rw [on_len]; rfl
theorem on_evs (w : World) : Evs w (.slice none 0 0) on.evs := ⟨_, _, rfl, by decide, by decide, (fun _ => rfl), fun i hi => by cases hi⟩
set_option maxRecDepth 20000 in
set_option maxHeartbeats 3200000 in
theorem full_walk (s t : Int) (q : Bool) (w : World) (hs0' : 0 ≤ s) (hs1 : s ≤ 255) (ht0 : 0 ≤ t) (ht1 : t ≤ 255) : Calls Try.prog 7 #[.int .u8 s, .int .u8 t, .bool q] w fun e w' => e = .returned (.bool true) ∧ Nw w w' := by
  obtain ⟨n, hn⟩ : ∃ n : Nat, 1 + s % 50 = (n : Int) := ⟨(1 + s % 50).toNat, by omega⟩
  have hnb : 1 ≤ n ∧ n ≤ 50 := by omega
  have hnA := (Nw.refl w).alloc (.cells #[.string ⟨#[112]⟩] 9)
  have hsl := Sl.newAt w (Lx.strs on.names) 9 (0, 0) w.heap.size 1 rfl rfl (by decide)
  have HEN := hid (show Calls Try.prog 20 #[.agg #[.slice (some ⟨w.heap.size, 0, none⟩) 1 1, .slice none 0 0]] (w.alloc (.cells #[.string ⟨#[112]⟩] 9)) (Hands8 _ onB) from encode_c _ _ on _ hsl (on_evs _) on_small (by decide) (fun i hi => by cases hi))
  have HNE := hid (fun (v : Value) w' (hv : Bytes w' v onB) => show Calls Try.prog 25 #[v, .slice none 0 0, .int .i64 (-1), .int .i64 n] w' (Made w' onB [] 11 [⟨#[112]⟩] 11 n) by
    have := poolnew_c v (.slice none 0 0) onB [] (-1) n w' hv (Sl.nil w') (by rw [on_len]; decide) (by decide) (by decide)
    rw [on_rt] at this
    refine this.mono fun e w1 h => ?_
    unfold NewO at h
    rw [if_neg (by omega), List.take_of_length_le (by rw [on_len]; decide), show miss onB 11 = 5 by unfold miss; rw [on_len]; rfl, on_head] at h
    exact h)
  have HL := hid on_len
  generalize onB = Bt at *
  clear hsl
  go_enter Try.func7, Try.ntmps7
  go_upto_region 3 with (first
    | (go_at_call 20; refine HEN.out.mono ?_; rintro e' w1 ⟨v1, rfl, hown1, hn1⟩; obtain ⟨p1, c1, rfl, _⟩ := hown1.sl.open (n := 11) ((u8s_length _).trans HL.out))
    | (go_at_call 25; refine (HNE.out _ _ hown1.sl).mono ?_; rintro e' w2 hmk; obtain ⟨c, rfl, hst, _, _, _, _, _, cs⟩ := made_st hmk)
    | fail)
  obtain ⟨x, hx⟩ : ∃ x, hs0 c.first = x := ⟨_, rfl⟩
  have hids : x.ids = [] := by rw [← hx]; rfl
  have HB := hid (hnA.trans hn1)
  have hst0 : HSt w1 c (R x 0) 0 2000 w2 := hst
  have CS := hid cs
  have HID := hid hids
  have HX := hid hx
  clear hst HNE HEN hown1 hmk hn1 hnA hx hids cs
  go_upto_region 5 with fail
  go_wp2_with fail
  go_loopw [11, 12, 10, 41] (fun _ _ _ i wr => ∃ k : Nat, k ≤ n ∧ i = .int .i64 k ∧ HSt w1 c (R x k) (3 * (k : Int)) 2000 wr) (fun _ _ _ i _ => n - (intOf i).toNat)
  case atStart => exact ⟨0, Nat.zero_le _, rfl, hst0⟩
  case round =>
    obtain ⟨k, hk, rfl, hst⟩ := hrel
    by_cases hlt : k < n
    · have hdk : decide (k < n) = true := decide_eq_true hlt
      have h1 := hid (hst.open (by rw [R_len]; omega) (hs' := R x (k + 1)) (peak' := 3 * ((k : Int) + 1)) (id := k) (er := 0) (by rw [CS.out, HX.out]; exact R_open x k n _ (by omega) HID.out (by omega)))
      clear hst
      go_upto_region 9 with (first
        | (go_at_call 26; refine h1.out.mono ?_; rintro e' w3 ⟨rfl, hst⟩)
        | fail)
      have HST := hid hst
      have h2 := hid (hst.close (j := k) (hs' := G x (k + 1) k) (q := true) (R_close x (k + 1) k (by omega)))
      have hcl := hid (fun (hk0 : 0 < k) w' (h : HSt w1 c (G x (k + 1) k) (3 * ((k : Int) + 1)) 2000 w') => h.clone (by rw [G_len x (k + 1) k (by omega)]; omega) (j := 0) (hs' := R x (k + 1)) (peak' := 3 * ((k : Int) + 1)) (id := k) (er := 0) (by
        unfold cloneP
        rw [G_fnd0 x (k + 1) k hk0, CS.out]
        exact G_open x (k + 1) k n _ (by omega) (by omega) HID.out (by omega)))
      have hc := hid (fun w' (h : HSt w1 c (R x (k + 1)) (3 * ((k : Int) + 1)) 2000 w') => h.count (q := (k : Int) + 1) (by rw [R_cnt]; omega))
      have hce := hid (fun w' (h : HSt w1 c (R x (k + 1)) (3 * ((k : Int) + 1)) 2000 w') => h.cells (by rw [R_len]; omega) (q := 3 * ((k : Int) + 1)) (by rw [R_cells, HID.out]; simp; omega))
      clear h1 hst
      cases q with
      | false =>
        have HC := hid (hc.out _ HST.out)
        have HE := hid (hce.out _ HST.out)
        go_wp2_with (first
          | (go_at_call 29; refine HC.out.mono ?_; rintro e' w5 ⟨rfl, rfl⟩)
          | (go_at_call 30; refine HE.out.mono ?_; rintro e' w5 ⟨rfl, rfl⟩)
          | fail)
        go_roundw
        case rel => exact ⟨k + 1, by omega, by go_num, by have := HST.out; rwa [show (3 * ((k : Int) + 1)) = 3 * ((k + 1 : Nat) : Int) by omega] at this⟩
        case measure => simp [intOf]; omega
      | true =>
        by_cases hk0 : 0 < k
        · have hd0 : decide (0 < (k : Int)) = true := decide_eq_true (by omega)
          have hd0n : decide (0 < k) = true := decide_eq_true hk0
          have HCL := hid (hcl.out hk0)
          go_upto_region 12 with (first
            | (go_at_call 27; refine h2.out.mono ?_; rintro e' w5 ⟨rfl, hst5⟩)
            | (go_at_call 28; refine (HCL.out _ hst5).mono ?_; rintro e' w6 ⟨rfl, hst6⟩)
            | fail)
          have HST6 := hid hst6
          have HC := hid (hc.out _ hst6)
          have HE := hid (hce.out _ hst6)
          clear hst5 hst6
          go_wp2_with (first
            | (go_at_call 29; refine HC.out.mono ?_; rintro e' w5 ⟨rfl, rfl⟩)
            | (go_at_call 30; refine HE.out.mono ?_; rintro e' w5 ⟨rfl, rfl⟩)
            | fail)
          go_roundw
          case rel => exact ⟨k + 1, by omega, by go_num, by have := HST6.out; rwa [show (3 * ((k : Int) + 1)) = 3 * ((k + 1 : Nat) : Int) by omega] at this⟩
          case measure => simp [intOf]; omega
        · obtain rfl : k = 0 := by omega
          have HC := hid (hc.out _ HST.out)
          have HE := hid (hce.out _ HST.out)
          go_wp2_with (first
            | (go_at_call 29; refine HC.out.mono ?_; rintro e' w5 ⟨rfl, rfl⟩)
            | (go_at_call 30; refine HE.out.mono ?_; rintro e' w5 ⟨rfl, rfl⟩)
            | fail)
          go_roundw
          case rel => exact ⟨1, by omega, by go_num, by have := HST.out; exact this⟩
          case measure => simp [intOf]; omega
    · obtain rfl : k = n := by omega
      have hdk : decide (k < k) = false := decide_eq_false (by omega)
      obtain ⟨j, hj⟩ : ∃ j : Nat, t % (k : Int) = j := ⟨(t % (k : Int)).toNat, by have := Int.emod_nonneg t (show (k : Int) ≠ 0 by omega); omega⟩
      have hjk : j < k := by have := Int.emod_lt_of_pos t (show (0 : Int) < k by omega); omega
      have h1 := hid (hst.open (by rw [R_len]; omega) (hs' := R x k) (peak' := 3 * (k : Int)) (id := 0) (er := 12) (by rw [CS.out]; exact R_full x _ k _))
      have hkz : (k : Int) ≠ 0 := by omega
      have h2 := hid (fun w' (h : HSt w1 c (R x k) (3 * (k : Int)) 2000 w') => h.clone (by rw [R_len]; omega) (j := j) (hs' := R x k) (peak' := 3 * (k : Int)) (id := 0) (er := 12) (by
        unfold cloneP
        rw [R_fnd x k j hjk, CS.out]
        exact R_full x x k _))
      have h3 := hid (fun w' (h : HSt w1 c (R x k) (3 * (k : Int)) 2000 w') => h.close (j := j) (hs' := G x k j) (q := true) (R_close x k j hjk))
      have h4 := hid (fun w' (h : HSt w1 c (G x k j) (3 * (k : Int)) 2000 w') => h.close (j := j) (hs' := G x k j) (q := false) (G_close x k j))
      have h5 := hid (fun w' (h : HSt w1 c (G x k j) (3 * (k : Int)) 2000 w') => h.count (q := (k : Int) - 1) (by rw [G_cnt x k j hjk]; omega))
      have h6 := hid (fun w' (h : HSt w1 c (G x k j) (3 * (k : Int)) 2000 w') => show Calls Try.prog 31 #[.pointer (some ⟨c.a, 0, none⟩), .int .i64 j] w' fun e w'' => e = .returned (.tuple #[.int .i64 0, .bool false]) ∧ w' = w'' by
        have := h.idx j
        rw [G_fnd] at this
        exact this)
      have h7 := hid (fun w' (h : HSt w1 c (G x k j) (3 * (k : Int)) 2000 w') => h.open (by rw [G_len x k j hjk]; omega) (hs' := R x k) (peak' := 3 * (k : Int)) (id := j) (er := 0) (by rw [CS.out, HX.out]; exact G_open x k j _ _ hjk (Int.le_refl _) HID.out rfl))
      have HSB := hid hst
      clear hst hst0
      go_upto_region 17 with (first
        | (go_at_call 26; refine h1.out.mono ?_; rintro e' w3 ⟨rfl, hst⟩)
        | fail)
      have H2 := hid (h2.out _ hst)
      clear hst h1 h2
      go_upto_region 18 with (first
        | (go_at_call 28; refine H2.out.mono ?_; rintro e' w4 ⟨rfl, hst⟩)
        | fail)
      have H3 := hid (h3.out _ hst)
      clear hst h3 H2
      go_upto_region 20 with (first
        | (go_at_call 27; refine H3.out.mono ?_; rintro e' w5 ⟨rfl, hst5⟩)
        | (go_at_call 27; refine (h4.out _ hst5).mono ?_; rintro e' w6 ⟨rfl, hst6⟩)
        | (go_at_call 29; refine (h5.out _ hst6).mono ?_; rintro e' w7 ⟨rfl, rfl⟩)
        | fail)
      have H6 := hid (h6.out _ hst6)
      have H7 := hid (h7.out _ hst6)
      clear hst5 hst6 h4 h5 h6 h7 H3
      go_wp2_with (first
        | (go_at_call 31; refine H6.out.mono ?_; rintro e' w7 ⟨rfl, rfl⟩)
        | (go_at_call 26; refine H7.out.mono ?_; rintro e' w8 ⟨rfl, hst8⟩)
        | (go_at_call 32; refine hst8.peaks.mono ?_; rintro e' w9 ⟨rfl, rfl⟩)
        | (go_at_call 33; refine (awake_c _).mono ?_; rintro e' w10 ⟨rfl, hn10⟩)
        | fail)
      go_ret
      exact ⟨rfl, HB.out.trans (hst8.base.trans hn10)⟩
end Hp
end Go.Proofs.Ytdihoedehmfgfaa
