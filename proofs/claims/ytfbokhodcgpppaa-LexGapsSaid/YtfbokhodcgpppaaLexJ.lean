/- The contract of watchglassref1.Lex: the same tokens. No condition but a length that any text has. -/
import Derived.Test.YtfbokhodcgpppaaLexI
namespace Go.Proofs.Ytfbokhodcgpppaa
open Go.ChangeShapes Go.WideShapes Go.ChangeAt Go.RowKit
namespace Lx
theorem cut_get (bs : List UInt8) (k n j : Nat) (h : j < n) : (cut bs k (k + n))[j]? = bs[k + j]? := by
  unfold cut
  rw [Nat.add_sub_cancel_left, List.getElem?_take_of_lt h, List.getElem?_drop]
set_option maxRecDepth 20000 in
set_option maxHeartbeats 3200000 in
theorem rlex_c (bs : List UInt8) (w : World) (hb : bs.length ≤ 1000000000) : Calls Try.prog 16 #[.string ⟨bs.toArray⟩] w (HandsL w (lexP bs)) := by
  by_cases hbig : 2000 < bs.length
  · have hd : decide ((2000 : Int) < bs.length) = true := decide_eq_true (by omega)
    have HR := hid (show lexP bs = ([], 0, 4) by unfold lexP; rw [if_pos hbig])
    go_enter Try.func16, Try.ntmps16
    go_wp2
    go_ret3
    exact HandsL.no HR.out (Nw.refl _)
  · have hd : decide ((2000 : Int) < bs.length) = false := decide_eq_false (by omega)
    have HR := hid (show lexP bs = lexGo bs (bs.length + 1) 0 [] by unfold lexP; rw [if_neg hbig])
    go_enter Try.func16, Try.ntmps16
    go_wp2
    go_loopw [5, 6] (fun o i wr => ∃ (k f : Nat) (acc : List Tk), k ≤ bs.length ∧ i = .int .i64 (k : Int) ∧ bs.length - k < f ∧ Hid (lexGo bs f k acc = lexP bs) ∧ wr.ownsRow w.heap.size 31 4 o acc.length (tkl acc) ∧ acc.length ≤ k ∧ Nw w wr) (fun _ i _ => bs.length - (intOf i).toNat)
    case atStart => exact ⟨0, bs.length + 1, [], Nat.zero_le _, rfl, by omega, HR.out.symm, World.ownsRow_nil _ _ _ _, Nat.zero_le _, Nw.refl _⟩
    case round =>
      obtain ⟨k, f, acc, hk, rfl, hf, hgo, hown, hacc, hn⟩ := hrel
      obtain ⟨f, rfl⟩ : ∃ f', f = f' + 1 := ⟨f - 1, by omega⟩
      have HOW := hid hown
      clear hown
      by_cases hlt : k < bs.length
      · have hdk : decide (k < bs.length) = true := decide_eq_true hlt
        obtain ⟨x, hx⟩ : ∃ x, bs[k]? = some x := ⟨bs[k], by rw [List.getElem?_eq_getElem]⟩
        obtain ⟨hgb, hgx⟩ := str_at hx
        have b32 : ((x.toNat : Int) == 32) = decide (x = 32) := beq_u8 x 32 (by decide)
        have b10 : ((x.toNat : Int) == 10) = decide (x = 10) := beq_u8 x 10 (by decide)
        by_cases h32 : x = 32
        · rw [decide_eq_true h32] at b32
          have HS := hid (go_blank bs f k acc x hx (Or.inl h32))
          clear hx h32 b10
          go_wp2
          go_roundw
          case rel => exact ⟨k + 1, f, acc, by omega, by go_num, by omega, HS.out.symm.trans hgo.out, HOW.out, by omega, hn⟩
          case measure => simp [intOf]; omega
        · rw [decide_eq_false h32] at b32
          by_cases h10 : x = 10
          · rw [decide_eq_true h10] at b10
            have HS := hid (go_blank bs f k acc x hx (Or.inr h10))
            clear hx h32 h10
            go_wp2
            go_roundw
            case rel => exact ⟨k + 1, f, acc, by omega, by go_num, by omega, HS.out.symm.trans hgo.out, HOW.out, by omega, hn⟩
            case measure => simp [intOf]; omega
          · rw [decide_eq_false h10] at b10
            have hnb : ¬ (x = 32 ∨ x = 10) := by rintro (h | h); exact h32 h; exact h10 h
            clear h32 h10
            have HSM := hid (fun w => small_c x w)
            cases hs : sm x with
            | true =>
              rw [hs] at HSM
              have hfl := fin_le mo bs k hk
              obtain ⟨n, hfn⟩ : ∃ n, fin mo bs k = k + n := ⟨fin mo bs k - k, by omega⟩
              have hT : tokAt bs k x = if 16 < n then none else some (⟨1, cut bs k (k + n), 0, k⟩, n) := by unfold tokAt; rw [if_pos hs, hfn, Nat.add_sub_cancel_left]
              have hkn : k + n ≤ bs.length := by omega
              have hE := fun w => run_words bs k w hk hb
              rw [hfn, show (((k + n : Nat) : Int) - (k : Int)) = (n : Int) by omega] at hE
              have HE := hid hE
              clear hE hfl hfn
              by_cases h16 : 16 < n
              · have HS := hid (go_none bs f k acc x hx hnb (hT.trans (if_pos h16)))
                have hd16 : decide ((16 : Int) < n) = true := decide_eq_true (by omega)
                clear hx hnb hT h16
                go_wp2_with (first
                  | (go_at_call 29; refine (HSM.out _).mono ?_; rintro e w1 ⟨rfl, hn1⟩)
                  | (go_at_call 30; refine (HE.out _).mono ?_; rintro e w3 ⟨rfl, hn3⟩)
                  | fail)
                go_ret3
                exact HandsL.no (hgo.out.symm.trans HS.out) (hn.trans (by repeat (first | assumption | exact Nw.refl _ | refine Nw.alloc ?_ _ | refine Nw.drew ?_ | refine Nw.drewN2 ?_ _ | (refine Nw.trans ?_ (by assumption)))))
              · have hts := tok_size hx (hT.trans (if_neg h16))
                have HS := hid (go_tok bs f k n acc x _ hx hnb (hT.trans (if_neg h16)))
                have hd16 : decide ((16 : Int) < n) = false := decide_eq_false (by omega)
                have hcs := cut_str bs k (k + n)
                generalize cut bs k (k + n) = T at *
                clear hx hnb hT
                go_wp2_with (first
                  | (go_at_call 29; refine (HSM.out _).mono ?_; rintro e w1 ⟨rfl, hn1⟩)
                  | (go_at_call 30; refine (HE.out _).mono ?_; rintro e w3 ⟨rfl, hn3⟩)
                  | (at_builtin; refine appk rfl _ _ _ rfl _ _ _ _ Try.underlying26 info_tok rfl (by decide) (by decide) (Nw.size ((hn.trans (hn1.trans hn3)).alloc _)) (Nw.ownsRow (((hn1.trans hn3)).alloc _) HOW.out) rfl rfl (show (tkv (Tk.mk 1 T 0 k)).length = 4 from rfl) (cells_newAt _ (tkv (Tk.mk 1 T 0 k)) _ _ _ (by simp)) (tkv_one (Tk.mk 1 T 0 k)) ?_ ?_; rotate_left; omega; intro v2 w2 hown2 hm2)
                  | fail)
                go_roundw
                case rel => exact ⟨k + n, f, acc ++ [Tk.mk 1 T 0 k], hkn, (by go_num), by omega, HS.out.symm.trans hgo.out, own_snoc hown2 rfl rfl, by rw [List.length_append]; simp; omega, ((hn.trans (hn1.trans hn3)).alloc _).ofMods hm2 (fun _ h => h)⟩
                case measure => simp [intOf]; omega
            | false =>
              rw [hs] at HSM
              have HD := hid (fun w => rdigit_c x w)
              cases hdg : dg x with
              | true =>
                rw [hdg] at HD
                have hfl := fin_le dg bs k hk
                obtain ⟨n, hfn⟩ : ∃ n, fin dg bs k = k + n := ⟨fin dg bs k - k, by omega⟩
                have hT : tokAt bs k x = if 4 < n ∨ (x = 48 ∧ 1 < n) then none else some (⟨2, [], numOf (cut bs k (k + n)), k⟩, n) := by unfold tokAt; rw [if_neg (by rw [hs]; decide), if_pos hdg, hfn, Nat.add_sub_cancel_left]
                have hkn : k + n ≤ bs.length := by omega
                have hall := cut_all dg bs k
                rw [hfn] at hall
                have hE := fun w => run_nums bs k w hk hb
                rw [hfn, show (((k + n : Nat) : Int) - (k : Int)) = (n : Int) by omega] at hE
                have HE := hid hE
                have HALL := hid hall
                have b48 : ((x.toNat : Int) == 48) = decide (x = 48) := beq_u8 x 48 (by decide)
                clear hE hfl hfn hall
                by_cases hbad : 4 < n ∨ (x = 48 ∧ 1 < n)
                · have HS := hid (go_none bs f k acc x hx hnb (hT.trans (if_pos hbad)))
                  by_cases h4 : 4 < n
                  · have d4 : decide ((4 : Int) < n) = true := decide_eq_true (by omega)
                    clear hx hnb hT hbad b48 h4
                    go_wp2_with (first
                      | (go_at_call 29; refine (HSM.out _).mono ?_; rintro e w1 ⟨rfl, hn1⟩)
                      | (go_at_call 31; refine (HD.out _).mono ?_; rintro e w3 ⟨rfl, hn3⟩)
                      | (go_at_call 30; refine (HE.out _).mono ?_; rintro e w4 ⟨rfl, hn4⟩)
                      | fail)
                    go_ret3
                    exact HandsL.no (hgo.out.symm.trans HS.out) (hn.trans (by repeat (first | assumption | exact Nw.refl _ | refine Nw.alloc ?_ _ | refine Nw.drew ?_ | refine Nw.drewN2 ?_ _ | (refine Nw.trans ?_ (by assumption)))))
                  · have h48 : x = 48 ∧ 1 < n := by rcases hbad with h | h; exact absurd h h4; exact h
                    have d4 : decide ((4 : Int) < n) = false := decide_eq_false (by omega)
                    have d1 : decide ((1 : Int) < n) = true := decide_eq_true (by omega)
                    rw [decide_eq_true h48.1] at b48
                    clear hx hnb hT hbad h48 h4
                    go_wp2_with (first
                      | (go_at_call 29; refine (HSM.out _).mono ?_; rintro e w1 ⟨rfl, hn1⟩)
                      | (go_at_call 31; refine (HD.out _).mono ?_; rintro e w3 ⟨rfl, hn3⟩)
                      | (go_at_call 30; refine (HE.out _).mono ?_; rintro e w4 ⟨rfl, hn4⟩)
                      | fail)
                    go_ret3
                    exact HandsL.no (hgo.out.symm.trans HS.out) (hn.trans (by repeat (first | assumption | exact Nw.refl _ | refine Nw.alloc ?_ _ | refine Nw.drew ?_ | refine Nw.drewN2 ?_ _ | (refine Nw.trans ?_ (by assumption)))))
                · have hts := tok_size hx (hT.trans (if_neg hbad))
                  have HS := hid (go_tok bs f k n acc x _ hx hnb (hT.trans (if_neg hbad)))
                  have d4 : decide ((4 : Int) < n) = false := decide_eq_false (by omega)
                  have hn4 : n ≤ 4 := by omega
                  have HG := hid (fun j (h : j < n) => cut_get bs k n j h)
                  have hTl : (cut bs k (k + n)).length = n := by rw [cut_len _ _ _ hkn]; omega
                  generalize cut bs k (k + n) = T at *
                  have HTl := hid hTl
                  clear hTl
                  by_cases h48 : x = 48
                  · have hn1' : n ≤ 1 := by
                      rcases Nat.lt_or_ge 1 n with h2 | h2
                      · exact absurd (Or.inr ⟨h48, h2⟩) hbad
                      · exact h2
                    have d1 : decide ((1 : Int) < n) = false := decide_eq_false (by omega)
                    rw [decide_eq_true h48] at b48
                    clear hx hnb hT hbad h48
                    go_wp2_with (first
                      | (go_at_call 29; refine (HSM.out _).mono ?_; rintro e w1 ⟨rfl, hn1⟩)
                      | (go_at_call 31; refine (HD.out _).mono ?_; rintro e w3 ⟨rfl, hn3⟩)
                      | (go_at_call 30; refine (HE.out _).mono ?_; rintro e w4 ⟨rfl, hn4⟩)
                      | fail)
                    have hn14 := hn1.trans (hn3.trans hn4)
                    go_loopw [9, 67] (fun v i wq => ∃ j : Nat, j ≤ n ∧ i = .int .i64 j ∧ v = .int .i64 (numOf (T.take j)) ∧ Nw wr wq) (fun _ i _ => n - (intOf i).toNat)
                    case atStart => exact ⟨0, Nat.zero_le _, rfl, rfl, hn14⟩
                    case round =>
                      obtain ⟨j, hj, rfl, rfl, hnq⟩ := hrel
                      by_cases hlj : j < n
                      · have hdj : decide (j < n) = true := decide_eq_true hlj
                        obtain ⟨y, hy⟩ : ∃ y, bs[k + j]? = some y := ⟨bs[k + j]'(by omega), by rw [List.getElem?_eq_getElem]⟩
                        obtain ⟨hgb2, hgx2⟩ := str_at hy
                        have hty := (HG.out j hlj).trans hy
                        have HS2 := hid (numOf_snoc T j y hty)
                        have hdy := HALL.out y (List.mem_of_getElem? hty)
                        have hb1 : 48 ≤ y.toNat ∧ y.toNat ≤ 57 := by unfold dg at hdy; simpa using hdy
                        have hbd := numOf_bd (T.take j) (by rw [List.length_take]; omega) (fun z hz => HALL.out z (List.mem_of_mem_take hz))
                        generalize numOf (T.take j) = A at *
                        obtain ⟨b1, b2⟩ := hb1
                        obtain ⟨b3, b4⟩ := hbd
                        have b1' : (48 : Int) ≤ (y.toNat : Int) := by omega
                        clear hdy hy hty
                        go_wp2
                        go_roundw
                        case rel => exact ⟨j + 1, by omega, by go_num, by rw [HS2.out], hnq⟩
                        case measure => simp [intOf]; omega
                      · obtain rfl : j = n := by omega
                        have hdj : decide (j < j) = false := decide_eq_false (by omega)
                        rw [List.take_of_length_le (by rw [HTl.out]; exact Nat.le_refl _)]
                        generalize hA : numOf T = A at *
                        go_wp2_with (first
                          | (at_builtin; refine appk rfl _ _ _ rfl _ _ _ _ Try.underlying26 info_tok rfl (by decide) (by decide) (Nw.size ((hn.trans hnq).alloc _)) (Nw.ownsRow ((hnq).alloc _) HOW.out) rfl rfl (show (tkv (Tk.mk 2 [] A k)).length = 4 from rfl) (cells_newAt _ (tkv (Tk.mk 2 [] A k)) _ _ _ (by simp)) (tkv_one (Tk.mk 2 [] A k)) ?_ ?_; rotate_left; omega; intro v2 w2 hown2 hm2)
                          | fail)
                        go_roundw
                        case rel => exact ⟨k + j, f, acc ++ [Tk.mk 2 [] A k], hkn, (by go_num), by omega, HS.out.symm.trans hgo.out, own_snoc hown2 rfl rfl, by rw [List.length_append]; simp; omega, ((hn.trans hnq).alloc _).ofMods hm2 (fun _ h => h)⟩
                        case measure => simp [intOf]; omega
                  · rw [decide_eq_false h48] at b48
                    clear hx hnb hT hbad h48
                    go_wp2_with (first
                      | (go_at_call 29; refine (HSM.out _).mono ?_; rintro e w1 ⟨rfl, hn1⟩)
                      | (go_at_call 31; refine (HD.out _).mono ?_; rintro e w3 ⟨rfl, hn3⟩)
                      | (go_at_call 30; refine (HE.out _).mono ?_; rintro e w4 ⟨rfl, hn4⟩)
                      | fail)
                    have hn14 := hn1.trans (hn3.trans hn4)
                    go_loopw [9, 67] (fun v i wq => ∃ j : Nat, j ≤ n ∧ i = .int .i64 j ∧ v = .int .i64 (numOf (T.take j)) ∧ Nw wr wq) (fun _ i _ => n - (intOf i).toNat)
                    case atStart => exact ⟨0, Nat.zero_le _, rfl, rfl, hn14⟩
                    case round =>
                      obtain ⟨j, hj, rfl, rfl, hnq⟩ := hrel
                      by_cases hlj : j < n
                      · have hdj : decide (j < n) = true := decide_eq_true hlj
                        obtain ⟨y, hy⟩ : ∃ y, bs[k + j]? = some y := ⟨bs[k + j]'(by omega), by rw [List.getElem?_eq_getElem]⟩
                        obtain ⟨hgb2, hgx2⟩ := str_at hy
                        have hty := (HG.out j hlj).trans hy
                        have HS2 := hid (numOf_snoc T j y hty)
                        have hdy := HALL.out y (List.mem_of_getElem? hty)
                        have hb1 : 48 ≤ y.toNat ∧ y.toNat ≤ 57 := by unfold dg at hdy; simpa using hdy
                        have hbd := numOf_bd (T.take j) (by rw [List.length_take]; omega) (fun z hz => HALL.out z (List.mem_of_mem_take hz))
                        generalize numOf (T.take j) = A at *
                        obtain ⟨b1, b2⟩ := hb1
                        obtain ⟨b3, b4⟩ := hbd
                        have b1' : (48 : Int) ≤ (y.toNat : Int) := by omega
                        clear hdy hy hty
                        go_wp2
                        go_roundw
                        case rel => exact ⟨j + 1, by omega, by go_num, by rw [HS2.out], hnq⟩
                        case measure => simp [intOf]; omega
                      · obtain rfl : j = n := by omega
                        have hdj : decide (j < j) = false := decide_eq_false (by omega)
                        rw [List.take_of_length_le (by rw [HTl.out]; exact Nat.le_refl _)]
                        generalize hA : numOf T = A at *
                        go_wp2_with (first
                          | (at_builtin; refine appk rfl _ _ _ rfl _ _ _ _ Try.underlying26 info_tok rfl (by decide) (by decide) (Nw.size ((hn.trans hnq).alloc _)) (Nw.ownsRow ((hnq).alloc _) HOW.out) rfl rfl (show (tkv (Tk.mk 2 [] A k)).length = 4 from rfl) (cells_newAt _ (tkv (Tk.mk 2 [] A k)) _ _ _ (by simp)) (tkv_one (Tk.mk 2 [] A k)) ?_ ?_; rotate_left; omega; intro v2 w2 hown2 hm2)
                          | fail)
                        go_roundw
                        case rel => exact ⟨k + j, f, acc ++ [Tk.mk 2 [] A k], hkn, (by go_num), by omega, HS.out.symm.trans hgo.out, own_snoc hown2 rfl rfl, by rw [List.length_append]; simp; omega, ((hn.trans hnq).alloc _).ofMods hm2 (fun _ h => h)⟩
                        case measure => simp [intOf]; omega
              | false =>
                rw [hdg] at HD
                have hT : tokAt bs k x = if x ∈ signs then some (⟨3, [x], 0, k⟩, 1) else if x = 45 ∧ bs[k + 1]? = some 62 then some (⟨3, [45, 62], 0, k⟩, 2) else none := by unfold tokAt; rw [if_neg (by rw [hs]; decide), if_neg (by rw [hdg]; decide)]
                have b45 : ((x.toNat : Int) == 45) = decide (x = 45) := beq_u8 x 45 (by decide)
                have HG := hid (fun w => sign_c x w)
                by_cases h45 : x = 45
                · rw [decide_eq_true h45] at b45
                  have hno : x ∉ signs := by rw [h45]; decide
                  rw [decide_eq_false hno] at HG
                  rw [if_neg hno] at hT
                  by_cases hk1 : k + 1 < bs.length
                  · have dk1 : decide ((k : Int) + 1 < (bs.length : Int)) = true := decide_eq_true (by omega)
                    obtain ⟨y, hy⟩ : ∃ y, bs[k + 1]? = some y := ⟨bs[k + 1], by rw [List.getElem?_eq_getElem]⟩
                    obtain ⟨hgb2, hgx2⟩ := str_at hy
                    have b62 : ((y.toNat : Int) == 62) = decide (y = 62) := beq_u8 y 62 (by decide)
                    by_cases h62 : y = 62
                    · rw [decide_eq_true h62] at b62
                      have hT2 := hT.trans (if_pos ⟨h45, by rw [hy, h62]⟩)
                      have HS := hid (go_tok bs f k 2 acc x _ hx hnb hT2)
                      have hkn : k + 2 ≤ bs.length := by omega
                      clear hx hnb hT hT2 hno h45 h62 hy
                      go_wp2_with (first
                        | (go_at_call 29; refine (HSM.out _).mono ?_; rintro e w1 ⟨rfl, hn1⟩)
                        | (go_at_call 31; refine (HD.out _).mono ?_; rintro e w3 ⟨rfl, hn3⟩)
                        | (at_builtin; refine appk rfl _ _ _ rfl _ _ _ _ Try.underlying26 info_tok rfl (by decide) (by decide) (Nw.size ((hn.trans (hn1.trans hn3)).alloc _)) (Nw.ownsRow (((hn1.trans hn3)).alloc _) HOW.out) rfl rfl (show (tkv (Tk.mk 3 [45, 62] 0 k)).length = 4 from rfl) (cells_newAt _ (tkv (Tk.mk 3 [45, 62] 0 k)) _ _ _ (by simp)) (tkv_one (Tk.mk 3 [45, 62] 0 k)) ?_ ?_; rotate_left; omega; intro v2 w2 hown2 hm2)
                        | fail)
                      go_roundw
                      case rel => exact ⟨k + 2, f, acc ++ [Tk.mk 3 [45, 62] 0 k], hkn, (by go_num), by omega, HS.out.symm.trans hgo.out, own_snoc hown2 rfl rfl, by rw [List.length_append]; simp; omega, ((hn.trans (hn1.trans hn3)).alloc _).ofMods hm2 (fun _ h => h)⟩
                      case measure => simp [intOf]; omega
                    · rw [decide_eq_false h62] at b62
                      have hT2 := hT.trans (if_neg (fun h => h62 (by have := h.2; rw [hy] at this; exact Option.some.inj this)))
                      have HS := hid (go_none bs f k acc x hx hnb hT2)
                      clear hx hnb hT hT2 hno h45 h62 hy
                      go_wp2_with (first
                        | (go_at_call 29; refine (HSM.out _).mono ?_; rintro e w1 ⟨rfl, hn1⟩)
                        | (go_at_call 31; refine (HD.out _).mono ?_; rintro e w3 ⟨rfl, hn3⟩)
                        | (go_at_call 32; refine (HG.out _).mono ?_; rintro e w4 ⟨rfl, hn4⟩)
                        | fail)
                      go_ret3
                      exact HandsL.no (hgo.out.symm.trans HS.out) (hn.trans (by repeat (first | assumption | exact Nw.refl _ | refine Nw.alloc ?_ _ | refine Nw.drew ?_ | refine Nw.drewN2 ?_ _ | (refine Nw.trans ?_ (by assumption)))))
                  · have dk1 : decide ((k : Int) + 1 < (bs.length : Int)) = false := decide_eq_false (by omega)
                    have hT2 := hT.trans (if_neg (fun h => by have := h.2; rw [List.getElem?_eq_none (by omega)] at this; cases this))
                    have HS := hid (go_none bs f k acc x hx hnb hT2)
                    clear hx hnb hT hT2 hno h45
                    go_wp2_with (first
                      | (go_at_call 29; refine (HSM.out _).mono ?_; rintro e w1 ⟨rfl, hn1⟩)
                      | (go_at_call 31; refine (HD.out _).mono ?_; rintro e w3 ⟨rfl, hn3⟩)
                      | (go_at_call 32; refine (HG.out _).mono ?_; rintro e w4 ⟨rfl, hn4⟩)
                      | fail)
                    go_ret3
                    exact HandsL.no (hgo.out.symm.trans HS.out) (hn.trans (by repeat (first | assumption | exact Nw.refl _ | refine Nw.alloc ?_ _ | refine Nw.drew ?_ | refine Nw.drewN2 ?_ _ | (refine Nw.trans ?_ (by assumption)))))
                · rw [decide_eq_false h45] at b45
                  by_cases hsg : x ∈ signs
                  · rw [decide_eq_true hsg] at HG
                    have HS := hid (go_tok bs f k 1 acc x _ hx hnb (hT.trans (if_pos hsg)))
                    have hcx : cut bs k (k + 1) = [x] := by
                      unfold cut
                      obtain ⟨hk0, e⟩ := List.getElem?_eq_some_iff.1 hx
                      rw [List.drop_eq_getElem_cons hk0, e, Nat.add_sub_cancel_left]; rfl
                    have hcs := cut_str bs k (k + 1)
                    rw [hcx] at hcs
                    have hkn : k + 1 ≤ bs.length := by omega
                    clear hx hnb hT h45 hsg hcx
                    go_wp2_with (first
                      | (go_at_call 29; refine (HSM.out _).mono ?_; rintro e w1 ⟨rfl, hn1⟩)
                      | (go_at_call 31; refine (HD.out _).mono ?_; rintro e w3 ⟨rfl, hn3⟩)
                      | (go_at_call 32; refine (HG.out _).mono ?_; rintro e w4 ⟨rfl, hn4⟩)
                      | (at_builtin; refine appk rfl _ _ _ rfl _ _ _ _ Try.underlying26 info_tok rfl (by decide) (by decide) (Nw.size ((hn.trans (hn1.trans (hn3.trans hn4))).alloc _)) (Nw.ownsRow (((hn1.trans (hn3.trans hn4))).alloc _) HOW.out) rfl rfl (show (tkv (Tk.mk 3 [x] 0 k)).length = 4 from rfl) (cells_newAt _ (tkv (Tk.mk 3 [x] 0 k)) _ _ _ (by simp)) (tkv_one (Tk.mk 3 [x] 0 k)) ?_ ?_; rotate_left; omega; intro v2 w2 hown2 hm2)
                      | fail)
                    go_roundw
                    case rel => exact ⟨k + 1, f, acc ++ [Tk.mk 3 [x] 0 k], hkn, (by go_num), by omega, HS.out.symm.trans hgo.out, own_snoc hown2 rfl rfl, by rw [List.length_append]; simp; omega, ((hn.trans (hn1.trans (hn3.trans hn4))).alloc _).ofMods hm2 (fun _ h => h)⟩
                    case measure => simp [intOf]; omega
                  · rw [decide_eq_false hsg] at HG
                    have HS := hid (go_none bs f k acc x hx hnb (hT.trans ((if_neg hsg).trans (if_neg (fun h => h45 h.1)))))
                    clear hx hnb hT h45 hsg
                    go_wp2_with (first
                      | (go_at_call 29; refine (HSM.out _).mono ?_; rintro e w1 ⟨rfl, hn1⟩)
                      | (go_at_call 31; refine (HD.out _).mono ?_; rintro e w3 ⟨rfl, hn3⟩)
                      | (go_at_call 32; refine (HG.out _).mono ?_; rintro e w4 ⟨rfl, hn4⟩)
                      | fail)
                    go_ret3
                    exact HandsL.no (hgo.out.symm.trans HS.out) (hn.trans (by repeat (first | assumption | exact Nw.refl _ | refine Nw.alloc ?_ _ | refine Nw.drew ?_ | refine Nw.drewN2 ?_ _ | (refine Nw.trans ?_ (by assumption)))))
      · obtain rfl : k = bs.length := by omega
        have hdk : decide (bs.length < bs.length) = false := decide_eq_false (by omega)
        have HS := hid (go_end bs f bs.length acc (Nat.le_refl _))
        go_wp2_with (first
          | (at_builtin; refine appk rfl _ _ _ rfl _ _ _ _ Try.underlying26 info_tok rfl (by decide) (by decide) (Nw.size (hn.alloc _)) (Nw.ownsRow ((Nw.refl wr).alloc _) HOW.out) rfl rfl (show (tkv ⟨0, [], 0, bs.length⟩).length = 4 from rfl) (cells_new wr (tkv ⟨0, [], 0, bs.length⟩) _ _) (tkv_one _) ?_ ?_; rotate_left; omega; intro v2 w2 hown2 hm2)
          | fail)
        go_ret3
        have hres := hgo.out.symm.trans HS.out
        refine ⟨v2, ?_, ?_, (hn.alloc _).ofMods hm2 (fun _ h => h)⟩
        · rw [hres]; rfl
        · rw [hres]; exact own_snoc hown2 rfl rfl
end Lx
end Go.Proofs.Ytfbokhodcgpppaa
