/- The contract of lex.Lex: the tokens of a text, or where it is wrong. No condition but a length that any text has. -/
import Derived.Test.YtfbokhodcgpppaaDoorLexH
namespace Go.Proofs.YtfbokhodcgpppaaDoor
open Go.ChangeShapes Go.WideShapes Go.ChangeAt Go.RowKit
namespace Lx
/-- A call hands back a row of tokens of its own, a place, an error. -/
def HandsL (w : World) (r : Res) (e : Ending) (w' : World) : Prop := ∃ v, e = .returned (.tuple #[v, .int .i64 (r.2.1 : Int), .int .i64 r.2.2]) ∧ w'.ownsRow w.heap.size 29 4 v r.1.length (tkl r.1) ∧ Nw w w'
theorem HandsL.no {w w' : World} {r : Res} {k : Nat} {z : Int} (hr : r = ([], k, z)) (hn : Nw w w') : HandsL w r (.returned (.tuple #[.slice none 0 0, .int .i64 (k : Int), .int .i64 z])) w' := by
  subst hr
  exact ⟨_, rfl, World.ownsRow_nil _ _ _ _, hn⟩
theorem cells_new (w : World) (vs : List Value) (e : TypeId) (fr : Nat × Nat) : Cells (w.alloc (.cells vs.toArray e fr)) (some ⟨w.heap.size, 0, none⟩) vs := fun i hi => ⟨w.heap.size, 0, rfl, by rw [cell_new w vs.toArray e fr i (by simpa using hi)]; simp⟩
theorem cells_newAt (w : World) (vs : List Value) (e : TypeId) (fr : Nat × Nat) (g : Nat) (hg : g = w.heap.size) : Cells (w.alloc (.cells vs.toArray e fr)) (some ⟨g, 0, none⟩) vs := by subst hg; exact cells_new w vs e fr
theorem tkv_one (t : Tk) : ∀ u ∈ tkv t, u.oneCell' = true := by
  intro u hu
  simp [tkv] at hu
  rcases hu with rfl | rfl | rfl | rfl <;> rfl
theorem own_snoc {w : World} {B : Nat} {v : Value} {l : List Tk} {t : Tk} {n : Nat} {xs : List Value} (h : w.ownsRow B 29 4 v n xs) (hn : n = l.length + 1) (hx : xs = tkl l ++ tkv t) : w.ownsRow B 29 4 v (l ++ [t]).length (tkl (l ++ [t])) := by
  subst hn hx
  rw [tkl_snoc, List.length_append]
  exact h
theorem beq_u8 (x : UInt8) (c : Nat) (hc : c < 256) : ((x.toNat : Int) == (c : Int)) = decide (x = UInt8.ofNat c) := by
  rw [Bool.eq_iff_iff, beq_iff_eq, decide_eq_true_iff]
  constructor
  · intro h
    apply UInt8.toNat_inj.1
    rw [UInt8.toNat_ofNat']
    omega
  · rintro rfl
    rw [UInt8.toNat_ofNat']
    omega
set_option maxRecDepth 20000 in
set_option maxHeartbeats 1600000 in
theorem lex_c (bs : List UInt8) (w : World) (hb : bs.length ≤ 1000000000) : Calls Tryd.prog 5 #[.string ⟨bs.toArray⟩] w (HandsL w (lexP bs)) := by
  by_cases hbig : 2000 < bs.length
  · have hd : decide ((2000 : Int) < bs.length) = true := decide_eq_true (by omega)
    have HR := hid (show lexP bs = ([], 0, 4) by unfold lexP; rw [if_pos hbig])
    go_enter Tryd.func5, Tryd.ntmps5
    go_wp2
    go_ret3
    exact HandsL.no HR.out (Nw.refl _)
  · have hd : decide ((2000 : Int) < bs.length) = false := decide_eq_false (by omega)
    have HR := hid (show lexP bs = lexGo bs (bs.length + 1) 0 [] by unfold lexP; rw [if_neg hbig])
    go_enter Tryd.func5, Tryd.ntmps5
    go_wp2
    go_loopw [5, 6, 7, 8] (fun o i _ _ wr => ∃ (k f : Nat) (acc : List Tk), k ≤ bs.length ∧ i = .int .i64 (k : Int) ∧ bs.length - k < f ∧ Hid (lexGo bs f k acc = lexP bs) ∧ wr.ownsRow w.heap.size 29 4 o acc.length (tkl acc) ∧ acc.length ≤ k ∧ Nw w wr) (fun _ i _ _ _ => bs.length - (intOf i).toNat)
    case atStart => exact ⟨0, bs.length + 1, [], Nat.zero_le _, rfl, by omega, HR.out.symm, World.ownsRow_nil _ _ _ _, Nat.zero_le _, Nw.refl _⟩
    case round =>
      obtain ⟨k, f, acc, hk, rfl, hf, hgo, hown, hacc, hn⟩ := hrel
      obtain ⟨f, rfl⟩ : ∃ f', f = f' + 1 := ⟨f - 1, by omega⟩
      have HOW := hid hown
      clear hown
      by_cases hlt : k < bs.length
      · have hdk : decide (k < bs.length) = true := decide_eq_true hlt
        obtain ⟨x, hx⟩ : ∃ x, bs[k]? = some x := ⟨bs[k], by rw [List.getElem?_eq_getElem]⟩
        obtain ⟨hgb, hgx⟩ := str_at hx
        have b32 : ((x.toNat : Int) == 32) = decide (x = 32) := beq_u8 x 32 (by decide)
        have b10 : ((x.toNat : Int) == 10) = decide (x = 10) := beq_u8 x 10 (by decide)
        by_cases h32 : x = 32
        · rw [decide_eq_true h32] at b32
          have HS := hid (go_blank bs f k acc x hx (Or.inl h32))
          clear hx h32 b10
          go_wp2
          go_roundw
          case rel => exact ⟨k + 1, f, acc, by omega, by go_num, by omega, HS.out.symm.trans hgo.out, HOW.out, by omega, hn⟩
          case measure => simp [intOf]; omega
        · rw [decide_eq_false h32] at b32
          by_cases h10 : x = 10
          · rw [decide_eq_true h10] at b10
            have HS := hid (go_blank bs f k acc x hx (Or.inr h10))
            clear hx h32 h10
            go_wp2
            go_roundw
            case rel => exact ⟨k + 1, f, acc, by omega, by go_num, by omega, HS.out.symm.trans hgo.out, HOW.out, by omega, hn⟩
            case measure => simp [intOf]; omega
          · rw [decide_eq_false h10] at b10
            have hnb : ¬ (x = 32 ∨ x = 10) := by rintro (h | h); exact h32 h; exact h10 h
            have HTK := hid (fun w => token_c bs k x w hx hb)
            cases ht : tokAt bs k x with
            | none =>
              have HS := hid (go_none bs f k acc x hx hnb ht)
              rw [ht] at HTK
              clear hx h32 h10 hnb ht
              go_wp2_with (first
                | (go_at_call 8; refine (HTK.out _).mono ?_; rintro e w1 ⟨t, n, rfl, hn0, hn1⟩; dsimp only at hn0; subst hn0)
                | fail)
              go_ret3
              exact HandsL.no (hgo.out.symm.trans HS.out) (hn.trans (by repeat (first | assumption | exact Nw.refl _ | refine Nw.alloc ?_ _ | refine Nw.drew ?_ | refine Nw.drewN2 ?_ _ | (refine Nw.trans ?_ (by assumption)))))
            | some tn =>
              obtain ⟨t, n⟩ := tn
              have HS := hid (go_tok bs f k n acc x t hx hnb ht)
              have hts := tok_size hx ht
              obtain ⟨hn0, hkn⟩ := hts
              have hz : ((n : Int) == 0) = false := beq_eq_false_iff_ne.2 (by omega)
              rw [ht] at HTK
              clear hx h32 h10 hnb ht
              go_wp2_with (first
                | (go_at_call 8; refine (HTK.out _).mono ?_; rintro e w1 ⟨t', n', rfl, heq, hn1⟩; dsimp only at heq; obtain ⟨rfl, rfl⟩ := heq)
                | (at_builtin; refine appk rfl _ _ _ rfl _ _ _ _ Tryd.underlying24 info_tok rfl (by decide) (by decide) (Nw.size (hn.trans (hn1.trans (((Nw.refl w1).alloc _).alloc _)))) (Nw.ownsRow (hn1.trans (((Nw.refl w1).alloc _).alloc _)) HOW.out) rfl rfl (show (tkv t').length = 4 from rfl) (cells_newAt (w1.alloc _) (tkv t') _ _ _ (by simp)) (tkv_one t') ?_ ?_; rotate_left; omega; intro v2 w2 hown2 hm2)
                | fail)
              go_roundw
              case rel => exact ⟨k + n', f, acc ++ [t'], hkn, by go_num, by omega, HS.out.symm.trans hgo.out, own_snoc hown2 rfl rfl, by rw [List.length_append]; simp; omega, (hn.trans (hn1.trans (((Nw.refl w1).alloc _).alloc _))).ofMods hm2 (fun _ h => h)⟩
              case measure => simp [intOf]; omega
      · obtain rfl : k = bs.length := by omega
        have hdk : decide (bs.length < bs.length) = false := decide_eq_false (by omega)
        have HS := hid (go_end bs f bs.length acc (Nat.le_refl _))
        go_wp2_with (first
          | (at_builtin; refine appk rfl _ _ _ rfl _ _ _ _ Tryd.underlying24 info_tok rfl (by decide) (by decide) (Nw.size (hn.alloc _)) (Nw.ownsRow ((Nw.refl wr).alloc _) HOW.out) rfl rfl (show (tkv ⟨0, [], 0, bs.length⟩).length = 4 from rfl) (cells_new wr (tkv ⟨0, [], 0, bs.length⟩) _ _) (tkv_one _) ?_ ?_; rotate_left; omega; intro v2 w2 hown2 hm2)
          | fail)
        go_ret3
        have hres := hgo.out.symm.trans HS.out
        refine ⟨v2, ?_, ?_, (hn.alloc _).ofMods hm2 (fun _ h => h)⟩
        · rw [hres]; rfl
        · rw [hres]; exact own_snoc hown2 rfl rfl
end Lx
end Go.Proofs.YtfbokhodcgpppaaDoor
