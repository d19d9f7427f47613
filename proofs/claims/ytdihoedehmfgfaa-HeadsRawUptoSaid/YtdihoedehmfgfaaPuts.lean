/- The contracts of sum.Put, sum.Right and of the reference's: what they hand back, for any bytes not longer than 2^40. -/
import Derived.Test.YtdihoedehmfgfaaJSu
import Derived.Deep.DeepMust
set_option linter.unusedSimpArgs false
set_option linter.unusedVariables false
namespace Go.Proofs.Ytdihoedehmfgfaa
open Go.ChangeShapes Go.WideShapes Go.ChangeAt Go.RowKit
namespace Sum
/-! ### Four bytes of a sum -/
def byte (z : Int) : UInt8 := UInt8.ofNat z.toNat
theorem byte_val (z : Int) (h0 : 0 ≤ z) (h1 : z < 256) : ((byte z).toNat : Int) = z := by
  simp only [byte, UInt8.toNat_ofNat']
  omega
def be4 (s : Int) : List UInt8 := [byte (s / 16777216), byte (s / 65536 % 256), byte (s / 256 % 256), byte (s % 256)]
theorem be4_u8s (s : Int) (h0 : 0 ≤ s) (h1 : s < 4294967296) : u8s (be4 s) = [.int .u8 (s / 16777216), .int .u8 (s / 65536 % 256), .int .u8 (s / 256 % 256), .int .u8 (s % 256)] := by
  simp only [u8s, be4, List.map_cons, List.map_nil]
  rw [byte_val _ (by omega) (by omega), byte_val _ (by omega) (by omega), byte_val _ (by omega) (by omega), byte_val _ (by omega) (by omega)]
def put (bs : List UInt8) : List UInt8 := bs ++ be4 (more 1 bs)
/-- A call hands back a slice of bytes of its own. -/
def Hands8 (w : World) (bs : List UInt8) (e : Ending) (w' : World) : Prop := ∃ v, e = .returned v ∧ Own w' w.heap.size 5 v (u8s bs) ∧ Nw w w'
theorem own_done {w w0 : World} {v : Value} {bs : List UInt8} {xs : List Value} (h : Own w w0.heap.size 5 v (xs ++ u8s bs ++ [.int .u8 (more 1 bs / 16777216), .int .u8 (more 1 bs / 65536 % 256), .int .u8 (more 1 bs / 256 % 256), .int .u8 (more 1 bs % 256)])) (hn : Nw w0 w) (hx : xs = []) : Hands8 w0 (put bs) (.returned v) w := by
  subst hx
  have hb := more_bd 1 bs
  rw [← be4_u8s _ hb.1 hb.2, List.nil_append, u8s_append] at h
  exact ⟨v, rfl, h, hn⟩
set_option maxHeartbeats 400000 in
theorem put_c (v : Value) (bs : List UInt8) (w : World) (hv : Bytes w v bs) (hlen : bs.length ≤ 1073741824) :
    Calls Try.prog 81 #[v] w (Hands8 w (put bs)) := by
  obtain ⟨p, cap, rfl, hcap, hmx, _, hc⟩ := hv.open
  have hs := more_bd 1 bs
  go_enter Try.func81, Try.ntmps81
  go_wp2_with (first
    | (go_at_call 87; refine (sum_c _ _ _ hv).mono ?_; rintro e w' ⟨rfl, rfl⟩)
    | (at_make; refine mk1 rfl _ _ _ rfl _ _ _ Try.underlying22 info_u8 (by decide) (Nw.refl w) (bs.length + 4) rfl rfl ?_ ?_ ?_; rotate_left; omega; omega; intro v1 w1 hown1 hn1)
    | (at_builtin; refine app1 rfl _ _ _ rfl _ _ _ Try.underlying22 info_u8 rfl (by decide) (hn1) (hown1) rfl (hv.nw hn1) rfl (u8s_one _) ?_ ?_; rotate_left; (simp only [u8s_length, List.length_append, List.length_nil, List.length_cons, List.length_map]; omega); intro v2 w2 hown2 hg2 hn2; clear hown1)
    | (at_builtin; refine app1 rfl _ _ _ rfl _ _ _ Try.underlying22 info_u8 rfl (by decide) (hn2.alloc _) (Own.nw hown2 ((Nw.refl w2).alloc _)) rfl (Sl.new w2 [_, _, _, _] _ _ (by simp [maxLen])) rfl (by simp [Value.oneCell']) ?_ ?_; rotate_left; (simp only [u8s_length, List.length_append, List.length_nil, List.length_cons, List.length_map]; omega); intro v3 w3 hown3 hg3 hn3))
  go_ret
  exact own_done hown3 hn3 rfl
set_option maxHeartbeats 400000 in
theorem rput_c (v : Value) (bs : List UInt8) (w : World) (hv : Bytes w v bs) (hlen : bs.length ≤ 1073741824) :
    Calls Try.prog 47 #[v] w (Hands8 w (put bs)) := by
  have hs := more_bd 1 bs
  go_enter Try.func47, Try.ntmps47
  go_wp2_with (first
    | (go_at_call 78; refine (rsum_c _ _ _ hv).mono ?_; rintro e w' ⟨rfl, rfl⟩)
    | (at_builtin; refine app1 rfl _ _ _ rfl _ _ _ Try.underlying22 info_u8 rfl (by decide) ((Nw.refl w).alloc _) (Own.new w _ _ [] (Nat.le_refl _) (Nat.zero_le _)) rfl (hv.nw ((Nw.refl w).alloc _)) rfl (u8s_one _) ?_ ?_; rotate_left; (simp only [u8s_length, List.length_append, List.length_nil, List.length_cons, List.length_map]; omega); intro v2 w2 hown2 hg2 hn2)
    | (at_builtin; refine app1 rfl _ _ _ rfl _ _ _ Try.underlying22 info_u8 rfl (by decide) (hn2.alloc _) (Own.nw hown2 ((Nw.refl w2).alloc _)) rfl (Sl.new w2 [_, _, _, _] _ _ (by simp [maxLen])) rfl (by simp [Value.oneCell']) ?_ ?_; rotate_left; (simp only [u8s_length, List.length_append, List.length_nil, List.length_cons, List.length_map]; omega); intro v3 w3 hown3 hg3 hn3))
  go_ret
  exact own_done hown3 hn3 rfl

/-! ### sum.Right, watchglassref1.Right -/
/-- What stands ahead of a sum that is right. -/
def right (bs : List UInt8) : Option (List UInt8) := if 4 ≤ bs.length ∧ put (bs.take (bs.length - 4)) = bs then some (bs.take (bs.length - 4)) else none
def val (l : List UInt8) : Int := l.foldl (fun s x => s * 256 + x.toNat) 0
theorem val_snoc (l : List UInt8) (k : Nat) (x : UInt8) (h : l[k]? = some x) : val (l.take (k + 1)) = val (l.take k) * 256 + x.toNat := by
  rw [List.take_add_one, h]; simp [val]
theorem val_bd (l : List UInt8) (h : l.length ≤ 3) : 0 ≤ val l ∧ val l < 16777216 := by
  match l, h with
  | [], _ => simp [val]
  | [a], _ => have := a.toNat_lt; simp [val]; omega
  | [a, b], _ => have := a.toNat_lt; have := b.toNat_lt; simp [val]; omega
  | [a, b, c], _ => have := a.toNat_lt; have := b.toNat_lt; have := c.toNat_lt; simp [val]; omega
theorem u8_eq {a b : UInt8} (h : (a.toNat : Int) = b.toNat) : a = b := UInt8.toNat_inj.1 (by omega)
theorem val_be4 (l : List UInt8) (h : l.length = 4) (s : Int) (h0 : 0 ≤ s) (h1 : s < 4294967296) : val l = s ↔ l = be4 s := by
  match l, h with
  | [a, b, c, d], _ =>
    have := a.toNat_lt; have := b.toNat_lt; have := c.toNat_lt; have := d.toNat_lt
    have e1 := byte_val (s / 16777216) (by omega) (by omega)
    have e2 := byte_val (s / 65536 % 256) (by omega) (by omega)
    have e3 := byte_val (s / 256 % 256) (by omega) (by omega)
    have e4 := byte_val (s % 256) (by omega) (by omega)
    constructor
    · intro h
      simp [val] at h
      simp only [be4, List.cons.injEq, and_true]
      exact ⟨u8_eq (by omega), u8_eq (by omega), u8_eq (by omega), u8_eq (by omega)⟩
    · intro h
      simp only [be4, List.cons.injEq, and_true] at h
      obtain ⟨rfl, rfl, rfl, rfl⟩ := h
      simp only [val, List.foldl_cons, List.foldl_nil, e1, e2, e3, e4]
      omega
theorem right_iff (bs : List UInt8) (n : Nat) (h : bs.length = n + 4) : (val (bs.drop n) = more 1 (bs.take n)) ↔ put (bs.take n) = bs := by
  have hb := more_bd 1 (bs.take n)
  rw [val_be4 _ (by simp; omega) _ hb.1 hb.2]
  constructor
  · intro e
    have := List.take_append_drop n bs
    rw [e] at this
    exact this
  · intro e
    have h2 : bs.drop n = (put (bs.take n)).drop n := by rw [e]
    rw [h2]
    simp only [put]
    rw [List.drop_append_of_le_length (by simp; omega), List.drop_take]
    simp
theorem or_val (c a : Int) (h1 : 0 ≤ c) (h2 : c < 16777216) (h3 : 0 ≤ a) (h4 : a < 256) : bits .or .u32 (c * 256) a = c * 256 + a := by
  rw [u32_or _ _ (by omega) (by omega) (by omega) (by omega), nat_join 8 _ _ (by omega) (by omega)]; omega
/-- A call hands back what stands ahead of a right sum. -/
def HandsR (w : World) (bs : List UInt8) (e : Ending) (w' : World) : Prop := ∃ v, e = .returned (.tuple #[v, .bool (right bs).isSome]) ∧ Bytes w' v ((right bs).getD []) ∧ Nw w w'
theorem HandsR.no {w w' : World} {bs : List UInt8} (h : right bs = none) (hn : Nw w w') : HandsR w bs (.returned (.tuple #[.slice none 0 0, .bool false])) w' :=
  ⟨_, by rw [h]; rfl, by rw [h]; exact Bytes.nil _, hn⟩
theorem HandsR.yes {w w' : World} {bs r : List UInt8} {v : Value} (h : right bs = some r) (hv : Bytes w' v r) (hn : Nw w w') : HandsR w bs (.returned (.tuple #[v, .bool true])) w' :=
  ⟨_, by rw [h]; rfl, by rw [h]; exact hv, hn⟩
set_option maxHeartbeats 400000 in
theorem right_short (v : Value) (bs : List UInt8) (w : World) (hv : Bytes w v bs) (hlen : bs.length < 4) :
    Calls Try.prog 57 #[v] w (HandsR w bs) := by
  obtain ⟨p, cap, rfl, hcap, hmx, _, hc⟩ := hv.open
  have hno : right bs = none := by simp [right]; omega
  have HN := hid hno
  clear hno
  go_enter Try.func57, Try.ntmps57
  go_wp2
  go_ret2
  exact HandsR.no HN.out (Nw.refl _)
set_option maxRecDepth 20000 in
set_option maxHeartbeats 400000 in
theorem right_long (v : Value) (bs : List UInt8) (w : World) (n : Nat) (hv : Bytes w v bs) (hlen : bs.length = n + 4) (hn : n ≤ 1073741824) :
    Calls Try.prog 57 #[v] w (HandsR w bs) := by
  obtain ⟨p, cap, rfl, hcap, hmx, _, hc⟩ := hv.open
  obtain ⟨b, off, rfl⟩ := hc.place (by rw [u8s_length]; omega)
  have hne : ¬ cap = n := by omega
  have hcn : n ≤ cap := by omega
  have hb1 : Bytes w (.slice (some ⟨b, off, none⟩) n cap) (bs.take n) := Bytes.mk (by rw [u8s_take]; exact hc.take n) (by simp; omega) (by simp; omega) hmx (fun h => by cases h)
  have hc2 : Cells w (some ⟨b, off + n, none⟩) (u8s (bs.drop n)) := by rw [u8s_drop]; exact hc.drop n
  have hl2 : (bs.drop n).length = 4 := by simp; omega
  have hiff := right_iff bs n hlen
  have hr1 : right bs = if put (bs.take n) = bs then some (bs.take n) else none := by
    simp only [right, show bs.length - 4 = n by omega, show 4 ≤ bs.length by omega, true_and]
  unfold maxLen at hmx
  generalize bs.drop n = ds at *
  have HI := hid hiff
  have HR := hid hr1
  have HL := hid hl2
  rw [hlen]
  have HN := hid hlen
  clear hiff hr1 hl2 hlen
  go_enter Try.func57, Try.ntmps57
  go_wp2
  go_loop [5, 7, 17] (fun s _ i => ∃ k : Nat, k ≤ 4 ∧ i = .int .i64 k ∧ s = .int .u32 (val (ds.take k))) (fun _ _ i => 4 - (intOf i).toNat)
  case atStart => exact ⟨0, Nat.zero_le _, rfl, rfl⟩
  case round =>
    obtain ⟨k, hk, rfl, rfl⟩ := hrel
    by_cases hlt : k < 4
    · obtain ⟨b', off', x, e, hcell, hx, hlx⟩ := u8s_cell hc2 k (by rw [HL.out]; exact hlt)
      cases e
      have hbd := val_bd (ds.take k) (by simp; omega)
      have HS := hid (val_snoc ds k x hx.out)
      generalize val (ds.take k) = A at *
      obtain ⟨g1, g2⟩ := hbd
      have ho := or_val A x.toNat g1 g2 (by omega) hlx
      clear hc hc2
      go_wp2
      go_round
      case rel => exact ⟨k + 1, by omega, by go_num, by rw [HS.out]⟩
      case measure => simp [intOf]; omega
    · have hd : ds.take k = ds := List.take_of_length_le (by have := HL.out; omega)
      rw [hd]
      clear hd
      by_cases hp : val ds = more 1 (bs.take n)
      · have HP := hid hp
        rw [hp]
        have hq := HI.out.1 hp
        have hr := HR.out
        rw [if_pos hq] at hr
        have HR2 := hid hr
        clear hp hq hr
        go_wp2_with (first
          | (go_at_call 87; refine (sum_c _ _ _ hb1).mono ?_; rintro e w' ⟨rfl, rfl⟩)
          | (at_builtin; refine app1 rfl _ _ _ rfl _ _ _ Try.underlying22 info_u8 rfl (by decide) (Nw.refl w) (Own.nil _ _ _) rfl (hb1) rfl (u8s_one _) ?_ ?_; rotate_left; (simp [u8s]; omega); intro v3 w3 hown3 hg3 hn3))
        go_ret2
        exact HandsR.yes HR2.out (by unfold Bytes; have := hown3.sl; simpa using this) hn3
      · have hq : ¬ put (bs.take n) = bs := fun h => hp (HI.out.2 h)
        have hr := HR.out
        rw [if_neg hq] at hr
        have HR2 := hid hr
        have hb : (val ds != more 1 (bs.take n)) = true := by simpa using hp
        clear hp hq hr
        go_wp2_with (go_at_call 87; refine (sum_c _ _ _ hb1).mono ?_; rintro e w' ⟨rfl, rfl⟩)
        go_ret2
        exact HandsR.no HR2.out (Nw.refl _)
set_option maxRecDepth 20000 in
set_option maxHeartbeats 400000 in
theorem rright_short (v : Value) (bs : List UInt8) (w : World) (hv : Bytes w v bs) (hlen : bs.length < 4) :
    Calls Try.prog 74 #[v] w (HandsR w bs) := by
  obtain ⟨p, cap, rfl, hcap, hmx, _, hc⟩ := hv.open
  have hno : right bs = none := by simp [right]; omega
  have HN := hid hno
  clear hno
  go_enter Try.func74, Try.ntmps74
  go_wp2
  go_ret2
  exact HandsR.no HN.out (Nw.refl _)
set_option maxRecDepth 20000 in
set_option maxHeartbeats 400000 in
theorem rright_long (v : Value) (bs : List UInt8) (w : World) (n : Nat) (hv : Bytes w v bs) (hlen : bs.length = n + 4) (hn : n ≤ 1073741824) :
    Calls Try.prog 74 #[v] w (HandsR w bs) := by
  obtain ⟨p, cap, rfl, hcap, hmx, hnil, hc⟩ := hv.open
  have hcn : n ≤ cap := by omega
  have hb1 : Bytes w (.slice p n cap) (bs.take n) := Bytes.mk (by rw [u8s_take]; exact hc.take n) (by simp; omega) (by simp; omega) hmx hnil
  have hr1 : right bs = if put (bs.take n) = bs then some (bs.take n) else none := by
    simp only [right, show bs.length - 4 = n by omega, show 4 ≤ bs.length by omega, true_and]
  have hs1 := str_later hv
  have ht : (bs.take n).length ≤ 1073741824 := by simp; omega
  unfold maxLen at hmx
  have HR := hid hr1
  rw [hlen] at hs1 hv ⊢
  have hyes : (put (bs.take n) == bs) = true → right bs = some (bs.take n) := fun h => by rw [HR.out, if_pos (by simpa using h)]
  have hno : (put (bs.take n) == bs) = false → right bs = none := fun h => by rw [HR.out, if_neg (by simpa using h)]
  have HY := hid hyes
  have HN := hid hno
  clear hr1 hlen hnil HR hyes hno
  rcases Bool.eq_false_or_eq_true (put (bs.take n) == bs) with hb | hb
  all_goals
    go_enter Try.func74, Try.ntmps74
    go_wp2_with fail
    go_region_with ((go_at_call 47; refine (rput_c _ _ _ (hb1.nw (by repeat (first | assumption | exact Nw.refl _ | refine Nw.alloc ?_ _ | refine Nw.drew ?_ | refine Nw.drewN2 ?_ _ | (refine Nw.trans ?_ (by assumption))))) ht).mono ?_; rintro e w1 ⟨v1, rfl, hown1, hn1⟩; have hs2 := str_ok hown1.sl; have hm1 : Nw w w1 := (by simpa using hn1)))
  all_goals
    go_wp2
    go_ret2
    first | exact HandsR.yes (HY.out hb) (hb1.nw hm1) hm1 | exact HandsR.no (HN.out hb) hm1
theorem right_c (v : Value) (bs : List UInt8) (w : World) (hv : Bytes w v bs) (hn : bs.length ≤ 1073741824) :
    Calls Try.prog 57 #[v] w (HandsR w bs) := by
  by_cases h : bs.length < 4
  · exact right_short v bs w hv h
  · exact right_long v bs w (bs.length - 4) hv (by omega) (by omega)
theorem rright_c (v : Value) (bs : List UInt8) (w : World) (hv : Bytes w v bs) (hn : bs.length ≤ 1073741824) :
    Calls Try.prog 74 #[v] w (HandsR w bs) := by
  by_cases h : bs.length < 4
  · exact rright_short v bs w hv h
  · exact rright_long v bs w (bs.length - 4) hv (by omega) (by omega)
end Sum
end Go.Proofs.Ytdihoedehmfgfaa
