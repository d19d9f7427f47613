/- The contracts of log.header, watchglassref8.Header, and both Encodes. No condition but lengths. -/
import Derived.Test.YtdihoedehmfgfaaLogA
import Derived.Test.YtdihoedehmfgfaaRecC
import Derived.Test.YtdihoedehmfgfaaTrI
import Derived.Lib.AppendStr
import Derived.Lib.AppendZerosOnto
import Derived.Lib.SlBytesConst
set_option linter.unusedSimpArgs false
set_option linter.unusedVariables false
namespace Go.Proofs.Ytdihoedehmfgfaa
open Go.ChangeShapes Go.WideShapes Go.ChangeAt Go.RowKit
/-- A string's bytes behind bytes of the call's own. -/
theorem app1s {P : Program} {w : World} {ops : Array Oper} {rest : List Oper} {o : Oper} {a : Act} {Q : Exit → Act → World → Prop} (hgd : o.guard = none) (s x : Operand) (t u : TypeId) (ho : o.op = .call { callee := .builtin .append, args := #[s, x], argTypes := #[t, u] })
    (e : TypeId) (ht : P.underlying t = some (.slice e)) (hu : P.underlying u = some .string) (hinfo : (P.info? e).map (fun i => (i.zero, i.size, i.bytes)) = some (some (.int .u8 0), 1, 1))
    {w0 : World} (hn : Nw w0 w) {v : Value} {xs : List Value} (hown : Own w w0.heap.size e v xs) (hs : a.eval s = v) {st : ByteArray} (hx : a.eval x = .string st)
    (h : ∀ v' w', Own w' w0.heap.size e v' (xs ++ u8s st.data.toList) → w.grownBy w' v.ownBlock → Nw w0 w' → wpList P ops Q rest (a.put o.dst v') w')
    (h63 : xs.length + st.size ≤ 1099511627776) : wpList P ops Q (o :: rest) a w := by
  obtain ⟨i, hi, hz0, hz1, hz2⟩ := info_parts hinfo
  refine Lib.wpList_append_own_string (P := P) w hgd s x t u ho w0.heap.size e i ht hu hi hz0 hz1 hz2 v xs.length xs hs hown st hx (by unfold maxLen; omega) (by omega) hn.size (fun v' w' h2 h3 _ => ?_)
  refine h v' w' ?_ h3 (hn.grown h3 (fun k hk => Own.lt hown k hk))
  have e1 : (Lib.strCells st).length = st.size := Lib.strCells_length st
  have e2 : (xs ++ u8s st.data.toList).length = xs.length + st.size := by
    show (xs ++ Lib.strCells st).length = _
    rw [List.length_append, e1]
  unfold Own
  rw [e2]
  exact h2
/-- What is appended to a full slice lies, if there is any, in a row of the call's own. -/
theorem appfo {P : Program} {w : World} {ops : Array Oper} {rest : List Oper} {o : Oper} {a : Act} {Q : Exit → Act → World → Prop} (hgd : o.guard = none) (s x : Operand) (t : TypeId) (ho : o.op = .call { callee := .builtin .append, args := #[s, x], argTypes := #[t, t] })
    (e : TypeId) (z : Value) (bytes : Nat) (ht : P.underlying t = some (.slice e)) (hinfo : (P.info? e).map (fun i => (i.zero, i.size, i.bytes)) = some (some z, 1, bytes)) (hz : z.cells.size = 1) (hby : bytes ≤ 128)
    {w0 : World} (hn : Nw w0 w) {b0 off n : Nat} {xs : List Value} (hsl : Sl w (.slice (some ⟨b0, off, none⟩) n n) xs) (hs : a.eval s = .slice (some ⟨b0, off, none⟩) n n) {u : Value} {news : List Value} (hu : Sl w u news) (hx : a.eval x = u) (hpos : 0 < news.length)
    (h : ∀ v' w', Own w' w0.heap.size e v' (xs ++ news) → Nw w0 w' → wpList P ops Q rest (a.put o.dst v') w')
    (h63 : xs.length + news.length ≤ 1099511627776) : wpList P ops Q (o :: rest) a w := by
  obtain ⟨i, hi, hz0, hz1, hz2⟩ := info_parts hinfo
  obtain ⟨ps, cs, es, hcs, hms, _, hcl⟩ := id hsl
  obtain ⟨p, cap, rfl, hcap, hmx, hnone, hc⟩ := hu
  cases es
  obtain ⟨b1, o1, rfl⟩ := hc.place hpos
  have hml : xs.length + news.length ≤ maxLen := by unfold maxLen; omega
  have hr := run_append_grow (P := P) w t o.type e i z ht hi hz0 ⟨b0, off, none⟩ xs.length xs.length xs (by rw [hz1]; omega) (fun j v hj => by
      obtain ⟨hjl, rfl⟩ := List.getElem?_eq_some_iff.1 hj
      obtain ⟨b, o, e1, hcell⟩ := hcl j hjl
      cases e1
      rw [addr_add]; exact hcell) ⟨b1, o1, none⟩ news.length cap news (by rw [hz1]; omega) (fun j v hj => by
      obtain ⟨hjl, rfl⟩ := List.getElem?_eq_some_iff.1 hj
      obtain ⟨b, o, e1, hcell⟩ := hc j hjl
      cases e1
      rw [addr_add]; exact hcell) (by omega) (by omega) (growslice_fits (by omega) (by rw [hz2]; have := Nat.mul_le_mul h63 hby; omega))
  refine Lib.wpList_append_run w hgd s x t t ho _ _ hs hx _ _ hr (h _ _ ?_ ((hn.trans (Nw.refl w).drew).alloc _))
  have hge := grownCap_ge w (xs.length + news.length) xs.length e
  have hcm : grownCap w (xs.length + news.length) xs.length e ≤ maxLen := grownCap_le_maxLen w (xs.length + news.length) xs.length e hml
  refine ⟨by simp, .inr ⟨w.heap.size, _, _, by rw [List.length_append], hn.size, heap_alloc_new w.drew _, by rw [List.length_append]; exact hge, hcm, ?_, ?_⟩⟩
  · simp only [Array.size_append, size_zeroCells, List.size_toArray, hz]
    omega
  · rw [Nat.mul_one]
    simp only [Array.toList_append]
    exact List.take_left
namespace Lg
open Go.Proofs.Ytdihoedehmfgfaa.Lx (isIn nameB strs strs_open strs_cell)
open Go.Proofs.Ytdihoedehmfgfaa.Rec (rises rec_ get putE rec_len put_len i64s_open i64_cell)
open Go.Proofs.Ytdihoedehmfgfaa.Sum (byte put right Hands8)
open Go.Proofs.Ytdihoedehmfgfaa.Tr (T Es tm ids mayP namesP nmB nOk namesTo Evs EC Small)
theorem hands_own {w w' : World} {v : Value} {bs : List UInt8} {xs : List Value} (h : Own w' w.heap.size 5 v xs) (hx : xs = u8s bs) (hn : Nw w w') : Hands8 w bs (.returned v) w' := ⟨v, rfl, by rw [← hx]; exact h, hn⟩
theorem byte_int (n : Nat) (h : n < 256) : Value.int .u8 ((byte (n : Int)).toNat : Int) = .int .u8 (n : Int) := by
  rw [Sum.byte_val _ (by omega) (by omega)]
theorem pre_u8s (n : Nat) (h : n < 256) : u8s (preX n) = [.int .u8 87, .int .u8 71, .int .u8 76, .int .u8 1, .int .u8 (n : Int)] := by
  have := byte_int n h
  simp only [u8s, preX, List.map_cons, List.map_nil, this]
  rfl
theorem nm_step (X : List UInt8) (l : List ByteArray) (k : Nat) (h : k < l.length) (hs : (l.getD k ⟨#[]⟩).size < 256) : u8s (X ++ nms (l.take k)) ++ [.int .u8 ((l.getD k ⟨#[]⟩).size : Int)] ++ u8s (l.getD k ⟨#[]⟩).data.toList = u8s (X ++ nms (l.take (k + 1))) := by
  rw [nms_snoc l k h]
  have := byte_int _ hs
  simp only [u8s, nm, List.map_append, List.map_cons, List.append_assoc, this, List.cons_append, List.nil_append]
theorem getd_strs {l : List ByteArray} {k : Nat} (h : k < l.length) : l.getD k ⟨#[]⟩ ∈ l := by
  simp [List.getD_eq_getElem?_getD, h]
set_option maxRecDepth 20000 in
set_option maxHeartbeats 1600000 in
theorem header_c (v : Value) (l : List ByteArray) (w : World) (hv : Sl w v (strs l)) (hl : l.length ≤ 64) (hs : ∀ s ∈ l, s.size ≤ 16) :
    Calls Try.prog 49 #[v] w (Hands8 w (headerP l)) := by
  have HS := hid hs
  have HLN := hid (fun k => head_len (l.take k) (fun s h => hs s (List.mem_of_mem_take h)))
  obtain ⟨p, cap, rfl, hcap, hmx, _, hc⟩ := strs_open hv
  have HC := hid hc
  have HP := hid (pre_u8s l.length (by omega))
  have hl2 : (l.length : Int) ≤ 64 := by omega
  clear hv hs hc
  go_enter Try.func49, Try.ntmps49
  have hcv := Lib.run_convert_bytes_const (P := Try.prog) w 22 5 #[.int .u8 87, .int .u8 71, .int .u8 76, .int .u8 1] 4 4 Try.underlying22 Try.underlying5
  go_wp2_with (first
    | (at_builtin; go_loud (refine appfo rfl _ _ _ rfl _ _ _ Try.underlying22 info_u8 rfl (by decide) (((Nw.refl w).alloc (.cells #[.int .u8 87, .int .u8 71, .int .u8 76, .int .u8 1] 5 (4, 5))).alloc _) ((Sl.new w [.int .u8 87, .int .u8 71, .int .u8 76, .int .u8 1] _ _ (by simp [maxLen])).nw ((Nw.refl _).alloc _)) rfl (Sl.newAt (w.alloc (.cells #[.int .u8 87, .int .u8 71, .int .u8 76, .int .u8 1] 5 (4, 5))) [_] _ _ (w.heap.size + 1) 1 (by simp) rfl (by simp [maxLen])) rfl (by simp) ?_ ?_); rotate_left; (simp); intro v1 w1 hown1 hn1)
    | fail)
  go_loopw [3, 5, 15] (fun r _ i wr => ∃ k : Nat, k ≤ l.length ∧ i = .int .i64 k ∧ Own wr w.heap.size 5 r (u8s (preX l.length ++ nms (l.take k))) ∧ Nw w wr) (fun _ _ i _ => l.length - (intOf i).toNat)
  case atStart => exact ⟨0, Nat.zero_le _, rfl, by rw [List.take_zero]; show Own _ _ _ _ (u8s (preX l.length ++ [])); rw [List.append_nil, HP.out]; exact hown1, hn1⟩
  case round =>
    obtain ⟨k, hk, rfl, hown, hn⟩ := hrel
    have hpl : (preX l.length ++ nms (l.take k)).length ≤ 2000 := by
      have h1 := nms_len (l.take k) (fun s h => HS.out s (List.mem_of_mem_take h))
      have h2 : (l.take k).length ≤ 64 := by rw [List.length_take]; omega
      rw [List.length_append]
      simp only [preX, List.length_cons, List.length_nil]
      omega
    by_cases hlt : k < l.length
    · have hdk : decide (k < l.length) = true := decide_eq_true hlt
      obtain ⟨b1, o1, rfl, hcell⟩ := strs_cell (HC.out.nw hn) k hlt
      rw [show l[k] = l.getD k ⟨#[]⟩ by simp [List.getD_eq_getElem?_getD, hlt]] at hcell
      have hsz := HS.out _ (getd_strs hlt)
      have HT := hid (nm_step (preX l.length) l k hlt (by omega))
      generalize l.getD k ⟨#[]⟩ = s at *
      generalize preX l.length ++ nms (l.take k) = X at *
      obtain ⟨pr, cr, rfl, _⟩ := hown.sl.open (n := X.length) (u8s_length _)
      have hszi : (s.size : Int) ≤ 16 := by omega
      go_wp2_with (first
        | (at_builtin; refine app1 rfl _ _ _ rfl _ _ _ Try.underlying22 info_u8 rfl (by decide) (hn.alloc _) (hown.nw ((Nw.refl _).alloc _)) rfl (Sl.new wr [_] _ _ (by simp [maxLen])) rfl (by simp [Value.oneCell']) ?_ ?_; rotate_left; (rw [u8s_length]; simp only [List.length_cons, List.length_nil]; omega); intro v3 w3 hown3 hg3 hn3; obtain ⟨q3, c3, rfl, _⟩ := hown3.sl.open (n := X.length + 1) (by simp [u8s_length]))
        | (at_builtin; refine app1s rfl _ _ _ _ rfl _ Try.underlying22 Try.underlying9 info_u8 hn3 hown3 rfl rfl ?_ ?_; rotate_left; (simp only [u8s_length, List.length_append, List.length_cons, List.length_nil]; omega); intro v4 w4 hown4 hg4 hn4)
        | fail)
      go_roundw
      case rel => exact ⟨k + 1, by omega, by go_num, by rw [← HT.out]; exact hown4, hn4⟩
      case measure => (simp [intOf] <;> omega)
    · obtain rfl : k = l.length := by omega
      have hdk : decide (l.length < l.length) = false := decide_eq_false (by omega)
      rw [List.take_length] at hown hpl
      have HE := hid (show headerP l = put (preX l.length ++ nms l) from rfl)
      generalize preX l.length ++ nms l = X at *
      obtain ⟨pr, cr, rfl, _⟩ := hown.sl.open (n := X.length) (u8s_length _)
      go_wp2_with (first
        | (go_at_call 81; refine (Sum.put_c _ X _ hown.sl (by omega)).mono ?_; rintro e w4 ⟨v4, rfl, hown4, hn4⟩)
        | fail)
      go_ret
      exact hands_own (Own.mono hown4 hn.size) (by rw [HE.out]) (hn.trans hn4)

set_option maxRecDepth 20000 in
set_option maxHeartbeats 1600000 in
theorem rheader_c (v : Value) (l : List ByteArray) (w : World) (hv : Sl w v (strs l)) (hl : l.length ≤ 64) (hs : ∀ s ∈ l, s.size ≤ 16) :
    Calls Try.prog 44 #[v] w (Hands8 w (headerP l)) := by
  have HS := hid hs
  have HLN := hid (fun k => head_len (l.take k) (fun s h => hs s (List.mem_of_mem_take h)))
  obtain ⟨p, cap, rfl, hcap, hmx, _, hc⟩ := strs_open hv
  have HC := hid hc
  have HP := hid (pre_u8s l.length (by omega))
  have hl2 : (l.length : Int) ≤ 64 := by omega
  clear hv hs hc
  go_enter Try.func44, Try.ntmps44
  have hcv := Lib.run_convert_bytes_const (P := Try.prog) w 22 5 #[.int .u8 87, .int .u8 71, .int .u8 76, .int .u8 1] 4 4 Try.underlying22 Try.underlying5
  go_wp2
  go_loopw [3, 5, 12] (fun r _ i wr => ∃ k : Nat, k ≤ l.length ∧ i = .int .i64 k ∧ Own wr w.heap.size 5 r (u8s (preX l.length ++ nms (l.take k))) ∧ Nw w wr) (fun _ _ i _ => l.length - (intOf i).toNat)
  case atStart => exact ⟨0, Nat.zero_le _, rfl, by rw [List.take_zero]; show Own _ _ _ _ (u8s (preX l.length ++ [])); rw [List.append_nil, HP.out]; exact Own.newAt w _ _ [_, _, _, _, _] _ _ rfl rfl (Nat.le_refl _) (by simp [maxLen]), (Nw.refl _).alloc _⟩
  case round =>
    obtain ⟨k, hk, rfl, hown, hn⟩ := hrel
    have hpl : (preX l.length ++ nms (l.take k)).length ≤ 2000 := by
      have h1 := nms_len (l.take k) (fun s h => HS.out s (List.mem_of_mem_take h))
      have h2 : (l.take k).length ≤ 64 := by rw [List.length_take]; omega
      rw [List.length_append]
      simp only [preX, List.length_cons, List.length_nil]
      omega
    by_cases hlt : k < l.length
    · have hdk : decide (k < l.length) = true := decide_eq_true hlt
      obtain ⟨b1, o1, rfl, hcell⟩ := strs_cell (HC.out.nw hn) k hlt
      rw [show l[k] = l.getD k ⟨#[]⟩ by simp [List.getD_eq_getElem?_getD, hlt]] at hcell
      have hsz := HS.out _ (getd_strs hlt)
      have HT := hid (nm_step (preX l.length) l k hlt (by omega))
      generalize l.getD k ⟨#[]⟩ = s at *
      generalize preX l.length ++ nms (l.take k) = X at *
      obtain ⟨pr, cr, rfl, _⟩ := hown.sl.open (n := X.length) (u8s_length _)
      have hszi : (s.size : Int) ≤ 16 := by omega
      go_wp2_with (first
        | (at_builtin; refine app1 rfl _ _ _ rfl _ _ _ Try.underlying22 info_u8 rfl (by decide) (hn.alloc _) (hown.nw ((Nw.refl _).alloc _)) rfl (Sl.new wr [_] _ _ (by simp [maxLen])) rfl (by simp [Value.oneCell']) ?_ ?_; rotate_left; (rw [u8s_length]; simp only [List.length_cons, List.length_nil]; omega); intro v3 w3 hown3 hg3 hn3; obtain ⟨q3, c3, rfl, _⟩ := hown3.sl.open (n := X.length + 1) (by simp [u8s_length]))
        | (at_builtin; refine app1s rfl _ _ _ _ rfl _ Try.underlying22 Try.underlying9 info_u8 hn3 hown3 rfl rfl ?_ ?_; rotate_left; (simp only [u8s_length, List.length_append, List.length_cons, List.length_nil]; omega); intro v4 w4 hown4 hg4 hn4)
        | fail)
      go_roundw
      case rel => exact ⟨k + 1, by omega, by go_num, by rw [← HT.out]; exact hown4, hn4⟩
      case measure => (simp [intOf] <;> omega)
    · obtain rfl : k = l.length := by omega
      have hdk : decide (l.length < l.length) = false := decide_eq_false (by omega)
      rw [List.take_length] at hown hpl
      have HE := hid (show headerP l = put (preX l.length ++ nms l) from rfl)
      generalize preX l.length ++ nms l = X at *
      obtain ⟨pr, cr, rfl, _⟩ := hown.sl.open (n := X.length) (u8s_length _)
      go_wp2_with (first
        | (go_at_call 47; refine (Sum.rput_c _ X _ hown.sl (by omega)).mono ?_; rintro e w4 ⟨v4, rfl, hown4, hn4⟩)
        | fail)
      go_ret
      exact hands_own (Own.mono hown4 hn.size) (by rw [HE.out]) (hn.trans hn4)

end Lg
end Go.Proofs.Ytdihoedehmfgfaa
