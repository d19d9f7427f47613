/- VerdictTexts, VerdictParses walked. No condition but lengths, and what the library's variables hold. -/
import Derived.Test.YtlimhggkimnddaaDoorVerR
set_option linter.unusedSimpArgs false
set_option linter.unusedVariables false
namespace Go.Proofs.YtlimhggkimnddaaDoor
open Go.ChangeShapes Go.WideShapes Go.ChangeAt Go.RowKit
namespace Vd
theorem texts_walk (v : Value) (l : List It) (w : World) (hm : Mx w) (ht : Tab w) (hv : Its w v l) (hr : ∀ x ∈ l, Rg x) (hl : l.length ≤ 2000000) : Calls Tryd.prog 3 #[v] w (Gives (.bool true) w) := by
  have HT := hid (fun w' (h : Nw w w') => text_c v l w' (hv.nw h) hr hl (ht.nw h))
  have HR := hid (fun w' (h : Nw w w') => rtext_c v l w' (hv.nw h) hr hl (ht.nw h))
  have HA := hid (fun w' (h : Nw w w') => awake_c w' (hm.nw h) (ht.nw h))
  obtain ⟨p, c, rfl, _⟩ := hv.open rfl
  generalize text l = T at *
  go_enter Tryd.func3, Tryd.ntmps3
  go_wp2_with (first
    | (go_at_call 9; refine (HT.out _ (by repeat (first | assumption | exact Nw.refl _ | refine Nw.alloc ?_ _ | refine Nw.drew ?_ | refine Nw.drewN2 ?_ _ | (refine Nw.trans ?_ (by assumption))))).mono ?_; rintro e w1 ⟨rfl, hn1⟩)
    | (go_at_call 10; refine (HR.out _ (by repeat (first | assumption | exact Nw.refl _ | refine Nw.alloc ?_ _ | refine Nw.drew ?_ | refine Nw.drewN2 ?_ _ | (refine Nw.trans ?_ (by assumption))))).mono ?_; rintro e w2 ⟨rfl, hn2⟩)
    | (go_at_call 11; refine (HA.out _ (by repeat (first | assumption | exact Nw.refl _ | refine Nw.alloc ?_ _ | refine Nw.drew ?_ | refine Nw.drewN2 ?_ _ | (refine Nw.trans ?_ (by assumption))))).mono ?_; rintro e w3 ⟨rfl, hn3⟩)
    | fail)
  go_ret
  exact ⟨rfl, (by repeat (first | assumption | exact Nw.refl _ | refine Nw.alloc ?_ _ | refine Nw.drew ?_ | refine Nw.drewN2 ?_ _ | (refine Nw.trans ?_ (by assumption))))⟩
theorem str_form (s : ByteArray) : s = ⟨s.data.toList.toArray⟩ := rfl
theorem parses_walk (s : ByteArray) (w : World) (hm : Mx w) (ht : Tab w) (hs : s.data.toList.length ≤ 1000000000) : Calls Tryd.prog 4 #[.string s] w (Gives (.bool true) w) := by
  have HP := hid (fun w' (h : Nw w w') => parsed_c s.data.toList w' (hm.nw h) hs)
  have HA := hid (fun w' (h : Nw w w') => awake_c w' (hm.nw h) (ht.nw h))
  have e := str_form s
  generalize s.data.toList = bs at *
  subst e
  go_enter Tryd.func4, Tryd.ntmps4
  go_wp2_with (first
    | (go_at_call 12; refine (HP.out _ (by repeat (first | assumption | exact Nw.refl _ | refine Nw.alloc ?_ _ | refine Nw.drew ?_ | refine Nw.drewN2 ?_ _ | (refine Nw.trans ?_ (by assumption))))).mono ?_; rintro e w1 ⟨rfl, hn1⟩)
    | (go_at_call 11; refine (HA.out _ (by repeat (first | assumption | exact Nw.refl _ | refine Nw.alloc ?_ _ | refine Nw.drew ?_ | refine Nw.drewN2 ?_ _ | (refine Nw.trans ?_ (by assumption))))).mono ?_; rintro e w3 ⟨rfl, hn3⟩)
    | fail)
  go_ret
  exact ⟨rfl, (by repeat (first | assumption | exact Nw.refl _ | refine Nw.alloc ?_ _ | refine Nw.drew ?_ | refine Nw.drewN2 ?_ _ | (refine Nw.trans ?_ (by assumption))))⟩
end Vd
end Go.Proofs.YtlimhggkimnddaaDoor
