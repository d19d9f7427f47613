/-
  No cell of these rows narrows 'for every input' (looked for: loops, veiled, ifaces, maps, wideKeys, modest, calm, conditions, laid).
  DERIVED. THE GIVEN ROWS OF THIS SEAT. 9 by the template 'for every input the law returns true; each argument reads behind the call as it read before'; 0 by the template 'total and deterministic' (their statements: YtkaljbhedmlglaaTotals.lean).
  GIVEN WITH THE SEED: the statements are not yours to turn. If you find one false, say at which input.
  Laid BY PROGRAM, IN A SANDBOX (cutbox-rows.mjs): the forced cells as the released guide's own fill.sh prints them over the translation 28d671aabeccef55… (all of the seat's roots in one cut). By AI agents, Wed Nov 11 2026. No macro, syntax, notation, axiom, sorry.
-/
import Derived.Test.YtkaljbhedmlglaaChecked
import GoSem.Claim
import GoSem.ClaimJoined
import GoSem.ClaimMapViews
import Derived.JoinedTies
import Derived.KernelRfl
namespace Go.Proofs.Ytkaljbhedmlglaa
/- THE CELL 'sum', in the pinned program and in every row, IS THE sha256 OF THE DUMP (.gsa) THAT YtkaljbhedmlglaaProg.lean LOADS. Nothing in Lean hashes anything: it is a label: what it is worth is what the hold of that sum in a sandbox is worth. -/
noncomputable def Try.pinned : Pinned := { name := "ytkaljbhedmlglaa", sum := "28d671aabeccef55378d5fcd280fbecbcff4f8c3e212bee100c2c47a80658587", checked := Try.checked }
namespace Rows
def none {H : Type} : Left H := { results := [], args := [] }

/-- 'watchglasslaw1.SumReckons': WHATEVER THE INPUT: true; the input reads as it did. -/
def sumReckonsSpec : ChangeSpec := { name := "sumReckons", fn := fun _ => fun
  | [d1, d2] => { results := [.lit (.bool true)], args := [d1, d2] }
  | _ => none }
def sumReckonsRow : OpenClaim := { program := "ytkaljbhedmlglaa", sum := "28d671aabeccef55378d5fcd280fbecbcff4f8c3e212bee100c2c47a80658587", func := "watchglass/watchglasslaw1.SumReckons", spec := "sumReckons", apart := false }
def SumReckonsSaid : Prop := sumReckonsRow.holds Try.pinned (OpenSpec.ofChange sumReckonsSpec)

/-- ITS FALSE NEIGHBOUR: 'it returns false'. Refute it at one input. -/
def sumReckonsWrong : ChangeSpec := { name := "sumReckons", fn := fun _ => fun
  | [d1, d2] => { results := [.lit (.bool false)], args := [d1, d2] }
  | _ => none }
def SumReckonsWrongFalsely : Prop := sumReckonsRow.holds Try.pinned (OpenSpec.ofChange sumReckonsWrong)

/-- 'watchglasslaw1.SumTells': WHATEVER THE INPUT: true; the input reads as it did. -/
def sumTellsSpec : ChangeSpec := { name := "sumTells", fn := fun _ => fun
  | [d1, d2, d3] => { results := [.lit (.bool true)], args := [d1, d2, d3] }
  | _ => none }
def sumTellsRow : OpenClaim := { program := "ytkaljbhedmlglaa", sum := "28d671aabeccef55378d5fcd280fbecbcff4f8c3e212bee100c2c47a80658587", func := "watchglass/watchglasslaw1.SumTells", spec := "sumTells", apart := false }
def SumTellsSaid : Prop := sumTellsRow.holds Try.pinned (OpenSpec.ofChange sumTellsSpec)

/-- ITS FALSE NEIGHBOUR: 'it returns false'. Refute it at one input. -/
def sumTellsWrong : ChangeSpec := { name := "sumTells", fn := fun _ => fun
  | [d1, d2, d3] => { results := [.lit (.bool false)], args := [d1, d2, d3] }
  | _ => none }
def SumTellsWrongFalsely : Prop := sumTellsRow.holds Try.pinned (OpenSpec.ofChange sumTellsWrong)

/-- 'watchglasslaw1.SumAdds': WHATEVER THE INPUT: true; the input reads as it did. -/
def sumAddsSpec : ChangeSpec := { name := "sumAdds", fn := fun _ => fun
  | [d] => { results := [.lit (.bool true)], args := [d] }
  | _ => none }
def sumAddsRow : OpenClaim := { program := "ytkaljbhedmlglaa", sum := "28d671aabeccef55378d5fcd280fbecbcff4f8c3e212bee100c2c47a80658587", func := "watchglass/watchglasslaw1.SumAdds", spec := "sumAdds", apart := false }
def SumAddsSaid : Prop := sumAddsRow.holds Try.pinned (OpenSpec.ofChange sumAddsSpec)

/-- ITS FALSE NEIGHBOUR: 'it returns false'. Refute it at one input. -/
def sumAddsWrong : ChangeSpec := { name := "sumAdds", fn := fun _ => fun
  | [d] => { results := [.lit (.bool false)], args := [d] }
  | _ => none }
def SumAddsWrongFalsely : Prop := sumAddsRow.holds Try.pinned (OpenSpec.ofChange sumAddsWrong)

/-- 'watchglasslaw1.SumPuts': WHATEVER THE INPUT: true; the input reads as it did. -/
def sumPutsSpec : ChangeSpec := { name := "sumPuts", fn := fun _ => fun
  | [d] => { results := [.lit (.bool true)], args := [d] }
  | _ => none }
def sumPutsRow : OpenClaim := { program := "ytkaljbhedmlglaa", sum := "28d671aabeccef55378d5fcd280fbecbcff4f8c3e212bee100c2c47a80658587", func := "watchglass/watchglasslaw1.SumPuts", spec := "sumPuts", apart := false }
def SumPutsSaid : Prop := sumPutsRow.holds Try.pinned (OpenSpec.ofChange sumPutsSpec)

/-- ITS FALSE NEIGHBOUR: 'it returns false'. Refute it at one input. -/
def sumPutsWrong : ChangeSpec := { name := "sumPuts", fn := fun _ => fun
  | [d] => { results := [.lit (.bool false)], args := [d] }
  | _ => none }
def SumPutsWrongFalsely : Prop := sumPutsRow.holds Try.pinned (OpenSpec.ofChange sumPutsWrong)

/-- 'watchglasslaw1.SumGoesOn': WHATEVER THE INPUT: true; the input reads as it did. -/
def sumGoesOnSpec : ChangeSpec := { name := "sumGoesOn", fn := fun _ => fun
  | [d1, d2, d3] => { results := [.lit (.bool true)], args := [d1, d2, d3] }
  | _ => none }
def sumGoesOnRow : OpenClaim := { program := "ytkaljbhedmlglaa", sum := "28d671aabeccef55378d5fcd280fbecbcff4f8c3e212bee100c2c47a80658587", func := "watchglass/watchglasslaw1.SumGoesOn", spec := "sumGoesOn", apart := false }
def SumGoesOnSaid : Prop := sumGoesOnRow.holds Try.pinned (OpenSpec.ofChange sumGoesOnSpec)

/-- ITS FALSE NEIGHBOUR: 'it returns false'. Refute it at one input. -/
def sumGoesOnWrong : ChangeSpec := { name := "sumGoesOn", fn := fun _ => fun
  | [d1, d2, d3] => { results := [.lit (.bool false)], args := [d1, d2, d3] }
  | _ => none }
def SumGoesOnWrongFalsely : Prop := sumGoesOnRow.holds Try.pinned (OpenSpec.ofChange sumGoesOnWrong)

/-- 'watchglasslaw11.SourcePlays': WHATEVER THE INPUT: true; the input reads as it did. -/
def sourcePlaysSpec : ChangeSpec := { name := "sourcePlays", fn := fun _ => fun
  | [d1, d2, d3, d4] => { results := [.lit (.bool true)], args := [d1, d2, d3, d4] }
  | _ => none }
def sourcePlaysRow : OpenClaim := { program := "ytkaljbhedmlglaa", sum := "28d671aabeccef55378d5fcd280fbecbcff4f8c3e212bee100c2c47a80658587", func := "watchglass/watchglasslaw11.SourcePlays", spec := "sourcePlays", apart := false }
def SourcePlaysSaid : Prop := sourcePlaysRow.holds Try.pinned (OpenSpec.ofChange sourcePlaysSpec)

/-- ITS FALSE NEIGHBOUR: 'it returns false'. Refute it at one input. -/
def sourcePlaysWrong : ChangeSpec := { name := "sourcePlays", fn := fun _ => fun
  | [d1, d2, d3, d4] => { results := [.lit (.bool false)], args := [d1, d2, d3, d4] }
  | _ => none }
def SourcePlaysWrongFalsely : Prop := sourcePlaysRow.holds Try.pinned (OpenSpec.ofChange sourcePlaysWrong)

/-- 'watchglasslaw11.SourceAll': WHATEVER THE INPUT: true; the input reads as it did. -/
def sourceAllSpec : ChangeSpec := { name := "sourceAll", fn := fun _ => fun
  | [d1, d2, d3, d4] => { results := [.lit (.bool true)], args := [d1, d2, d3, d4] }
  | _ => none }
def sourceAllRow : OpenClaim := { program := "ytkaljbhedmlglaa", sum := "28d671aabeccef55378d5fcd280fbecbcff4f8c3e212bee100c2c47a80658587", func := "watchglass/watchglasslaw11.SourceAll", spec := "sourceAll", apart := false }
def SourceAllSaid : Prop := sourceAllRow.holds Try.pinned (OpenSpec.ofChange sourceAllSpec)

/-- ITS FALSE NEIGHBOUR: 'it returns false'. Refute it at one input. -/
def sourceAllWrong : ChangeSpec := { name := "sourceAll", fn := fun _ => fun
  | [d1, d2, d3, d4] => { results := [.lit (.bool false)], args := [d1, d2, d3, d4] }
  | _ => none }
def SourceAllWrongFalsely : Prop := sourceAllRow.holds Try.pinned (OpenSpec.ofChange sourceAllWrong)

/-- 'watchglasslaw11.SourceCopies': WHATEVER THE INPUT: true; the input reads as it did. -/
def sourceCopiesSpec : ChangeSpec := { name := "sourceCopies", fn := fun _ => fun
  | [d1, d2, d3, d4] => { results := [.lit (.bool true)], args := [d1, d2, d3, d4] }
  | _ => none }
def sourceCopiesRow : OpenClaim := { program := "ytkaljbhedmlglaa", sum := "28d671aabeccef55378d5fcd280fbecbcff4f8c3e212bee100c2c47a80658587", func := "watchglass/watchglasslaw11.SourceCopies", spec := "sourceCopies", apart := false }
def SourceCopiesSaid : Prop := sourceCopiesRow.holds Try.pinned (OpenSpec.ofChange sourceCopiesSpec)

/-- ITS FALSE NEIGHBOUR: 'it returns false'. Refute it at one input. -/
def sourceCopiesWrong : ChangeSpec := { name := "sourceCopies", fn := fun _ => fun
  | [d1, d2, d3, d4] => { results := [.lit (.bool false)], args := [d1, d2, d3, d4] }
  | _ => none }
def SourceCopiesWrongFalsely : Prop := sourceCopiesRow.holds Try.pinned (OpenSpec.ofChange sourceCopiesWrong)

/-- 'watchglasslaw11.SourceNil': WHATEVER THE INPUT: true; the input reads as it did. -/
def sourceNilSpec : ChangeSpec := { name := "sourceNil", fn := fun _ => fun
  | [d1, d2] => { results := [.lit (.bool true)], args := [d1, d2] }
  | _ => none }
def sourceNilRow : OpenClaim := { program := "ytkaljbhedmlglaa", sum := "28d671aabeccef55378d5fcd280fbecbcff4f8c3e212bee100c2c47a80658587", func := "watchglass/watchglasslaw11.SourceNil", spec := "sourceNil", apart := false }
def SourceNilSaid : Prop := sourceNilRow.holds Try.pinned (OpenSpec.ofChange sourceNilSpec)

/-- ITS FALSE NEIGHBOUR: 'it returns false'. Refute it at one input. -/
def sourceNilWrong : ChangeSpec := { name := "sourceNil", fn := fun _ => fun
  | [d1, d2] => { results := [.lit (.bool false)], args := [d1, d2] }
  | _ => none }
def SourceNilWrongFalsely : Prop := sourceNilRow.holds Try.pinned (OpenSpec.ofChange sourceNilWrong)

/- THE SECOND FORM. 'bulk': how many values and letters a reading holds, each counted each time it is reached (what is shared counts as often as it is met; a slice's spare places count too). A statement '..UptoSaid' is the law's where the arguments, and the package variables that the reading takes, are together of bulk at most 1048576: NARROWER than '..Said'. Prove '..Said' where nothing that the law and all that it calls make is longer than what came in: it says more and counts as full. Else prove '..UptoSaid'. A law counts once. -/
mutual
def uptoBulk {H : Type} : DataW H → Nat
  | .lit (.string bytes) => bytes.length + 1
  | .lit _ => 1
  | .nil => 1
  | .ptr d => uptoBulk d + 1
  | .slice elems spare => uptoBulkAll elems + uptoBulkAll spare + 1
  | .agg parts => uptoBulkAll parts + 1
  | .iface _ d => uptoBulk d + 1
  | .map entries => uptoBulkEntries entries + 1
  | .held _ => 1
def uptoBulkAll {H : Type} : List (DataW H) → Nat
  | [] => 0
  | d :: r => uptoBulk d + uptoBulkAll r
def uptoBulkEntries {H : Type} : List (Lit × DataW H) → Nat
  | [] => 0
  | x :: r => uptoBulkEntry x + uptoBulkEntries r
def uptoBulkEntry {H : Type} : Lit × DataW H → Nat
  | (.string bytes, d) => bytes.length + uptoBulk d + 1
  | (_, d) => uptoBulk d + 1
 end
def uptoSmall : (H : Type) → List (DataW H) → Bool := fun _ ds => decide (uptoBulkAll ds ≤ 1048576)
def OpenSpec.upto (s : _root_.Go.ChangeSpec) : _root_.Go.OpenSpec := { _root_.Go.OpenSpec.ofChange s with cond := some uptoSmall }

/-- 'watchglasslaw1.SumReckons', WHERE WHAT IT READS IS OF BULK AT MOST 1048576: true; the input reads as it did. -/
def sumReckonsUptoRow : OpenClaim := { program := "ytkaljbhedmlglaa", sum := "28d671aabeccef55378d5fcd280fbecbcff4f8c3e212bee100c2c47a80658587", func := "watchglass/watchglasslaw1.SumReckons", spec := "sumReckons", apart := false, narrowed := true }
def SumReckonsUptoSaid : Prop := sumReckonsUptoRow.holds Try.pinned (OpenSpec.upto sumReckonsSpec)

/-- 'watchglasslaw1.SumTells', WHERE WHAT IT READS IS OF BULK AT MOST 1048576: true; the input reads as it did. -/
def sumTellsUptoRow : OpenClaim := { program := "ytkaljbhedmlglaa", sum := "28d671aabeccef55378d5fcd280fbecbcff4f8c3e212bee100c2c47a80658587", func := "watchglass/watchglasslaw1.SumTells", spec := "sumTells", apart := false, narrowed := true }
def SumTellsUptoSaid : Prop := sumTellsUptoRow.holds Try.pinned (OpenSpec.upto sumTellsSpec)

/-- 'watchglasslaw1.SumAdds', WHERE WHAT IT READS IS OF BULK AT MOST 1048576: true; the input reads as it did. -/
def sumAddsUptoRow : OpenClaim := { program := "ytkaljbhedmlglaa", sum := "28d671aabeccef55378d5fcd280fbecbcff4f8c3e212bee100c2c47a80658587", func := "watchglass/watchglasslaw1.SumAdds", spec := "sumAdds", apart := false, narrowed := true }
def SumAddsUptoSaid : Prop := sumAddsUptoRow.holds Try.pinned (OpenSpec.upto sumAddsSpec)

/-- 'watchglasslaw1.SumPuts', WHERE WHAT IT READS IS OF BULK AT MOST 1048576: true; the input reads as it did. -/
def sumPutsUptoRow : OpenClaim := { program := "ytkaljbhedmlglaa", sum := "28d671aabeccef55378d5fcd280fbecbcff4f8c3e212bee100c2c47a80658587", func := "watchglass/watchglasslaw1.SumPuts", spec := "sumPuts", apart := false, narrowed := true }
def SumPutsUptoSaid : Prop := sumPutsUptoRow.holds Try.pinned (OpenSpec.upto sumPutsSpec)

/-- 'watchglasslaw1.SumGoesOn', WHERE WHAT IT READS IS OF BULK AT MOST 1048576: true; the input reads as it did. -/
def sumGoesOnUptoRow : OpenClaim := { program := "ytkaljbhedmlglaa", sum := "28d671aabeccef55378d5fcd280fbecbcff4f8c3e212bee100c2c47a80658587", func := "watchglass/watchglasslaw1.SumGoesOn", spec := "sumGoesOn", apart := false, narrowed := true }
def SumGoesOnUptoSaid : Prop := sumGoesOnUptoRow.holds Try.pinned (OpenSpec.upto sumGoesOnSpec)

/-- 'watchglasslaw11.SourcePlays', WHERE WHAT IT READS IS OF BULK AT MOST 1048576: true; the input reads as it did. -/
def sourcePlaysUptoRow : OpenClaim := { program := "ytkaljbhedmlglaa", sum := "28d671aabeccef55378d5fcd280fbecbcff4f8c3e212bee100c2c47a80658587", func := "watchglass/watchglasslaw11.SourcePlays", spec := "sourcePlays", apart := false, narrowed := true }
def SourcePlaysUptoSaid : Prop := sourcePlaysUptoRow.holds Try.pinned (OpenSpec.upto sourcePlaysSpec)

/-- 'watchglasslaw11.SourceAll', WHERE WHAT IT READS IS OF BULK AT MOST 1048576: true; the input reads as it did. -/
def sourceAllUptoRow : OpenClaim := { program := "ytkaljbhedmlglaa", sum := "28d671aabeccef55378d5fcd280fbecbcff4f8c3e212bee100c2c47a80658587", func := "watchglass/watchglasslaw11.SourceAll", spec := "sourceAll", apart := false, narrowed := true }
def SourceAllUptoSaid : Prop := sourceAllUptoRow.holds Try.pinned (OpenSpec.upto sourceAllSpec)

/-- 'watchglasslaw11.SourceCopies', WHERE WHAT IT READS IS OF BULK AT MOST 1048576: true; the input reads as it did. -/
def sourceCopiesUptoRow : OpenClaim := { program := "ytkaljbhedmlglaa", sum := "28d671aabeccef55378d5fcd280fbecbcff4f8c3e212bee100c2c47a80658587", func := "watchglass/watchglasslaw11.SourceCopies", spec := "sourceCopies", apart := false, narrowed := true }
def SourceCopiesUptoSaid : Prop := sourceCopiesUptoRow.holds Try.pinned (OpenSpec.upto sourceCopiesSpec)

/-- 'watchglasslaw11.SourceNil', WHERE WHAT IT READS IS OF BULK AT MOST 1048576: true; the input reads as it did. -/
def sourceNilUptoRow : OpenClaim := { program := "ytkaljbhedmlglaa", sum := "28d671aabeccef55378d5fcd280fbecbcff4f8c3e212bee100c2c47a80658587", func := "watchglass/watchglasslaw11.SourceNil", spec := "sourceNil", apart := false, narrowed := true }
def SourceNilUptoSaid : Prop := sourceNilUptoRow.holds Try.pinned (OpenSpec.upto sourceNilSpec)

end Rows
end Go.Proofs.Ytkaljbhedmlglaa
