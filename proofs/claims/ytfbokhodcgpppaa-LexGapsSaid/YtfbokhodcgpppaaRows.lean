/-
  No cell of these rows narrows 'for every input' (looked for: loops, veiled, ifaces, maps, wideKeys, modest, calm, conditions, laid).
  DERIVED. THE GIVEN ROWS OF THIS SEAT. 10 by the template 'for every input the law returns true; each argument reads behind the call as it read before'; 0 by the template 'total and deterministic' (their statements: YtfbokhodcgpppaaTotals.lean).
  GIVEN WITH THE SEED: the statements are not yours to turn. If you find one false, say at which input.
  Laid BY PROGRAM, IN A SANDBOX (cutbox-rows.mjs): the forced cells as the released guide's own fill.sh prints them over the translation 3d53b63d6604a67e… (all of the seat's roots in one cut). By AI agents, Wed Nov 11 2026. No macro, syntax, notation, axiom, sorry.
-/
import Derived.Test.YtfbokhodcgpppaaChecked
import GoSem.Claim
import GoSem.ClaimJoined
import GoSem.ClaimMapViews
import Derived.JoinedTies
import Derived.KernelRfl
namespace Go.Proofs.Ytfbokhodcgpppaa
/- THE CELL 'sum', in the pinned program and in every row, IS THE sha256 OF THE DUMP (.gsa) THAT YtfbokhodcgpppaaProg.lean LOADS. Nothing in Lean hashes anything: it is a label: what it is worth is what the hold of that sum in a sandbox is worth. -/
noncomputable def Try.pinned : Pinned := { name := "ytfbokhodcgpppaa", sum := "3d53b63d6604a67e22d9c6a35664aed0971aebb0c468b38df80bfff900e8574a", checked := Try.checked }
namespace Rows
def none {H : Type} : Left H := { results := [], args := [] }

/-- 'watchglasslaw4.LexGaps': WHATEVER THE INPUT: true; the input reads as it did. -/
def lexGapsSpec : ChangeSpec := { name := "lexGaps", fn := fun _ => fun
  | [d1, d2] => { results := [.lit (.bool true)], args := [d1, d2] }
  | _ => none }
def lexGapsRow : OpenClaim := { program := "ytfbokhodcgpppaa", sum := "3d53b63d6604a67e22d9c6a35664aed0971aebb0c468b38df80bfff900e8574a", func := "watchglass/watchglasslaw4.LexGaps", spec := "lexGaps", inPlace := ["internal/bytealg.IndexByteString"], unfollowed := true, recurses := true, apart := false }
def LexGapsSaid : Prop := lexGapsRow.holds Try.pinned (OpenSpec.ofChange lexGapsSpec)

/-- ITS FALSE NEIGHBOUR: 'it returns false'. Refute it at one input. -/
def lexGapsWrong : ChangeSpec := { name := "lexGaps", fn := fun _ => fun
  | [d1, d2] => { results := [.lit (.bool false)], args := [d1, d2] }
  | _ => none }
def LexGapsWrongFalsely : Prop := lexGapsRow.holds Try.pinned (OpenSpec.ofChange lexGapsWrong)

/-- 'watchglasslaw4.LexTexts': WHATEVER THE INPUT: true; the input reads as it did. -/
def lexTextsSpec : ChangeSpec := { name := "lexTexts", fn := fun _ => fun
  | [d] => { results := [.lit (.bool true)], args := [d] }
  | _ => none }
def lexTextsRow : OpenClaim := { program := "ytfbokhodcgpppaa", sum := "3d53b63d6604a67e22d9c6a35664aed0971aebb0c468b38df80bfff900e8574a", func := "watchglass/watchglasslaw4.LexTexts", spec := "lexTexts", inPlace := ["internal/bytealg.IndexByteString"], unfollowed := true, recurses := true, apart := false }
def LexTextsSaid : Prop := lexTextsRow.holds Try.pinned (OpenSpec.ofChange lexTextsSpec)

/-- ITS FALSE NEIGHBOUR: 'it returns false'. Refute it at one input. -/
def lexTextsWrong : ChangeSpec := { name := "lexTexts", fn := fun _ => fun
  | [d] => { results := [.lit (.bool false)], args := [d] }
  | _ => none }
def LexTextsWrongFalsely : Prop := lexTextsRow.holds Try.pinned (OpenSpec.ofChange lexTextsWrong)

/-- 'watchglasslaw9.RecordPuts': WHATEVER THE INPUT: true; the input reads as it did. -/
def recordPutsSpec : ChangeSpec := { name := "recordPuts", fn := fun _ => fun
  | [d1, d2, d3, d4] => { results := [.lit (.bool true)], args := [d1, d2, d3, d4] }
  | _ => none }
def recordPutsRow : OpenClaim := { program := "ytfbokhodcgpppaa", sum := "3d53b63d6604a67e22d9c6a35664aed0971aebb0c468b38df80bfff900e8574a", func := "watchglass/watchglasslaw9.RecordPuts", spec := "recordPuts", apart := false }
def RecordPutsSaid : Prop := recordPutsRow.holds Try.pinned (OpenSpec.ofChange recordPutsSpec)

/-- ITS FALSE NEIGHBOUR: 'it returns false'. Refute it at one input. -/
def recordPutsWrong : ChangeSpec := { name := "recordPuts", fn := fun _ => fun
  | [d1, d2, d3, d4] => { results := [.lit (.bool false)], args := [d1, d2, d3, d4] }
  | _ => none }
def RecordPutsWrongFalsely : Prop := recordPutsRow.holds Try.pinned (OpenSpec.ofChange recordPutsWrong)

/-- 'watchglasslaw9.RecordCanon': WHATEVER THE INPUT: true; the input reads as it did. -/
def recordCanonSpec : ChangeSpec := { name := "recordCanon", fn := fun _ => fun
  | [d1, d2, d3, d4, d5, d6] => { results := [.lit (.bool true)], args := [d1, d2, d3, d4, d5, d6] }
  | _ => none }
def recordCanonRow : OpenClaim := { program := "ytfbokhodcgpppaa", sum := "3d53b63d6604a67e22d9c6a35664aed0971aebb0c468b38df80bfff900e8574a", func := "watchglass/watchglasslaw9.RecordCanon", spec := "recordCanon", apart := false }
def RecordCanonSaid : Prop := recordCanonRow.holds Try.pinned (OpenSpec.ofChange recordCanonSpec)

/-- ITS FALSE NEIGHBOUR: 'it returns false'. Refute it at one input. -/
def recordCanonWrong : ChangeSpec := { name := "recordCanon", fn := fun _ => fun
  | [d1, d2, d3, d4, d5, d6] => { results := [.lit (.bool false)], args := [d1, d2, d3, d4, d5, d6] }
  | _ => none }
def RecordCanonWrongFalsely : Prop := recordCanonRow.holds Try.pinned (OpenSpec.ofChange recordCanonWrong)

/-- 'watchglasslaw9.RecordTells': WHATEVER THE INPUT: true; the input reads as it did. -/
def recordTellsSpec : ChangeSpec := { name := "recordTells", fn := fun _ => fun
  | [d1, d2, d3, d4] => { results := [.lit (.bool true)], args := [d1, d2, d3, d4] }
  | _ => none }
def recordTellsRow : OpenClaim := { program := "ytfbokhodcgpppaa", sum := "3d53b63d6604a67e22d9c6a35664aed0971aebb0c468b38df80bfff900e8574a", func := "watchglass/watchglasslaw9.RecordTells", spec := "recordTells", apart := false }
def RecordTellsSaid : Prop := recordTellsRow.holds Try.pinned (OpenSpec.ofChange recordTellsSpec)

/-- ITS FALSE NEIGHBOUR: 'it returns false'. Refute it at one input. -/
def recordTellsWrong : ChangeSpec := { name := "recordTells", fn := fun _ => fun
  | [d1, d2, d3, d4] => { results := [.lit (.bool false)], args := [d1, d2, d3, d4] }
  | _ => none }
def RecordTellsWrongFalsely : Prop := recordTellsRow.holds Try.pinned (OpenSpec.ofChange recordTellsWrong)

/-- 'watchglasslaw4.LexNames': WHATEVER THE INPUT: true; the input reads as it did. -/
def lexNamesSpec : ChangeSpec := { name := "lexNames", fn := fun _ => fun
  | [d] => { results := [.lit (.bool true)], args := [d] }
  | _ => none }
def lexNamesRow : OpenClaim := { program := "ytfbokhodcgpppaa", sum := "3d53b63d6604a67e22d9c6a35664aed0971aebb0c468b38df80bfff900e8574a", func := "watchglass/watchglasslaw4.LexNames", spec := "lexNames", inPlace := ["internal/bytealg.IndexByteString"], unfollowed := true, recurses := true, apart := false }
def LexNamesSaid : Prop := lexNamesRow.holds Try.pinned (OpenSpec.ofChange lexNamesSpec)

/-- ITS FALSE NEIGHBOUR: 'it returns false'. Refute it at one input. -/
def lexNamesWrong : ChangeSpec := { name := "lexNames", fn := fun _ => fun
  | [d] => { results := [.lit (.bool false)], args := [d] }
  | _ => none }
def LexNamesWrongFalsely : Prop := lexNamesRow.holds Try.pinned (OpenSpec.ofChange lexNamesWrong)

/-- 'watchglasslaw4.LexEnds': WHATEVER THE INPUT: true; the input reads as it did. -/
def lexEndsSpec : ChangeSpec := { name := "lexEnds", fn := fun _ => fun
  | [d1, d2] => { results := [.lit (.bool true)], args := [d1, d2] }
  | _ => none }
def lexEndsRow : OpenClaim := { program := "ytfbokhodcgpppaa", sum := "3d53b63d6604a67e22d9c6a35664aed0971aebb0c468b38df80bfff900e8574a", func := "watchglass/watchglasslaw4.LexEnds", spec := "lexEnds", inPlace := ["internal/bytealg.IndexByteString"], unfollowed := true, recurses := true, apart := false }
def LexEndsSaid : Prop := lexEndsRow.holds Try.pinned (OpenSpec.ofChange lexEndsSpec)

/-- ITS FALSE NEIGHBOUR: 'it returns false'. Refute it at one input. -/
def lexEndsWrong : ChangeSpec := { name := "lexEnds", fn := fun _ => fun
  | [d1, d2] => { results := [.lit (.bool false)], args := [d1, d2] }
  | _ => none }
def LexEndsWrongFalsely : Prop := lexEndsRow.holds Try.pinned (OpenSpec.ofChange lexEndsWrong)

/-- 'watchglasslaw9.RecordGets': WHATEVER THE INPUT: true; the input reads as it did. -/
def recordGetsSpec : ChangeSpec := { name := "recordGets", fn := fun _ => fun
  | [d1, d2] => { results := [.lit (.bool true)], args := [d1, d2] }
  | _ => none }
def recordGetsRow : OpenClaim := { program := "ytfbokhodcgpppaa", sum := "3d53b63d6604a67e22d9c6a35664aed0971aebb0c468b38df80bfff900e8574a", func := "watchglass/watchglasslaw9.RecordGets", spec := "recordGets", apart := false }
def RecordGetsSaid : Prop := recordGetsRow.holds Try.pinned (OpenSpec.ofChange recordGetsSpec)

/-- ITS FALSE NEIGHBOUR: 'it returns false'. Refute it at one input. -/
def recordGetsWrong : ChangeSpec := { name := "recordGets", fn := fun _ => fun
  | [d1, d2] => { results := [.lit (.bool false)], args := [d1, d2] }
  | _ => none }
def RecordGetsWrongFalsely : Prop := recordGetsRow.holds Try.pinned (OpenSpec.ofChange recordGetsWrong)

/-- 'watchglasslaw9.RecordSpoilt': WHATEVER THE INPUT: true; the input reads as it did. -/
def recordSpoiltSpec : ChangeSpec := { name := "recordSpoilt", fn := fun _ => fun
  | [d1, d2, d3, d4, d5, d6, d7, d8] => { results := [.lit (.bool true)], args := [d1, d2, d3, d4, d5, d6, d7, d8] }
  | _ => none }
def recordSpoiltRow : OpenClaim := { program := "ytfbokhodcgpppaa", sum := "3d53b63d6604a67e22d9c6a35664aed0971aebb0c468b38df80bfff900e8574a", func := "watchglass/watchglasslaw9.RecordSpoilt", spec := "recordSpoilt", apart := false }
def RecordSpoiltSaid : Prop := recordSpoiltRow.holds Try.pinned (OpenSpec.ofChange recordSpoiltSpec)

/-- ITS FALSE NEIGHBOUR: 'it returns false'. Refute it at one input. -/
def recordSpoiltWrong : ChangeSpec := { name := "recordSpoilt", fn := fun _ => fun
  | [d1, d2, d3, d4, d5, d6, d7, d8] => { results := [.lit (.bool false)], args := [d1, d2, d3, d4, d5, d6, d7, d8] }
  | _ => none }
def RecordSpoiltWrongFalsely : Prop := recordSpoiltRow.holds Try.pinned (OpenSpec.ofChange recordSpoiltWrong)

/-- 'watchglasslaw9.RecordBack': WHATEVER THE INPUT: true; the input reads as it did. -/
def recordBackSpec : ChangeSpec := { name := "recordBack", fn := fun _ => fun
  | [d1, d2, d3, d4] => { results := [.lit (.bool true)], args := [d1, d2, d3, d4] }
  | _ => none }
def recordBackRow : OpenClaim := { program := "ytfbokhodcgpppaa", sum := "3d53b63d6604a67e22d9c6a35664aed0971aebb0c468b38df80bfff900e8574a", func := "watchglass/watchglasslaw9.RecordBack", spec := "recordBack", apart := false }
def RecordBackSaid : Prop := recordBackRow.holds Try.pinned (OpenSpec.ofChange recordBackSpec)

/-- ITS FALSE NEIGHBOUR: 'it returns false'. Refute it at one input. -/
def recordBackWrong : ChangeSpec := { name := "recordBack", fn := fun _ => fun
  | [d1, d2, d3, d4] => { results := [.lit (.bool false)], args := [d1, d2, d3, d4] }
  | _ => none }
def RecordBackWrongFalsely : Prop := recordBackRow.holds Try.pinned (OpenSpec.ofChange recordBackWrong)

/- THE SECOND FORM. 'bulk': how many values and letters a reading holds, each counted each time it is reached (what is shared counts as often as it is met; a slice's spare places count too). A statement '..UptoSaid' is the law's where the arguments, and the package variables that the reading takes, are together of bulk at most 1048576: NARROWER than '..Said'. Prove '..Said' where nothing that the law and all that it calls make is longer than what came in: it says more and counts as full. Else prove '..UptoSaid'. A law counts once. -/
mutual
def uptoBulk {H : Type} : DataW H → Nat
  | .lit (.string bytes) => bytes.length + 1
  | .lit _ => 1
  | .nil => 1
  | .ptr d => uptoBulk d + 1
  | .slice elems spare => uptoBulkAll elems + uptoBulkAll spare + 1
  | .agg parts => uptoBulkAll parts + 1
  | .iface _ d => uptoBulk d + 1
  | .map entries => uptoBulkEntries entries + 1
  | .held _ => 1
def uptoBulkAll {H : Type} : List (DataW H) → Nat
  | [] => 0
  | d :: r => uptoBulk d + uptoBulkAll r
def uptoBulkEntries {H : Type} : List (Lit × DataW H) → Nat
  | [] => 0
  | x :: r => uptoBulkEntry x + uptoBulkEntries r
def uptoBulkEntry {H : Type} : Lit × DataW H → Nat
  | (.string bytes, d) => bytes.length + uptoBulk d + 1
  | (_, d) => uptoBulk d + 1
 end
def uptoSmall : (H : Type) → List (DataW H) → Bool := fun _ ds => decide (uptoBulkAll ds ≤ 1048576)
def OpenSpec.upto (s : _root_.Go.ChangeSpec) : _root_.Go.OpenSpec := { _root_.Go.OpenSpec.ofChange s with cond := some uptoSmall }

/-- 'watchglasslaw4.LexGaps', WHERE WHAT IT READS IS OF BULK AT MOST 1048576: true; the input reads as it did. -/
def lexGapsUptoRow : OpenClaim := { program := "ytfbokhodcgpppaa", sum := "3d53b63d6604a67e22d9c6a35664aed0971aebb0c468b38df80bfff900e8574a", func := "watchglass/watchglasslaw4.LexGaps", spec := "lexGaps", inPlace := ["internal/bytealg.IndexByteString"], unfollowed := true, recurses := true, apart := false, narrowed := true }
def LexGapsUptoSaid : Prop := lexGapsUptoRow.holds Try.pinned (OpenSpec.upto lexGapsSpec)

/-- 'watchglasslaw4.LexTexts', WHERE WHAT IT READS IS OF BULK AT MOST 1048576: true; the input reads as it did. -/
def lexTextsUptoRow : OpenClaim := { program := "ytfbokhodcgpppaa", sum := "3d53b63d6604a67e22d9c6a35664aed0971aebb0c468b38df80bfff900e8574a", func := "watchglass/watchglasslaw4.LexTexts", spec := "lexTexts", inPlace := ["internal/bytealg.IndexByteString"], unfollowed := true, recurses := true, apart := false, narrowed := true }
def LexTextsUptoSaid : Prop := lexTextsUptoRow.holds Try.pinned (OpenSpec.upto lexTextsSpec)

/-- 'watchglasslaw9.RecordPuts', WHERE WHAT IT READS IS OF BULK AT MOST 1048576: true; the input reads as it did. -/
def recordPutsUptoRow : OpenClaim := { program := "ytfbokhodcgpppaa", sum := "3d53b63d6604a67e22d9c6a35664aed0971aebb0c468b38df80bfff900e8574a", func := "watchglass/watchglasslaw9.RecordPuts", spec := "recordPuts", apart := false, narrowed := true }
def RecordPutsUptoSaid : Prop := recordPutsUptoRow.holds Try.pinned (OpenSpec.upto recordPutsSpec)

/-- 'watchglasslaw9.RecordCanon', WHERE WHAT IT READS IS OF BULK AT MOST 1048576: true; the input reads as it did. -/
def recordCanonUptoRow : OpenClaim := { program := "ytfbokhodcgpppaa", sum := "3d53b63d6604a67e22d9c6a35664aed0971aebb0c468b38df80bfff900e8574a", func := "watchglass/watchglasslaw9.RecordCanon", spec := "recordCanon", apart := false, narrowed := true }
def RecordCanonUptoSaid : Prop := recordCanonUptoRow.holds Try.pinned (OpenSpec.upto recordCanonSpec)

/-- 'watchglasslaw9.RecordTells', WHERE WHAT IT READS IS OF BULK AT MOST 1048576: true; the input reads as it did. -/
def recordTellsUptoRow : OpenClaim := { program := "ytfbokhodcgpppaa", sum := "3d53b63d6604a67e22d9c6a35664aed0971aebb0c468b38df80bfff900e8574a", func := "watchglass/watchglasslaw9.RecordTells", spec := "recordTells", apart := false, narrowed := true }
def RecordTellsUptoSaid : Prop := recordTellsUptoRow.holds Try.pinned (OpenSpec.upto recordTellsSpec)

/-- 'watchglasslaw4.LexNames', WHERE WHAT IT READS IS OF BULK AT MOST 1048576: true; the input reads as it did. -/
def lexNamesUptoRow : OpenClaim := { program := "ytfbokhodcgpppaa", sum := "3d53b63d6604a67e22d9c6a35664aed0971aebb0c468b38df80bfff900e8574a", func := "watchglass/watchglasslaw4.LexNames", spec := "lexNames", inPlace := ["internal/bytealg.IndexByteString"], unfollowed := true, recurses := true, apart := false, narrowed := true }
def LexNamesUptoSaid : Prop := lexNamesUptoRow.holds Try.pinned (OpenSpec.upto lexNamesSpec)

/-- 'watchglasslaw4.LexEnds', WHERE WHAT IT READS IS OF BULK AT MOST 1048576: true; the input reads as it did. -/
def lexEndsUptoRow : OpenClaim := { program := "ytfbokhodcgpppaa", sum := "3d53b63d6604a67e22d9c6a35664aed0971aebb0c468b38df80bfff900e8574a", func := "watchglass/watchglasslaw4.LexEnds", spec := "lexEnds", inPlace := ["internal/bytealg.IndexByteString"], unfollowed := true, recurses := true, apart := false, narrowed := true }
def LexEndsUptoSaid : Prop := lexEndsUptoRow.holds Try.pinned (OpenSpec.upto lexEndsSpec)

/-- 'watchglasslaw9.RecordGets', WHERE WHAT IT READS IS OF BULK AT MOST 1048576: true; the input reads as it did. -/
def recordGetsUptoRow : OpenClaim := { program := "ytfbokhodcgpppaa", sum := "3d53b63d6604a67e22d9c6a35664aed0971aebb0c468b38df80bfff900e8574a", func := "watchglass/watchglasslaw9.RecordGets", spec := "recordGets", apart := false, narrowed := true }
def RecordGetsUptoSaid : Prop := recordGetsUptoRow.holds Try.pinned (OpenSpec.upto recordGetsSpec)

/-- 'watchglasslaw9.RecordSpoilt', WHERE WHAT IT READS IS OF BULK AT MOST 1048576: true; the input reads as it did. -/
def recordSpoiltUptoRow : OpenClaim := { program := "ytfbokhodcgpppaa", sum := "3d53b63d6604a67e22d9c6a35664aed0971aebb0c468b38df80bfff900e8574a", func := "watchglass/watchglasslaw9.RecordSpoilt", spec := "recordSpoilt", apart := false, narrowed := true }
def RecordSpoiltUptoSaid : Prop := recordSpoiltUptoRow.holds Try.pinned (OpenSpec.upto recordSpoiltSpec)

/-- 'watchglasslaw9.RecordBack', WHERE WHAT IT READS IS OF BULK AT MOST 1048576: true; the input reads as it did. -/
def recordBackUptoRow : OpenClaim := { program := "ytfbokhodcgpppaa", sum := "3d53b63d6604a67e22d9c6a35664aed0971aebb0c468b38df80bfff900e8574a", func := "watchglass/watchglasslaw9.RecordBack", spec := "recordBack", apart := false, narrowed := true }
def RecordBackUptoSaid : Prop := recordBackUptoRow.holds Try.pinned (OpenSpec.upto recordBackSpec)

end Rows
end Go.Proofs.Ytfbokhodcgpppaa
