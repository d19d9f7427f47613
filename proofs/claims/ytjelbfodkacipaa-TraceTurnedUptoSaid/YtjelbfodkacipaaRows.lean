/-
  No cell of these rows narrows 'for every input' (looked for: loops, veiled, ifaces, maps, wideKeys, modest, calm, conditions, laid).
  DERIVED. THE GIVEN ROWS OF THIS SEAT. 13 by the template 'for every input the law returns true; each argument reads behind the call as it read before'; 0 by the template 'total and deterministic' (their statements: YtjelbfodkacipaaTotals.lean).
  GIVEN WITH THE SEED: the statements are not yours to turn. If you find one false, say at which input.
  Laid BY PROGRAM, IN A SANDBOX (cutbox-rows.mjs): the forced cells as the released guide's own fill.sh prints them over the translation f2e60ca8a68049af… (all of the seat's roots in one cut). By AI agents, Wed Nov 11 2026. No macro, syntax, notation, axiom, sorry.
-/
import Derived.Test.YtjelbfodkacipaaChecked
import GoSem.Claim
import GoSem.ClaimJoined
import GoSem.ClaimMapViews
import Derived.JoinedTies
import Derived.KernelRfl
namespace Go.Proofs.Ytjelbfodkacipaa
/- THE CELL 'sum', in the pinned program and in every row, IS THE sha256 OF THE DUMP (.gsa) THAT YtjelbfodkacipaaProg.lean LOADS. Nothing in Lean hashes anything: it is a label: what it is worth is what the hold of that sum in a sandbox is worth. -/
noncomputable def Try.pinned : Pinned := { name := "ytjelbfodkacipaa", sum := "f2e60ca8a68049afe1eb5041ac380929255c31cadf3384ef276bdb8aeaec825e", checked := Try.checked }
namespace Rows
def none {H : Type} : Left H := { results := [], args := [] }

/-- 'watchglasslaw8.TraceMays': WHATEVER THE INPUT: true; the input reads as it did. -/
def traceMaysSpec : ChangeSpec := { name := "traceMays", fn := fun _ => fun
  | [d1, d2, d3, d4, d5, d6, d7] => { results := [.lit (.bool true)], args := [d1, d2, d3, d4, d5, d6, d7] }
  | _ => none }
def traceMaysRow : OpenClaim := { program := "ytjelbfodkacipaa", sum := "f2e60ca8a68049afe1eb5041ac380929255c31cadf3384ef276bdb8aeaec825e", func := "watchglass/watchglasslaw8.TraceMays", spec := "traceMays", unfollowed := true, recurses := true, apart := false }
def TraceMaysSaid : Prop := traceMaysRow.holds Try.pinned (OpenSpec.ofChange traceMaysSpec)

/-- ITS FALSE NEIGHBOUR: 'it returns false'. Refute it at one input. -/
def traceMaysWrong : ChangeSpec := { name := "traceMays", fn := fun _ => fun
  | [d1, d2, d3, d4, d5, d6, d7] => { results := [.lit (.bool false)], args := [d1, d2, d3, d4, d5, d6, d7] }
  | _ => none }
def TraceMaysWrongFalsely : Prop := traceMaysRow.holds Try.pinned (OpenSpec.ofChange traceMaysWrong)

/-- 'watchglasslaw8.TraceMade': WHATEVER THE INPUT: true; the input reads as it did. -/
def traceMadeSpec : ChangeSpec := { name := "traceMade", fn := fun _ => fun
  | [d1, d2, d3, d4, d5] => { results := [.lit (.bool true)], args := [d1, d2, d3, d4, d5] }
  | _ => none }
def traceMadeRow : OpenClaim := { program := "ytjelbfodkacipaa", sum := "f2e60ca8a68049afe1eb5041ac380929255c31cadf3384ef276bdb8aeaec825e", func := "watchglass/watchglasslaw8.TraceMade", spec := "traceMade", unfollowed := true, recurses := true, apart := false }
def TraceMadeSaid : Prop := traceMadeRow.holds Try.pinned (OpenSpec.ofChange traceMadeSpec)

/-- ITS FALSE NEIGHBOUR: 'it returns false'. Refute it at one input. -/
def traceMadeWrong : ChangeSpec := { name := "traceMade", fn := fun _ => fun
  | [d1, d2, d3, d4, d5] => { results := [.lit (.bool false)], args := [d1, d2, d3, d4, d5] }
  | _ => none }
def TraceMadeWrongFalsely : Prop := traceMadeRow.holds Try.pinned (OpenSpec.ofChange traceMadeWrong)

/-- 'watchglasslaw8.TraceTurned': WHATEVER THE INPUT: true; the input reads as it did. -/
def traceTurnedSpec : ChangeSpec := { name := "traceTurned", fn := fun _ => fun
  | [d1, d2, d3, d4, d5, d6, d7] => { results := [.lit (.bool true)], args := [d1, d2, d3, d4, d5, d6, d7] }
  | _ => none }
def traceTurnedRow : OpenClaim := { program := "ytjelbfodkacipaa", sum := "f2e60ca8a68049afe1eb5041ac380929255c31cadf3384ef276bdb8aeaec825e", func := "watchglass/watchglasslaw8.TraceTurned", spec := "traceTurned", unfollowed := true, recurses := true, apart := false }
def TraceTurnedSaid : Prop := traceTurnedRow.holds Try.pinned (OpenSpec.ofChange traceTurnedSpec)

/-- ITS FALSE NEIGHBOUR: 'it returns false'. Refute it at one input. -/
def traceTurnedWrong : ChangeSpec := { name := "traceTurned", fn := fun _ => fun
  | [d1, d2, d3, d4, d5, d6, d7] => { results := [.lit (.bool false)], args := [d1, d2, d3, d4, d5, d6, d7] }
  | _ => none }
def TraceTurnedWrongFalsely : Prop := traceTurnedRow.holds Try.pinned (OpenSpec.ofChange traceTurnedWrong)

/-- 'watchglasslaw8.TraceAdds': WHATEVER THE INPUT: true; the input reads as it did. -/
def traceAddsSpec : ChangeSpec := { name := "traceAdds", fn := fun _ => fun
  | [d1, d2, d3, d4] => { results := [.lit (.bool true)], args := [d1, d2, d3, d4] }
  | _ => none }
def traceAddsRow : OpenClaim := { program := "ytjelbfodkacipaa", sum := "f2e60ca8a68049afe1eb5041ac380929255c31cadf3384ef276bdb8aeaec825e", func := "watchglass/watchglasslaw8.TraceAdds", spec := "traceAdds", unfollowed := true, recurses := true, apart := false }
def TraceAddsSaid : Prop := traceAddsRow.holds Try.pinned (OpenSpec.ofChange traceAddsSpec)

/-- ITS FALSE NEIGHBOUR: 'it returns false'. Refute it at one input. -/
def traceAddsWrong : ChangeSpec := { name := "traceAdds", fn := fun _ => fun
  | [d1, d2, d3, d4] => { results := [.lit (.bool false)], args := [d1, d2, d3, d4] }
  | _ => none }
def TraceAddsWrongFalsely : Prop := traceAddsRow.holds Try.pinned (OpenSpec.ofChange traceAddsWrong)

/-- 'watchglasslaw8.TraceFronts': WHATEVER THE INPUT: true; the input reads as it did. -/
def traceFrontsSpec : ChangeSpec := { name := "traceFronts", fn := fun _ => fun
  | [d1, d2] => { results := [.lit (.bool true)], args := [d1, d2] }
  | _ => none }
def traceFrontsRow : OpenClaim := { program := "ytjelbfodkacipaa", sum := "f2e60ca8a68049afe1eb5041ac380929255c31cadf3384ef276bdb8aeaec825e", func := "watchglass/watchglasslaw8.TraceFronts", spec := "traceFronts", unfollowed := true, recurses := true, apart := false }
def TraceFrontsSaid : Prop := traceFrontsRow.holds Try.pinned (OpenSpec.ofChange traceFrontsSpec)

/-- ITS FALSE NEIGHBOUR: 'it returns false'. Refute it at one input. -/
def traceFrontsWrong : ChangeSpec := { name := "traceFronts", fn := fun _ => fun
  | [d1, d2] => { results := [.lit (.bool false)], args := [d1, d2] }
  | _ => none }
def TraceFrontsWrongFalsely : Prop := traceFrontsRow.holds Try.pinned (OpenSpec.ofChange traceFrontsWrong)

/-- 'watchglasslaw10.LogEncodes': WHATEVER THE INPUT: true; the input reads as it did. -/
def logEncodesSpec : ChangeSpec := { name := "logEncodes", fn := fun _ => fun
  | [d1, d2, d3] => { results := [.lit (.bool true)], args := [d1, d2, d3] }
  | _ => none }
def logEncodesRow : OpenClaim := { program := "ytjelbfodkacipaa", sum := "f2e60ca8a68049afe1eb5041ac380929255c31cadf3384ef276bdb8aeaec825e", func := "watchglass/watchglasslaw10.LogEncodes", spec := "logEncodes", unfollowed := true, recurses := true, apart := false }
def LogEncodesSaid : Prop := logEncodesRow.holds Try.pinned (OpenSpec.ofChange logEncodesSpec)

/-- ITS FALSE NEIGHBOUR: 'it returns false'. Refute it at one input. -/
def logEncodesWrong : ChangeSpec := { name := "logEncodes", fn := fun _ => fun
  | [d1, d2, d3] => { results := [.lit (.bool false)], args := [d1, d2, d3] }
  | _ => none }
def LogEncodesWrongFalsely : Prop := logEncodesRow.holds Try.pinned (OpenSpec.ofChange logEncodesWrong)

/-- 'watchglasslaw10.LogCanon': WHATEVER THE INPUT: true; the input reads as it did. -/
def logCanonSpec : ChangeSpec := { name := "logCanon", fn := fun _ => fun
  | [d1, d2, d3, d4, d5, d6, d7, d8, d9] => { results := [.lit (.bool true)], args := [d1, d2, d3, d4, d5, d6, d7, d8, d9] }
  | _ => none }
def logCanonRow : OpenClaim := { program := "ytjelbfodkacipaa", sum := "f2e60ca8a68049afe1eb5041ac380929255c31cadf3384ef276bdb8aeaec825e", func := "watchglass/watchglasslaw10.LogCanon", spec := "logCanon", unfollowed := true, recurses := true, apart := false }
def LogCanonSaid : Prop := logCanonRow.holds Try.pinned (OpenSpec.ofChange logCanonSpec)

/-- ITS FALSE NEIGHBOUR: 'it returns false'. Refute it at one input. -/
def logCanonWrong : ChangeSpec := { name := "logCanon", fn := fun _ => fun
  | [d1, d2, d3, d4, d5, d6, d7, d8, d9] => { results := [.lit (.bool false)], args := [d1, d2, d3, d4, d5, d6, d7, d8, d9] }
  | _ => none }
def LogCanonWrongFalsely : Prop := logCanonRow.holds Try.pinned (OpenSpec.ofChange logCanonWrong)

/-- 'watchglasslaw10.LogDecodes': WHATEVER THE INPUT: true; the input reads as it did. -/
def logDecodesSpec : ChangeSpec := { name := "logDecodes", fn := fun _ => fun
  | [d] => { results := [.lit (.bool true)], args := [d] }
  | _ => none }
def logDecodesRow : OpenClaim := { program := "ytjelbfodkacipaa", sum := "f2e60ca8a68049afe1eb5041ac380929255c31cadf3384ef276bdb8aeaec825e", func := "watchglass/watchglasslaw10.LogDecodes", spec := "logDecodes", unfollowed := true, recurses := true, apart := false }
def LogDecodesSaid : Prop := logDecodesRow.holds Try.pinned (OpenSpec.ofChange logDecodesSpec)

/-- ITS FALSE NEIGHBOUR: 'it returns false'. Refute it at one input. -/
def logDecodesWrong : ChangeSpec := { name := "logDecodes", fn := fun _ => fun
  | [d] => { results := [.lit (.bool false)], args := [d] }
  | _ => none }
def LogDecodesWrongFalsely : Prop := logDecodesRow.holds Try.pinned (OpenSpec.ofChange logDecodesWrong)

/-- 'watchglasslaw10.LogSpoilt': WHATEVER THE INPUT: true; the input reads as it did. -/
def logSpoiltSpec : ChangeSpec := { name := "logSpoilt", fn := fun _ => fun
  | [d1, d2, d3, d4, d5, d6] => { results := [.lit (.bool true)], args := [d1, d2, d3, d4, d5, d6] }
  | _ => none }
def logSpoiltRow : OpenClaim := { program := "ytjelbfodkacipaa", sum := "f2e60ca8a68049afe1eb5041ac380929255c31cadf3384ef276bdb8aeaec825e", func := "watchglass/watchglasslaw10.LogSpoilt", spec := "logSpoilt", unfollowed := true, recurses := true, apart := false }
def LogSpoiltSaid : Prop := logSpoiltRow.holds Try.pinned (OpenSpec.ofChange logSpoiltSpec)

/-- ITS FALSE NEIGHBOUR: 'it returns false'. Refute it at one input. -/
def logSpoiltWrong : ChangeSpec := { name := "logSpoilt", fn := fun _ => fun
  | [d1, d2, d3, d4, d5, d6] => { results := [.lit (.bool false)], args := [d1, d2, d3, d4, d5, d6] }
  | _ => none }
def LogSpoiltWrongFalsely : Prop := logSpoiltRow.holds Try.pinned (OpenSpec.ofChange logSpoiltWrong)

/-- 'watchglasslaw10.LogSealed': WHATEVER THE INPUT: true; the input reads as it did. -/
def logSealedSpec : ChangeSpec := { name := "logSealed", fn := fun _ => fun
  | [d1, d2] => { results := [.lit (.bool true)], args := [d1, d2] }
  | _ => none }
def logSealedRow : OpenClaim := { program := "ytjelbfodkacipaa", sum := "f2e60ca8a68049afe1eb5041ac380929255c31cadf3384ef276bdb8aeaec825e", func := "watchglass/watchglasslaw10.LogSealed", spec := "logSealed", unfollowed := true, recurses := true, apart := false }
def LogSealedSaid : Prop := logSealedRow.holds Try.pinned (OpenSpec.ofChange logSealedSpec)

/-- ITS FALSE NEIGHBOUR: 'it returns false'. Refute it at one input. -/
def logSealedWrong : ChangeSpec := { name := "logSealed", fn := fun _ => fun
  | [d1, d2] => { results := [.lit (.bool false)], args := [d1, d2] }
  | _ => none }
def LogSealedWrongFalsely : Prop := logSealedRow.holds Try.pinned (OpenSpec.ofChange logSealedWrong)

/-- 'watchglasslaw10.LogBack': WHATEVER THE INPUT: true; the input reads as it did. -/
def logBackSpec : ChangeSpec := { name := "logBack", fn := fun _ => fun
  | [d1, d2, d3] => { results := [.lit (.bool true)], args := [d1, d2, d3] }
  | _ => none }
def logBackRow : OpenClaim := { program := "ytjelbfodkacipaa", sum := "f2e60ca8a68049afe1eb5041ac380929255c31cadf3384ef276bdb8aeaec825e", func := "watchglass/watchglasslaw10.LogBack", spec := "logBack", unfollowed := true, recurses := true, apart := false }
def LogBackSaid : Prop := logBackRow.holds Try.pinned (OpenSpec.ofChange logBackSpec)

/-- ITS FALSE NEIGHBOUR: 'it returns false'. Refute it at one input. -/
def logBackWrong : ChangeSpec := { name := "logBack", fn := fun _ => fun
  | [d1, d2, d3] => { results := [.lit (.bool false)], args := [d1, d2, d3] }
  | _ => none }
def LogBackWrongFalsely : Prop := logBackRow.holds Try.pinned (OpenSpec.ofChange logBackWrong)

/-- 'watchglasslaw10.LogCut': WHATEVER THE INPUT: true; the input reads as it did. -/
def logCutSpec : ChangeSpec := { name := "logCut", fn := fun _ => fun
  | [d1, d2, d3] => { results := [.lit (.bool true)], args := [d1, d2, d3] }
  | _ => none }
def logCutRow : OpenClaim := { program := "ytjelbfodkacipaa", sum := "f2e60ca8a68049afe1eb5041ac380929255c31cadf3384ef276bdb8aeaec825e", func := "watchglass/watchglasslaw10.LogCut", spec := "logCut", unfollowed := true, recurses := true, apart := false }
def LogCutSaid : Prop := logCutRow.holds Try.pinned (OpenSpec.ofChange logCutSpec)

/-- ITS FALSE NEIGHBOUR: 'it returns false'. Refute it at one input. -/
def logCutWrong : ChangeSpec := { name := "logCut", fn := fun _ => fun
  | [d1, d2, d3] => { results := [.lit (.bool false)], args := [d1, d2, d3] }
  | _ => none }
def LogCutWrongFalsely : Prop := logCutRow.holds Try.pinned (OpenSpec.ofChange logCutWrong)

/-- 'watchglasslaw10.LogTells': WHATEVER THE INPUT: true; the input reads as it did. -/
def logTellsSpec : ChangeSpec := { name := "logTells", fn := fun _ => fun
  | [d1, d2, d3, d4, d5] => { results := [.lit (.bool true)], args := [d1, d2, d3, d4, d5] }
  | _ => none }
def logTellsRow : OpenClaim := { program := "ytjelbfodkacipaa", sum := "f2e60ca8a68049afe1eb5041ac380929255c31cadf3384ef276bdb8aeaec825e", func := "watchglass/watchglasslaw10.LogTells", spec := "logTells", unfollowed := true, recurses := true, apart := false }
def LogTellsSaid : Prop := logTellsRow.holds Try.pinned (OpenSpec.ofChange logTellsSpec)

/-- ITS FALSE NEIGHBOUR: 'it returns false'. Refute it at one input. -/
def logTellsWrong : ChangeSpec := { name := "logTells", fn := fun _ => fun
  | [d1, d2, d3, d4, d5] => { results := [.lit (.bool false)], args := [d1, d2, d3, d4, d5] }
  | _ => none }
def LogTellsWrongFalsely : Prop := logTellsRow.holds Try.pinned (OpenSpec.ofChange logTellsWrong)

/- THE SECOND FORM. 'bulk': how many values and letters a reading holds, each counted each time it is reached (what is shared counts as often as it is met; a slice's spare places count too). A statement '..UptoSaid' is the law's where the arguments, and the package variables that the reading takes, are together of bulk at most 1048576: NARROWER than '..Said'. Prove '..Said' where nothing that the law and all that it calls make is longer than what came in: it says more and counts as full. Else prove '..UptoSaid'. A law counts once. -/
mutual
def uptoBulk {H : Type} : DataW H → Nat
  | .lit (.string bytes) => bytes.length + 1
  | .lit _ => 1
  | .nil => 1
  | .ptr d => uptoBulk d + 1
  | .slice elems spare => uptoBulkAll elems + uptoBulkAll spare + 1
  | .agg parts => uptoBulkAll parts + 1
  | .iface _ d => uptoBulk d + 1
  | .map entries => uptoBulkEntries entries + 1
  | .held _ => 1
def uptoBulkAll {H : Type} : List (DataW H) → Nat
  | [] => 0
  | d :: r => uptoBulk d + uptoBulkAll r
def uptoBulkEntries {H : Type} : List (Lit × DataW H) → Nat
  | [] => 0
  | x :: r => uptoBulkEntry x + uptoBulkEntries r
def uptoBulkEntry {H : Type} : Lit × DataW H → Nat
  | (.string bytes, d) => bytes.length + uptoBulk d + 1
  | (_, d) => uptoBulk d + 1
 end
def uptoSmall : (H : Type) → List (DataW H) → Bool := fun _ ds => decide (uptoBulkAll ds ≤ 1048576)
def OpenSpec.upto (s : _root_.Go.ChangeSpec) : _root_.Go.OpenSpec := { _root_.Go.OpenSpec.ofChange s with cond := some uptoSmall }

/-- 'watchglasslaw8.TraceMays', WHERE WHAT IT READS IS OF BULK AT MOST 1048576: true; the input reads as it did. -/
def traceMaysUptoRow : OpenClaim := { program := "ytjelbfodkacipaa", sum := "f2e60ca8a68049afe1eb5041ac380929255c31cadf3384ef276bdb8aeaec825e", func := "watchglass/watchglasslaw8.TraceMays", spec := "traceMays", unfollowed := true, recurses := true, apart := false, narrowed := true }
def TraceMaysUptoSaid : Prop := traceMaysUptoRow.holds Try.pinned (OpenSpec.upto traceMaysSpec)

/-- 'watchglasslaw8.TraceMade', WHERE WHAT IT READS IS OF BULK AT MOST 1048576: true; the input reads as it did. -/
def traceMadeUptoRow : OpenClaim := { program := "ytjelbfodkacipaa", sum := "f2e60ca8a68049afe1eb5041ac380929255c31cadf3384ef276bdb8aeaec825e", func := "watchglass/watchglasslaw8.TraceMade", spec := "traceMade", unfollowed := true, recurses := true, apart := false, narrowed := true }
def TraceMadeUptoSaid : Prop := traceMadeUptoRow.holds Try.pinned (OpenSpec.upto traceMadeSpec)

/-- 'watchglasslaw8.TraceTurned', WHERE WHAT IT READS IS OF BULK AT MOST 1048576: true; the input reads as it did. -/
def traceTurnedUptoRow : OpenClaim := { program := "ytjelbfodkacipaa", sum := "f2e60ca8a68049afe1eb5041ac380929255c31cadf3384ef276bdb8aeaec825e", func := "watchglass/watchglasslaw8.TraceTurned", spec := "traceTurned", unfollowed := true, recurses := true, apart := false, narrowed := true }
def TraceTurnedUptoSaid : Prop := traceTurnedUptoRow.holds Try.pinned (OpenSpec.upto traceTurnedSpec)

/-- 'watchglasslaw8.TraceAdds', WHERE WHAT IT READS IS OF BULK AT MOST 1048576: true; the input reads as it did. -/
def traceAddsUptoRow : OpenClaim := { program := "ytjelbfodkacipaa", sum := "f2e60ca8a68049afe1eb5041ac380929255c31cadf3384ef276bdb8aeaec825e", func := "watchglass/watchglasslaw8.TraceAdds", spec := "traceAdds", unfollowed := true, recurses := true, apart := false, narrowed := true }
def TraceAddsUptoSaid : Prop := traceAddsUptoRow.holds Try.pinned (OpenSpec.upto traceAddsSpec)

/-- 'watchglasslaw8.TraceFronts', WHERE WHAT IT READS IS OF BULK AT MOST 1048576: true; the input reads as it did. -/
def traceFrontsUptoRow : OpenClaim := { program := "ytjelbfodkacipaa", sum := "f2e60ca8a68049afe1eb5041ac380929255c31cadf3384ef276bdb8aeaec825e", func := "watchglass/watchglasslaw8.TraceFronts", spec := "traceFronts", unfollowed := true, recurses := true, apart := false, narrowed := true }
def TraceFrontsUptoSaid : Prop := traceFrontsUptoRow.holds Try.pinned (OpenSpec.upto traceFrontsSpec)

/-- 'watchglasslaw10.LogEncodes', WHERE WHAT IT READS IS OF BULK AT MOST 1048576: true; the input reads as it did. -/
def logEncodesUptoRow : OpenClaim := { program := "ytjelbfodkacipaa", sum := "f2e60ca8a68049afe1eb5041ac380929255c31cadf3384ef276bdb8aeaec825e", func := "watchglass/watchglasslaw10.LogEncodes", spec := "logEncodes", unfollowed := true, recurses := true, apart := false, narrowed := true }
def LogEncodesUptoSaid : Prop := logEncodesUptoRow.holds Try.pinned (OpenSpec.upto logEncodesSpec)

/-- 'watchglasslaw10.LogCanon', WHERE WHAT IT READS IS OF BULK AT MOST 1048576: true; the input reads as it did. -/
def logCanonUptoRow : OpenClaim := { program := "ytjelbfodkacipaa", sum := "f2e60ca8a68049afe1eb5041ac380929255c31cadf3384ef276bdb8aeaec825e", func := "watchglass/watchglasslaw10.LogCanon", spec := "logCanon", unfollowed := true, recurses := true, apart := false, narrowed := true }
def LogCanonUptoSaid : Prop := logCanonUptoRow.holds Try.pinned (OpenSpec.upto logCanonSpec)

/-- 'watchglasslaw10.LogDecodes', WHERE WHAT IT READS IS OF BULK AT MOST 1048576: true; the input reads as it did. -/
def logDecodesUptoRow : OpenClaim := { program := "ytjelbfodkacipaa", sum := "f2e60ca8a68049afe1eb5041ac380929255c31cadf3384ef276bdb8aeaec825e", func := "watchglass/watchglasslaw10.LogDecodes", spec := "logDecodes", unfollowed := true, recurses := true, apart := false, narrowed := true }
def LogDecodesUptoSaid : Prop := logDecodesUptoRow.holds Try.pinned (OpenSpec.upto logDecodesSpec)

/-- 'watchglasslaw10.LogSpoilt', WHERE WHAT IT READS IS OF BULK AT MOST 1048576: true; the input reads as it did. -/
def logSpoiltUptoRow : OpenClaim := { program := "ytjelbfodkacipaa", sum := "f2e60ca8a68049afe1eb5041ac380929255c31cadf3384ef276bdb8aeaec825e", func := "watchglass/watchglasslaw10.LogSpoilt", spec := "logSpoilt", unfollowed := true, recurses := true, apart := false, narrowed := true }
def LogSpoiltUptoSaid : Prop := logSpoiltUptoRow.holds Try.pinned (OpenSpec.upto logSpoiltSpec)

/-- 'watchglasslaw10.LogSealed', WHERE WHAT IT READS IS OF BULK AT MOST 1048576: true; the input reads as it did. -/
def logSealedUptoRow : OpenClaim := { program := "ytjelbfodkacipaa", sum := "f2e60ca8a68049afe1eb5041ac380929255c31cadf3384ef276bdb8aeaec825e", func := "watchglass/watchglasslaw10.LogSealed", spec := "logSealed", unfollowed := true, recurses := true, apart := false, narrowed := true }
def LogSealedUptoSaid : Prop := logSealedUptoRow.holds Try.pinned (OpenSpec.upto logSealedSpec)

/-- 'watchglasslaw10.LogBack', WHERE WHAT IT READS IS OF BULK AT MOST 1048576: true; the input reads as it did. -/
def logBackUptoRow : OpenClaim := { program := "ytjelbfodkacipaa", sum := "f2e60ca8a68049afe1eb5041ac380929255c31cadf3384ef276bdb8aeaec825e", func := "watchglass/watchglasslaw10.LogBack", spec := "logBack", unfollowed := true, recurses := true, apart := false, narrowed := true }
def LogBackUptoSaid : Prop := logBackUptoRow.holds Try.pinned (OpenSpec.upto logBackSpec)

/-- 'watchglasslaw10.LogCut', WHERE WHAT IT READS IS OF BULK AT MOST 1048576: true; the input reads as it did. -/
def logCutUptoRow : OpenClaim := { program := "ytjelbfodkacipaa", sum := "f2e60ca8a68049afe1eb5041ac380929255c31cadf3384ef276bdb8aeaec825e", func := "watchglass/watchglasslaw10.LogCut", spec := "logCut", unfollowed := true, recurses := true, apart := false, narrowed := true }
def LogCutUptoSaid : Prop := logCutUptoRow.holds Try.pinned (OpenSpec.upto logCutSpec)

/-- 'watchglasslaw10.LogTells', WHERE WHAT IT READS IS OF BULK AT MOST 1048576: true; the input reads as it did. -/
def logTellsUptoRow : OpenClaim := { program := "ytjelbfodkacipaa", sum := "f2e60ca8a68049afe1eb5041ac380929255c31cadf3384ef276bdb8aeaec825e", func := "watchglass/watchglasslaw10.LogTells", spec := "logTells", unfollowed := true, recurses := true, apart := false, narrowed := true }
def LogTellsUptoSaid : Prop := logTellsUptoRow.holds Try.pinned (OpenSpec.upto logTellsSpec)

end Rows
end Go.Proofs.Ytjelbfodkacipaa
