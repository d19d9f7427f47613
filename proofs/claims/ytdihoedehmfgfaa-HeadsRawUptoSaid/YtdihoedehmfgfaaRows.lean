/-
  No cell of these rows narrows 'for every input' (looked for: loops, veiled, ifaces, maps, wideKeys, modest, calm, conditions, laid).
  DERIVED. THE GIVEN ROWS OF THIS SEAT. 11 by the template 'for every input the law returns true; each argument reads behind the call as it read before'; 0 by the template 'total and deterministic' (their statements: YtdihoedehmfgfaaTotals.lean).
  GIVEN WITH THE SEED: the statements are not yours to turn. If you find one false, say at which input.
  Laid BY PROGRAM, IN A SANDBOX (cutbox-rows.mjs): the forced cells as the released guide's own fill.sh prints them over the translation dce122bc5bf01ad6… (all of the seat's roots in one cut). By AI agents, Wed Nov 11 2026. No macro, syntax, notation, axiom, sorry.
-/
import Derived.Test.YtdihoedehmfgfaaChecked
import GoSem.Claim
import GoSem.ClaimJoined
import GoSem.ClaimMapViews
import Derived.JoinedTies
import Derived.KernelRfl
namespace Go.Proofs.Ytdihoedehmfgfaa
/- THE CELL 'sum', in the pinned program and in every row, IS THE sha256 OF THE DUMP (.gsa) THAT YtdihoedehmfgfaaProg.lean LOADS. Nothing in Lean hashes anything: it is a label: what it is worth is what the hold of that sum in a sandbox is worth. -/
noncomputable def Try.pinned : Pinned := { name := "ytdihoedehmfgfaa", sum := "dce122bc5bf01ad655f1d5ba07c89b4d874fc652d8011eb648182d096ce77daf", checked := Try.checked }
namespace Rows
def none {H : Type} : Left H := { results := [], args := [] }

/-- 'watchglasslaw12.ScanAny': WHATEVER THE INPUT: true; the input reads as it did. -/
def scanAnySpec : ChangeSpec := { name := "scanAny", fn := fun _ => fun
  | [d1, d2, d3, d4, d5] => { results := [.lit (.bool true)], args := [d1, d2, d3, d4, d5] }
  | _ => none }
def scanAnyRow : OpenClaim := { program := "ytdihoedehmfgfaa", sum := "dce122bc5bf01ad655f1d5ba07c89b4d874fc652d8011eb648182d096ce77daf", func := "watchglass/watchglasslaw12.ScanAny", spec := "scanAny", unfollowed := true, recurses := true, apart := false }
def ScanAnySaid : Prop := scanAnyRow.holds Try.pinned (OpenSpec.ofChange scanAnySpec)

/-- ITS FALSE NEIGHBOUR: 'it returns false'. Refute it at one input. -/
def scanAnyWrong : ChangeSpec := { name := "scanAny", fn := fun _ => fun
  | [d1, d2, d3, d4, d5] => { results := [.lit (.bool false)], args := [d1, d2, d3, d4, d5] }
  | _ => none }
def ScanAnyWrongFalsely : Prop := scanAnyRow.holds Try.pinned (OpenSpec.ofChange scanAnyWrong)

/-- 'watchglasslaw12.ScanSpoilt': WHATEVER THE INPUT: true; the input reads as it did. -/
def scanSpoiltSpec : ChangeSpec := { name := "scanSpoilt", fn := fun _ => fun
  | [d1, d2, d3, d4, d5, d6, d7, d8, d9] => { results := [.lit (.bool true)], args := [d1, d2, d3, d4, d5, d6, d7, d8, d9] }
  | _ => none }
def scanSpoiltRow : OpenClaim := { program := "ytdihoedehmfgfaa", sum := "dce122bc5bf01ad655f1d5ba07c89b4d874fc652d8011eb648182d096ce77daf", func := "watchglass/watchglasslaw12.ScanSpoilt", spec := "scanSpoilt", unfollowed := true, recurses := true, apart := false }
def ScanSpoiltSaid : Prop := scanSpoiltRow.holds Try.pinned (OpenSpec.ofChange scanSpoiltSpec)

/-- ITS FALSE NEIGHBOUR: 'it returns false'. Refute it at one input. -/
def scanSpoiltWrong : ChangeSpec := { name := "scanSpoilt", fn := fun _ => fun
  | [d1, d2, d3, d4, d5, d6, d7, d8, d9] => { results := [.lit (.bool false)], args := [d1, d2, d3, d4, d5, d6, d7, d8, d9] }
  | _ => none }
def ScanSpoiltWrongFalsely : Prop := scanSpoiltRow.holds Try.pinned (OpenSpec.ofChange scanSpoiltWrong)

/-- 'watchglasslaw12.ScanSealed': WHATEVER THE INPUT: true; the input reads as it did. -/
def scanSealedSpec : ChangeSpec := { name := "scanSealed", fn := fun _ => fun
  | [d1, d2, d3, d4] => { results := [.lit (.bool true)], args := [d1, d2, d3, d4] }
  | _ => none }
def scanSealedRow : OpenClaim := { program := "ytdihoedehmfgfaa", sum := "dce122bc5bf01ad655f1d5ba07c89b4d874fc652d8011eb648182d096ce77daf", func := "watchglass/watchglasslaw12.ScanSealed", spec := "scanSealed", unfollowed := true, recurses := true, apart := false }
def ScanSealedSaid : Prop := scanSealedRow.holds Try.pinned (OpenSpec.ofChange scanSealedSpec)

/-- ITS FALSE NEIGHBOUR: 'it returns false'. Refute it at one input. -/
def scanSealedWrong : ChangeSpec := { name := "scanSealed", fn := fun _ => fun
  | [d1, d2, d3, d4] => { results := [.lit (.bool false)], args := [d1, d2, d3, d4] }
  | _ => none }
def ScanSealedWrongFalsely : Prop := scanSealedRow.holds Try.pinned (OpenSpec.ofChange scanSealedWrong)

/-- 'watchglasslaw12.ScanFault': WHATEVER THE INPUT: true; the input reads as it did. -/
def scanFaultSpec : ChangeSpec := { name := "scanFault", fn := fun _ => fun
  | [d1, d2, d3, d4] => { results := [.lit (.bool true)], args := [d1, d2, d3, d4] }
  | _ => none }
def scanFaultRow : OpenClaim := { program := "ytdihoedehmfgfaa", sum := "dce122bc5bf01ad655f1d5ba07c89b4d874fc652d8011eb648182d096ce77daf", func := "watchglass/watchglasslaw12.ScanFault", spec := "scanFault", unfollowed := true, recurses := true, apart := false }
def ScanFaultSaid : Prop := scanFaultRow.holds Try.pinned (OpenSpec.ofChange scanFaultSpec)

/-- ITS FALSE NEIGHBOUR: 'it returns false'. Refute it at one input. -/
def scanFaultWrong : ChangeSpec := { name := "scanFault", fn := fun _ => fun
  | [d1, d2, d3, d4] => { results := [.lit (.bool false)], args := [d1, d2, d3, d4] }
  | _ => none }
def ScanFaultWrongFalsely : Prop := scanFaultRow.holds Try.pinned (OpenSpec.ofChange scanFaultWrong)

/-- 'watchglasslaw13.HeadsFull': WHATEVER THE INPUT: true; the input reads as it did. -/
def headsFullSpec : ChangeSpec := { name := "headsFull", fn := fun _ => fun
  | [d1, d2, d3] => { results := [.lit (.bool true)], args := [d1, d2, d3] }
  | _ => none }
def headsFullRow : OpenClaim := { program := "ytdihoedehmfgfaa", sum := "dce122bc5bf01ad655f1d5ba07c89b4d874fc652d8011eb648182d096ce77daf", func := "watchglass/watchglasslaw13.HeadsFull", spec := "headsFull", unfollowed := true, recurses := true, apart := false }
def HeadsFullSaid : Prop := headsFullRow.holds Try.pinned (OpenSpec.ofChange headsFullSpec)

/-- ITS FALSE NEIGHBOUR: 'it returns false'. Refute it at one input. -/
def headsFullWrong : ChangeSpec := { name := "headsFull", fn := fun _ => fun
  | [d1, d2, d3] => { results := [.lit (.bool false)], args := [d1, d2, d3] }
  | _ => none }
def HeadsFullWrongFalsely : Prop := headsFullRow.holds Try.pinned (OpenSpec.ofChange headsFullWrong)

/-- 'watchglasslaw12.ScanLog': WHATEVER THE INPUT: true; the input reads as it did. -/
def scanLogSpec : ChangeSpec := { name := "scanLog", fn := fun _ => fun
  | [d1, d2, d3, d4, d5, d6, d7] => { results := [.lit (.bool true)], args := [d1, d2, d3, d4, d5, d6, d7] }
  | _ => none }
def scanLogRow : OpenClaim := { program := "ytdihoedehmfgfaa", sum := "dce122bc5bf01ad655f1d5ba07c89b4d874fc652d8011eb648182d096ce77daf", func := "watchglass/watchglasslaw12.ScanLog", spec := "scanLog", unfollowed := true, recurses := true, apart := false }
def ScanLogSaid : Prop := scanLogRow.holds Try.pinned (OpenSpec.ofChange scanLogSpec)

/-- ITS FALSE NEIGHBOUR: 'it returns false'. Refute it at one input. -/
def scanLogWrong : ChangeSpec := { name := "scanLog", fn := fun _ => fun
  | [d1, d2, d3, d4, d5, d6, d7] => { results := [.lit (.bool false)], args := [d1, d2, d3, d4, d5, d6, d7] }
  | _ => none }
def ScanLogWrongFalsely : Prop := scanLogRow.holds Try.pinned (OpenSpec.ofChange scanLogWrong)

/-- 'watchglasslaw13.HeadsOrder': WHATEVER THE INPUT: true; the input reads as it did. -/
def headsOrderSpec : ChangeSpec := { name := "headsOrder", fn := fun _ => fun
  | [d1, d2, d3, d4] => { results := [.lit (.bool true)], args := [d1, d2, d3, d4] }
  | _ => none }
def headsOrderRow : OpenClaim := { program := "ytdihoedehmfgfaa", sum := "dce122bc5bf01ad655f1d5ba07c89b4d874fc652d8011eb648182d096ce77daf", func := "watchglass/watchglasslaw13.HeadsOrder", spec := "headsOrder", unfollowed := true, recurses := true, apart := false }
def HeadsOrderSaid : Prop := headsOrderRow.holds Try.pinned (OpenSpec.ofChange headsOrderSpec)

/-- ITS FALSE NEIGHBOUR: 'it returns false'. Refute it at one input. -/
def headsOrderWrong : ChangeSpec := { name := "headsOrder", fn := fun _ => fun
  | [d1, d2, d3, d4] => { results := [.lit (.bool false)], args := [d1, d2, d3, d4] }
  | _ => none }
def HeadsOrderWrongFalsely : Prop := headsOrderRow.holds Try.pinned (OpenSpec.ofChange headsOrderWrong)

/-- 'watchglasslaw13.HeadsApart': WHATEVER THE INPUT: true; the input reads as it did. -/
def headsApartSpec : ChangeSpec := { name := "headsApart", fn := fun _ => fun
  | [d1, d2, d3, d4, d5] => { results := [.lit (.bool true)], args := [d1, d2, d3, d4, d5] }
  | _ => none }
def headsApartRow : OpenClaim := { program := "ytdihoedehmfgfaa", sum := "dce122bc5bf01ad655f1d5ba07c89b4d874fc652d8011eb648182d096ce77daf", func := "watchglass/watchglasslaw13.HeadsApart", spec := "headsApart", unfollowed := true, recurses := true, apart := false }
def HeadsApartSaid : Prop := headsApartRow.holds Try.pinned (OpenSpec.ofChange headsApartSpec)

/-- ITS FALSE NEIGHBOUR: 'it returns false'. Refute it at one input. -/
def headsApartWrong : ChangeSpec := { name := "headsApart", fn := fun _ => fun
  | [d1, d2, d3, d4, d5] => { results := [.lit (.bool false)], args := [d1, d2, d3, d4, d5] }
  | _ => none }
def HeadsApartWrongFalsely : Prop := headsApartRow.holds Try.pinned (OpenSpec.ofChange headsApartWrong)

/-- 'watchglasslaw13.HeadsPlays': WHATEVER THE INPUT: true; the input reads as it did. -/
def headsPlaysSpec : ChangeSpec := { name := "headsPlays", fn := fun _ => fun
  | [d1, d2, d3, d4, d5, d6] => { results := [.lit (.bool true)], args := [d1, d2, d3, d4, d5, d6] }
  | _ => none }
def headsPlaysRow : OpenClaim := { program := "ytdihoedehmfgfaa", sum := "dce122bc5bf01ad655f1d5ba07c89b4d874fc652d8011eb648182d096ce77daf", func := "watchglass/watchglasslaw13.HeadsPlays", spec := "headsPlays", unfollowed := true, recurses := true, apart := false }
def HeadsPlaysSaid : Prop := headsPlaysRow.holds Try.pinned (OpenSpec.ofChange headsPlaysSpec)

/-- ITS FALSE NEIGHBOUR: 'it returns false'. Refute it at one input. -/
def headsPlaysWrong : ChangeSpec := { name := "headsPlays", fn := fun _ => fun
  | [d1, d2, d3, d4, d5, d6] => { results := [.lit (.bool false)], args := [d1, d2, d3, d4, d5, d6] }
  | _ => none }
def HeadsPlaysWrongFalsely : Prop := headsPlaysRow.holds Try.pinned (OpenSpec.ofChange headsPlaysWrong)

/-- 'watchglasslaw13.HeadsRaw': WHATEVER THE INPUT: true; the input reads as it did. -/
def headsRawSpec : ChangeSpec := { name := "headsRaw", fn := fun _ => fun
  | [d1, d2, d3, d4, d5, d6, d7, d8, d9, d10, d11] => { results := [.lit (.bool true)], args := [d1, d2, d3, d4, d5, d6, d7, d8, d9, d10, d11] }
  | _ => none }
def headsRawRow : OpenClaim := { program := "ytdihoedehmfgfaa", sum := "dce122bc5bf01ad655f1d5ba07c89b4d874fc652d8011eb648182d096ce77daf", func := "watchglass/watchglasslaw13.HeadsRaw", spec := "headsRaw", unfollowed := true, recurses := true, apart := false }
def HeadsRawSaid : Prop := headsRawRow.holds Try.pinned (OpenSpec.ofChange headsRawSpec)

/-- ITS FALSE NEIGHBOUR: 'it returns false'. Refute it at one input. -/
def headsRawWrong : ChangeSpec := { name := "headsRaw", fn := fun _ => fun
  | [d1, d2, d3, d4, d5, d6, d7, d8, d9, d10, d11] => { results := [.lit (.bool false)], args := [d1, d2, d3, d4, d5, d6, d7, d8, d9, d10, d11] }
  | _ => none }
def HeadsRawWrongFalsely : Prop := headsRawRow.holds Try.pinned (OpenSpec.ofChange headsRawWrong)

/-- 'watchglasslaw13.HeadsNil': WHATEVER THE INPUT: true; the input reads as it did. -/
def headsNilSpec : ChangeSpec := { name := "headsNil", fn := fun _ => fun
  | [d1, d2] => { results := [.lit (.bool true)], args := [d1, d2] }
  | _ => none }
def headsNilRow : OpenClaim := { program := "ytdihoedehmfgfaa", sum := "dce122bc5bf01ad655f1d5ba07c89b4d874fc652d8011eb648182d096ce77daf", func := "watchglass/watchglasslaw13.HeadsNil", spec := "headsNil", unfollowed := true, recurses := true, apart := false }
def HeadsNilSaid : Prop := headsNilRow.holds Try.pinned (OpenSpec.ofChange headsNilSpec)

/-- ITS FALSE NEIGHBOUR: 'it returns false'. Refute it at one input. -/
def headsNilWrong : ChangeSpec := { name := "headsNil", fn := fun _ => fun
  | [d1, d2] => { results := [.lit (.bool false)], args := [d1, d2] }
  | _ => none }
def HeadsNilWrongFalsely : Prop := headsNilRow.holds Try.pinned (OpenSpec.ofChange headsNilWrong)

/- THE SECOND FORM. 'bulk': how many values and letters a reading holds, each counted each time it is reached (what is shared counts as often as it is met; a slice's spare places count too). A statement '..UptoSaid' is the law's where the arguments, and the package variables that the reading takes, are together of bulk at most 1048576: NARROWER than '..Said'. Prove '..Said' where nothing that the law and all that it calls make is longer than what came in: it says more and counts as full. Else prove '..UptoSaid'. A law counts once. -/
mutual
def uptoBulk {H : Type} : DataW H → Nat
  | .lit (.string bytes) => bytes.length + 1
  | .lit _ => 1
  | .nil => 1
  | .ptr d => uptoBulk d + 1
  | .slice elems spare => uptoBulkAll elems + uptoBulkAll spare + 1
  | .agg parts => uptoBulkAll parts + 1
  | .iface _ d => uptoBulk d + 1
  | .map entries => uptoBulkEntries entries + 1
  | .held _ => 1
def uptoBulkAll {H : Type} : List (DataW H) → Nat
  | [] => 0
  | d :: r => uptoBulk d + uptoBulkAll r
def uptoBulkEntries {H : Type} : List (Lit × DataW H) → Nat
  | [] => 0
  | x :: r => uptoBulkEntry x + uptoBulkEntries r
def uptoBulkEntry {H : Type} : Lit × DataW H → Nat
  | (.string bytes, d) => bytes.length + uptoBulk d + 1
  | (_, d) => uptoBulk d + 1
 end
def uptoSmall : (H : Type) → List (DataW H) → Bool := fun _ ds => decide (uptoBulkAll ds ≤ 1048576)
def OpenSpec.upto (s : _root_.Go.ChangeSpec) : _root_.Go.OpenSpec := { _root_.Go.OpenSpec.ofChange s with cond := some uptoSmall }

/-- 'watchglasslaw12.ScanAny', WHERE WHAT IT READS IS OF BULK AT MOST 1048576: true; the input reads as it did. -/
def scanAnyUptoRow : OpenClaim := { program := "ytdihoedehmfgfaa", sum := "dce122bc5bf01ad655f1d5ba07c89b4d874fc652d8011eb648182d096ce77daf", func := "watchglass/watchglasslaw12.ScanAny", spec := "scanAny", unfollowed := true, recurses := true, apart := false, narrowed := true }
def ScanAnyUptoSaid : Prop := scanAnyUptoRow.holds Try.pinned (OpenSpec.upto scanAnySpec)

/-- 'watchglasslaw12.ScanSpoilt', WHERE WHAT IT READS IS OF BULK AT MOST 1048576: true; the input reads as it did. -/
def scanSpoiltUptoRow : OpenClaim := { program := "ytdihoedehmfgfaa", sum := "dce122bc5bf01ad655f1d5ba07c89b4d874fc652d8011eb648182d096ce77daf", func := "watchglass/watchglasslaw12.ScanSpoilt", spec := "scanSpoilt", unfollowed := true, recurses := true, apart := false, narrowed := true }
def ScanSpoiltUptoSaid : Prop := scanSpoiltUptoRow.holds Try.pinned (OpenSpec.upto scanSpoiltSpec)

/-- 'watchglasslaw12.ScanSealed', WHERE WHAT IT READS IS OF BULK AT MOST 1048576: true; the input reads as it did. -/
def scanSealedUptoRow : OpenClaim := { program := "ytdihoedehmfgfaa", sum := "dce122bc5bf01ad655f1d5ba07c89b4d874fc652d8011eb648182d096ce77daf", func := "watchglass/watchglasslaw12.ScanSealed", spec := "scanSealed", unfollowed := true, recurses := true, apart := false, narrowed := true }
def ScanSealedUptoSaid : Prop := scanSealedUptoRow.holds Try.pinned (OpenSpec.upto scanSealedSpec)

/-- 'watchglasslaw12.ScanFault', WHERE WHAT IT READS IS OF BULK AT MOST 1048576: true; the input reads as it did. -/
def scanFaultUptoRow : OpenClaim := { program := "ytdihoedehmfgfaa", sum := "dce122bc5bf01ad655f1d5ba07c89b4d874fc652d8011eb648182d096ce77daf", func := "watchglass/watchglasslaw12.ScanFault", spec := "scanFault", unfollowed := true, recurses := true, apart := false, narrowed := true }
def ScanFaultUptoSaid : Prop := scanFaultUptoRow.holds Try.pinned (OpenSpec.upto scanFaultSpec)

/-- 'watchglasslaw13.HeadsFull', WHERE WHAT IT READS IS OF BULK AT MOST 1048576: true; the input reads as it did. -/
def headsFullUptoRow : OpenClaim := { program := "ytdihoedehmfgfaa", sum := "dce122bc5bf01ad655f1d5ba07c89b4d874fc652d8011eb648182d096ce77daf", func := "watchglass/watchglasslaw13.HeadsFull", spec := "headsFull", unfollowed := true, recurses := true, apart := false, narrowed := true }
def HeadsFullUptoSaid : Prop := headsFullUptoRow.holds Try.pinned (OpenSpec.upto headsFullSpec)

/-- 'watchglasslaw12.ScanLog', WHERE WHAT IT READS IS OF BULK AT MOST 1048576: true; the input reads as it did. -/
def scanLogUptoRow : OpenClaim := { program := "ytdihoedehmfgfaa", sum := "dce122bc5bf01ad655f1d5ba07c89b4d874fc652d8011eb648182d096ce77daf", func := "watchglass/watchglasslaw12.ScanLog", spec := "scanLog", unfollowed := true, recurses := true, apart := false, narrowed := true }
def ScanLogUptoSaid : Prop := scanLogUptoRow.holds Try.pinned (OpenSpec.upto scanLogSpec)

/-- 'watchglasslaw13.HeadsOrder', WHERE WHAT IT READS IS OF BULK AT MOST 1048576: true; the input reads as it did. -/
def headsOrderUptoRow : OpenClaim := { program := "ytdihoedehmfgfaa", sum := "dce122bc5bf01ad655f1d5ba07c89b4d874fc652d8011eb648182d096ce77daf", func := "watchglass/watchglasslaw13.HeadsOrder", spec := "headsOrder", unfollowed := true, recurses := true, apart := false, narrowed := true }
def HeadsOrderUptoSaid : Prop := headsOrderUptoRow.holds Try.pinned (OpenSpec.upto headsOrderSpec)

/-- 'watchglasslaw13.HeadsApart', WHERE WHAT IT READS IS OF BULK AT MOST 1048576: true; the input reads as it did. -/
def headsApartUptoRow : OpenClaim := { program := "ytdihoedehmfgfaa", sum := "dce122bc5bf01ad655f1d5ba07c89b4d874fc652d8011eb648182d096ce77daf", func := "watchglass/watchglasslaw13.HeadsApart", spec := "headsApart", unfollowed := true, recurses := true, apart := false, narrowed := true }
def HeadsApartUptoSaid : Prop := headsApartUptoRow.holds Try.pinned (OpenSpec.upto headsApartSpec)

/-- 'watchglasslaw13.HeadsPlays', WHERE WHAT IT READS IS OF BULK AT MOST 1048576: true; the input reads as it did. -/
def headsPlaysUptoRow : OpenClaim := { program := "ytdihoedehmfgfaa", sum := "dce122bc5bf01ad655f1d5ba07c89b4d874fc652d8011eb648182d096ce77daf", func := "watchglass/watchglasslaw13.HeadsPlays", spec := "headsPlays", unfollowed := true, recurses := true, apart := false, narrowed := true }
def HeadsPlaysUptoSaid : Prop := headsPlaysUptoRow.holds Try.pinned (OpenSpec.upto headsPlaysSpec)

/-- 'watchglasslaw13.HeadsRaw', WHERE WHAT IT READS IS OF BULK AT MOST 1048576: true; the input reads as it did. -/
def headsRawUptoRow : OpenClaim := { program := "ytdihoedehmfgfaa", sum := "dce122bc5bf01ad655f1d5ba07c89b4d874fc652d8011eb648182d096ce77daf", func := "watchglass/watchglasslaw13.HeadsRaw", spec := "headsRaw", unfollowed := true, recurses := true, apart := false, narrowed := true }
def HeadsRawUptoSaid : Prop := headsRawUptoRow.holds Try.pinned (OpenSpec.upto headsRawSpec)

/-- 'watchglasslaw13.HeadsNil', WHERE WHAT IT READS IS OF BULK AT MOST 1048576: true; the input reads as it did. -/
def headsNilUptoRow : OpenClaim := { program := "ytdihoedehmfgfaa", sum := "dce122bc5bf01ad655f1d5ba07c89b4d874fc652d8011eb648182d096ce77daf", func := "watchglass/watchglasslaw13.HeadsNil", spec := "headsNil", unfollowed := true, recurses := true, apart := false, narrowed := true }
def HeadsNilUptoSaid : Prop := headsNilUptoRow.holds Try.pinned (OpenSpec.upto headsNilSpec)

end Rows
end Go.Proofs.Ytdihoedehmfgfaa
