/-
  No cell of these rows narrows 'for every input' (looked for: loops, veiled, ifaces, maps, wideKeys, modest, calm, conditions, laid).
  DERIVED. THE GIVEN ROWS OF THIS SEAT. 11 by the template 'for every input the law returns true; each argument reads behind the call as it read before'; 0 by the template 'total and deterministic' (their statements: YthellicimicieaaTotals.lean).
  GIVEN WITH THE SEED: the statements are not yours to turn. If you find one false, say at which input.
  Laid BY PROGRAM, IN A SANDBOX (cutbox-rows.mjs): the forced cells as the released guide's own fill.sh prints them over the translation e6b01ab11e9d7bcc… (all of the seat's roots in one cut). By AI agents, Wed Nov 11 2026. No macro, syntax, notation, axiom, sorry.
-/
import Derived.Test.YthellicimicieaaChecked
import GoSem.Claim
import GoSem.ClaimJoined
import GoSem.ClaimMapViews
import Derived.JoinedTies
import Derived.KernelRfl
namespace Go.Proofs.Ythellicimicieaa
/- THE CELL 'sum', in the pinned program and in every row, IS THE sha256 OF THE DUMP (.gsa) THAT YthellicimicieaaProg.lean LOADS. Nothing in Lean hashes anything: it is a label: what it is worth is what the hold of that sum in a sandbox is worth. -/
noncomputable def Try.pinned : Pinned := { name := "ythellicimicieaa", sum := "e6b01ab11e9d7bcca3960ee3efd78c24159c6c6f112ac26fd30e6d3340549a09", checked := Try.checked }
namespace Rows
def none {H : Type} : Left H := { results := [], args := [] }

/-- 'watchglasslaw23.WindowShifts': WHATEVER THE INPUT: true; the input reads as it did. -/
def windowShiftsSpec : ChangeSpec := { name := "windowShifts", fn := fun _ => fun
  | [d1, d2, d3, d4] => { results := [.lit (.bool true)], args := [d1, d2, d3, d4] }
  | _ => none }
def windowShiftsRow : OpenClaim := { program := "ythellicimicieaa", sum := "e6b01ab11e9d7bcca3960ee3efd78c24159c6c6f112ac26fd30e6d3340549a09", func := "watchglass/watchglasslaw23.WindowShifts", spec := "windowShifts", apart := false }
def WindowShiftsSaid : Prop := windowShiftsRow.holds Try.pinned (OpenSpec.ofChange windowShiftsSpec)

/-- ITS FALSE NEIGHBOUR: 'it returns false'. Refute it at one input. -/
def windowShiftsWrong : ChangeSpec := { name := "windowShifts", fn := fun _ => fun
  | [d1, d2, d3, d4] => { results := [.lit (.bool false)], args := [d1, d2, d3, d4] }
  | _ => none }
def WindowShiftsWrongFalsely : Prop := windowShiftsRow.holds Try.pinned (OpenSpec.ofChange windowShiftsWrong)

/-- 'watchglasslaw21.MemoPlays': WHATEVER THE INPUT: true; the input reads as it did. -/
def memoPlaysSpec : ChangeSpec := { name := "memoPlays", fn := fun _ => fun
  | [d1, d2] => { results := [.lit (.bool true)], args := [d1, d2] }
  | _ => none }
def memoPlaysRow : OpenClaim := { program := "ythellicimicieaa", sum := "e6b01ab11e9d7bcca3960ee3efd78c24159c6c6f112ac26fd30e6d3340549a09", func := "watchglass/watchglasslaw21.MemoPlays", spec := "memoPlays", unfollowed := true, recurses := true, apart := false }
def MemoPlaysSaid : Prop := memoPlaysRow.holds Try.pinned (OpenSpec.ofChange memoPlaysSpec)

/-- ITS FALSE NEIGHBOUR: 'it returns false'. Refute it at one input. -/
def memoPlaysWrong : ChangeSpec := { name := "memoPlays", fn := fun _ => fun
  | [d1, d2] => { results := [.lit (.bool false)], args := [d1, d2] }
  | _ => none }
def MemoPlaysWrongFalsely : Prop := memoPlaysRow.holds Try.pinned (OpenSpec.ofChange memoPlaysWrong)

/-- 'watchglasslaw21.MemoLast': WHATEVER THE INPUT: true; the input reads as it did. -/
def memoLastSpec : ChangeSpec := { name := "memoLast", fn := fun _ => fun
  | [d1, d2] => { results := [.lit (.bool true)], args := [d1, d2] }
  | _ => none }
def memoLastRow : OpenClaim := { program := "ythellicimicieaa", sum := "e6b01ab11e9d7bcca3960ee3efd78c24159c6c6f112ac26fd30e6d3340549a09", func := "watchglass/watchglasslaw21.MemoLast", spec := "memoLast", unfollowed := true, recurses := true, apart := false }
def MemoLastSaid : Prop := memoLastRow.holds Try.pinned (OpenSpec.ofChange memoLastSpec)

/-- ITS FALSE NEIGHBOUR: 'it returns false'. Refute it at one input. -/
def memoLastWrong : ChangeSpec := { name := "memoLast", fn := fun _ => fun
  | [d1, d2] => { results := [.lit (.bool false)], args := [d1, d2] }
  | _ => none }
def MemoLastWrongFalsely : Prop := memoLastRow.holds Try.pinned (OpenSpec.ofChange memoLastWrong)

/-- 'watchglasslaw21.MemoRoom': WHATEVER THE INPUT: true; the input reads as it did. -/
def memoRoomSpec : ChangeSpec := { name := "memoRoom", fn := fun _ => fun
  | [d1, d2] => { results := [.lit (.bool true)], args := [d1, d2] }
  | _ => none }
def memoRoomRow : OpenClaim := { program := "ythellicimicieaa", sum := "e6b01ab11e9d7bcca3960ee3efd78c24159c6c6f112ac26fd30e6d3340549a09", func := "watchglass/watchglasslaw21.MemoRoom", spec := "memoRoom", unfollowed := true, recurses := true, apart := false }
def MemoRoomSaid : Prop := memoRoomRow.holds Try.pinned (OpenSpec.ofChange memoRoomSpec)

/-- ITS FALSE NEIGHBOUR: 'it returns false'. Refute it at one input. -/
def memoRoomWrong : ChangeSpec := { name := "memoRoom", fn := fun _ => fun
  | [d1, d2] => { results := [.lit (.bool false)], args := [d1, d2] }
  | _ => none }
def MemoRoomWrongFalsely : Prop := memoRoomRow.holds Try.pinned (OpenSpec.ofChange memoRoomWrong)

/-- 'watchglasslaw21.MemoClock': WHATEVER THE INPUT: true; the input reads as it did. -/
def memoClockSpec : ChangeSpec := { name := "memoClock", fn := fun _ => fun
  | [d1, d2] => { results := [.lit (.bool true)], args := [d1, d2] }
  | _ => none }
def memoClockRow : OpenClaim := { program := "ythellicimicieaa", sum := "e6b01ab11e9d7bcca3960ee3efd78c24159c6c6f112ac26fd30e6d3340549a09", func := "watchglass/watchglasslaw21.MemoClock", spec := "memoClock", unfollowed := true, recurses := true, apart := false }
def MemoClockSaid : Prop := memoClockRow.holds Try.pinned (OpenSpec.ofChange memoClockSpec)

/-- ITS FALSE NEIGHBOUR: 'it returns false'. Refute it at one input. -/
def memoClockWrong : ChangeSpec := { name := "memoClock", fn := fun _ => fun
  | [d1, d2] => { results := [.lit (.bool false)], args := [d1, d2] }
  | _ => none }
def MemoClockWrongFalsely : Prop := memoClockRow.holds Try.pinned (OpenSpec.ofChange memoClockWrong)

/-- 'watchglasslaw21.MemoCopy': WHATEVER THE INPUT: true; the input reads as it did. -/
def memoCopySpec : ChangeSpec := { name := "memoCopy", fn := fun _ => fun
  | [d1, d2, d3, d4] => { results := [.lit (.bool true)], args := [d1, d2, d3, d4] }
  | _ => none }
def memoCopyRow : OpenClaim := { program := "ythellicimicieaa", sum := "e6b01ab11e9d7bcca3960ee3efd78c24159c6c6f112ac26fd30e6d3340549a09", func := "watchglass/watchglasslaw21.MemoCopy", spec := "memoCopy", unfollowed := true, recurses := true, apart := false }
def MemoCopySaid : Prop := memoCopyRow.holds Try.pinned (OpenSpec.ofChange memoCopySpec)

/-- ITS FALSE NEIGHBOUR: 'it returns false'. Refute it at one input. -/
def memoCopyWrong : ChangeSpec := { name := "memoCopy", fn := fun _ => fun
  | [d1, d2, d3, d4] => { results := [.lit (.bool false)], args := [d1, d2, d3, d4] }
  | _ => none }
def MemoCopyWrongFalsely : Prop := memoCopyRow.holds Try.pinned (OpenSpec.ofChange memoCopyWrong)

/-- 'watchglasslaw21.MemoNil': WHATEVER THE INPUT: true; the input reads as it did. -/
def memoNilSpec : ChangeSpec := { name := "memoNil", fn := fun _ => fun
  | [d1, d2, d3] => { results := [.lit (.bool true)], args := [d1, d2, d3] }
  | _ => none }
def memoNilRow : OpenClaim := { program := "ythellicimicieaa", sum := "e6b01ab11e9d7bcca3960ee3efd78c24159c6c6f112ac26fd30e6d3340549a09", func := "watchglass/watchglasslaw21.MemoNil", spec := "memoNil", unfollowed := true, recurses := true, apart := false }
def MemoNilSaid : Prop := memoNilRow.holds Try.pinned (OpenSpec.ofChange memoNilSpec)

/-- ITS FALSE NEIGHBOUR: 'it returns false'. Refute it at one input. -/
def memoNilWrong : ChangeSpec := { name := "memoNil", fn := fun _ => fun
  | [d1, d2, d3] => { results := [.lit (.bool false)], args := [d1, d2, d3] }
  | _ => none }
def MemoNilWrongFalsely : Prop := memoNilRow.holds Try.pinned (OpenSpec.ofChange memoNilWrong)

/-- 'watchglasslaw23.WindowBound': WHATEVER THE INPUT: true; the input reads as it did. -/
def windowBoundSpec : ChangeSpec := { name := "windowBound", fn := fun _ => fun
  | [d1, d2, d3] => { results := [.lit (.bool true)], args := [d1, d2, d3] }
  | _ => none }
def windowBoundRow : OpenClaim := { program := "ythellicimicieaa", sum := "e6b01ab11e9d7bcca3960ee3efd78c24159c6c6f112ac26fd30e6d3340549a09", func := "watchglass/watchglasslaw23.WindowBound", spec := "windowBound", apart := false }
def WindowBoundSaid : Prop := windowBoundRow.holds Try.pinned (OpenSpec.ofChange windowBoundSpec)

/-- ITS FALSE NEIGHBOUR: 'it returns false'. Refute it at one input. -/
def windowBoundWrong : ChangeSpec := { name := "windowBound", fn := fun _ => fun
  | [d1, d2, d3] => { results := [.lit (.bool false)], args := [d1, d2, d3] }
  | _ => none }
def WindowBoundWrongFalsely : Prop := windowBoundRow.holds Try.pinned (OpenSpec.ofChange windowBoundWrong)

/-- 'watchglasslaw23.WindowTells': WHATEVER THE INPUT: true; the input reads as it did. -/
def windowTellsSpec : ChangeSpec := { name := "windowTells", fn := fun _ => fun
  | [d1, d2, d3, d4, d5] => { results := [.lit (.bool true)], args := [d1, d2, d3, d4, d5] }
  | _ => none }
def windowTellsRow : OpenClaim := { program := "ythellicimicieaa", sum := "e6b01ab11e9d7bcca3960ee3efd78c24159c6c6f112ac26fd30e6d3340549a09", func := "watchglass/watchglasslaw23.WindowTells", spec := "windowTells", inPlace := ["slices.overlaps[watchglass/api.Bucket]"], unfollowed := true, recurses := true, apart := false }
def WindowTellsSaid : Prop := windowTellsRow.holds Try.pinned (OpenSpec.ofChange windowTellsSpec)

/-- ITS FALSE NEIGHBOUR: 'it returns false'. Refute it at one input. -/
def windowTellsWrong : ChangeSpec := { name := "windowTells", fn := fun _ => fun
  | [d1, d2, d3, d4, d5] => { results := [.lit (.bool false)], args := [d1, d2, d3, d4, d5] }
  | _ => none }
def WindowTellsWrongFalsely : Prop := windowTellsRow.holds Try.pinned (OpenSpec.ofChange windowTellsWrong)

/-- 'watchglasslaw23.WindowMade': WHATEVER THE INPUT: true; the input reads as it did. -/
def windowMadeSpec : ChangeSpec := { name := "windowMade", fn := fun _ => fun
  | [d1, d2, d3, d4, d5, d6, d7] => { results := [.lit (.bool true)], args := [d1, d2, d3, d4, d5, d6, d7] }
  | _ => none }
def windowMadeRow : OpenClaim := { program := "ythellicimicieaa", sum := "e6b01ab11e9d7bcca3960ee3efd78c24159c6c6f112ac26fd30e6d3340549a09", func := "watchglass/watchglasslaw23.WindowMade", spec := "windowMade", inPlace := ["slices.overlaps[watchglass/api.Bucket]"], unfollowed := true, recurses := true, apart := false }
def WindowMadeSaid : Prop := windowMadeRow.holds Try.pinned (OpenSpec.ofChange windowMadeSpec)

/-- ITS FALSE NEIGHBOUR: 'it returns false'. Refute it at one input. -/
def windowMadeWrong : ChangeSpec := { name := "windowMade", fn := fun _ => fun
  | [d1, d2, d3, d4, d5, d6, d7] => { results := [.lit (.bool false)], args := [d1, d2, d3, d4, d5, d6, d7] }
  | _ => none }
def WindowMadeWrongFalsely : Prop := windowMadeRow.holds Try.pinned (OpenSpec.ofChange windowMadeWrong)

/-- 'watchglasslaw23.WindowAdds': WHATEVER THE INPUT: true; the input reads as it did. -/
def windowAddsSpec : ChangeSpec := { name := "windowAdds", fn := fun _ => fun
  | [d1, d2, d3, d4, d5] => { results := [.lit (.bool true)], args := [d1, d2, d3, d4, d5] }
  | _ => none }
def windowAddsRow : OpenClaim := { program := "ythellicimicieaa", sum := "e6b01ab11e9d7bcca3960ee3efd78c24159c6c6f112ac26fd30e6d3340549a09", func := "watchglass/watchglasslaw23.WindowAdds", spec := "windowAdds", inPlace := ["slices.overlaps[watchglass/api.Bucket]"], unfollowed := true, recurses := true, apart := false }
def WindowAddsSaid : Prop := windowAddsRow.holds Try.pinned (OpenSpec.ofChange windowAddsSpec)

/-- ITS FALSE NEIGHBOUR: 'it returns false'. Refute it at one input. -/
def windowAddsWrong : ChangeSpec := { name := "windowAdds", fn := fun _ => fun
  | [d1, d2, d3, d4, d5] => { results := [.lit (.bool false)], args := [d1, d2, d3, d4, d5] }
  | _ => none }
def WindowAddsWrongFalsely : Prop := windowAddsRow.holds Try.pinned (OpenSpec.ofChange windowAddsWrong)

/- THE SECOND FORM. 'bulk': how many values and letters a reading holds, each counted each time it is reached (what is shared counts as often as it is met; a slice's spare places count too). A statement '..UptoSaid' is the law's where the arguments, and the package variables that the reading takes, are together of bulk at most 1048576: NARROWER than '..Said'. Prove '..Said' where nothing that the law and all that it calls make is longer than what came in: it says more and counts as full. Else prove '..UptoSaid'. A law counts once. -/
mutual
def uptoBulk {H : Type} : DataW H → Nat
  | .lit (.string bytes) => bytes.length + 1
  | .lit _ => 1
  | .nil => 1
  | .ptr d => uptoBulk d + 1
  | .slice elems spare => uptoBulkAll elems + uptoBulkAll spare + 1
  | .agg parts => uptoBulkAll parts + 1
  | .iface _ d => uptoBulk d + 1
  | .map entries => uptoBulkEntries entries + 1
  | .held _ => 1
def uptoBulkAll {H : Type} : List (DataW H) → Nat
  | [] => 0
  | d :: r => uptoBulk d + uptoBulkAll r
def uptoBulkEntries {H : Type} : List (Lit × DataW H) → Nat
  | [] => 0
  | x :: r => uptoBulkEntry x + uptoBulkEntries r
def uptoBulkEntry {H : Type} : Lit × DataW H → Nat
  | (.string bytes, d) => bytes.length + uptoBulk d + 1
  | (_, d) => uptoBulk d + 1
 end
def uptoSmall : (H : Type) → List (DataW H) → Bool := fun _ ds => decide (uptoBulkAll ds ≤ 1048576)
def OpenSpec.upto (s : _root_.Go.ChangeSpec) : _root_.Go.OpenSpec := { _root_.Go.OpenSpec.ofChange s with cond := some uptoSmall }

/-- 'watchglasslaw23.WindowShifts', WHERE WHAT IT READS IS OF BULK AT MOST 1048576: true; the input reads as it did. -/
def windowShiftsUptoRow : OpenClaim := { program := "ythellicimicieaa", sum := "e6b01ab11e9d7bcca3960ee3efd78c24159c6c6f112ac26fd30e6d3340549a09", func := "watchglass/watchglasslaw23.WindowShifts", spec := "windowShifts", apart := false, narrowed := true }
def WindowShiftsUptoSaid : Prop := windowShiftsUptoRow.holds Try.pinned (OpenSpec.upto windowShiftsSpec)

/-- 'watchglasslaw21.MemoPlays', WHERE WHAT IT READS IS OF BULK AT MOST 1048576: true; the input reads as it did. -/
def memoPlaysUptoRow : OpenClaim := { program := "ythellicimicieaa", sum := "e6b01ab11e9d7bcca3960ee3efd78c24159c6c6f112ac26fd30e6d3340549a09", func := "watchglass/watchglasslaw21.MemoPlays", spec := "memoPlays", unfollowed := true, recurses := true, apart := false, narrowed := true }
def MemoPlaysUptoSaid : Prop := memoPlaysUptoRow.holds Try.pinned (OpenSpec.upto memoPlaysSpec)

/-- 'watchglasslaw21.MemoLast', WHERE WHAT IT READS IS OF BULK AT MOST 1048576: true; the input reads as it did. -/
def memoLastUptoRow : OpenClaim := { program := "ythellicimicieaa", sum := "e6b01ab11e9d7bcca3960ee3efd78c24159c6c6f112ac26fd30e6d3340549a09", func := "watchglass/watchglasslaw21.MemoLast", spec := "memoLast", unfollowed := true, recurses := true, apart := false, narrowed := true }
def MemoLastUptoSaid : Prop := memoLastUptoRow.holds Try.pinned (OpenSpec.upto memoLastSpec)

/-- 'watchglasslaw21.MemoRoom', WHERE WHAT IT READS IS OF BULK AT MOST 1048576: true; the input reads as it did. -/
def memoRoomUptoRow : OpenClaim := { program := "ythellicimicieaa", sum := "e6b01ab11e9d7bcca3960ee3efd78c24159c6c6f112ac26fd30e6d3340549a09", func := "watchglass/watchglasslaw21.MemoRoom", spec := "memoRoom", unfollowed := true, recurses := true, apart := false, narrowed := true }
def MemoRoomUptoSaid : Prop := memoRoomUptoRow.holds Try.pinned (OpenSpec.upto memoRoomSpec)

/-- 'watchglasslaw21.MemoClock', WHERE WHAT IT READS IS OF BULK AT MOST 1048576: true; the input reads as it did. -/
def memoClockUptoRow : OpenClaim := { program := "ythellicimicieaa", sum := "e6b01ab11e9d7bcca3960ee3efd78c24159c6c6f112ac26fd30e6d3340549a09", func := "watchglass/watchglasslaw21.MemoClock", spec := "memoClock", unfollowed := true, recurses := true, apart := false, narrowed := true }
def MemoClockUptoSaid : Prop := memoClockUptoRow.holds Try.pinned (OpenSpec.upto memoClockSpec)

/-- 'watchglasslaw21.MemoCopy', WHERE WHAT IT READS IS OF BULK AT MOST 1048576: true; the input reads as it did. -/
def memoCopyUptoRow : OpenClaim := { program := "ythellicimicieaa", sum := "e6b01ab11e9d7bcca3960ee3efd78c24159c6c6f112ac26fd30e6d3340549a09", func := "watchglass/watchglasslaw21.MemoCopy", spec := "memoCopy", unfollowed := true, recurses := true, apart := false, narrowed := true }
def MemoCopyUptoSaid : Prop := memoCopyUptoRow.holds Try.pinned (OpenSpec.upto memoCopySpec)

/-- 'watchglasslaw21.MemoNil', WHERE WHAT IT READS IS OF BULK AT MOST 1048576: true; the input reads as it did. -/
def memoNilUptoRow : OpenClaim := { program := "ythellicimicieaa", sum := "e6b01ab11e9d7bcca3960ee3efd78c24159c6c6f112ac26fd30e6d3340549a09", func := "watchglass/watchglasslaw21.MemoNil", spec := "memoNil", unfollowed := true, recurses := true, apart := false, narrowed := true }
def MemoNilUptoSaid : Prop := memoNilUptoRow.holds Try.pinned (OpenSpec.upto memoNilSpec)

/-- 'watchglasslaw23.WindowBound', WHERE WHAT IT READS IS OF BULK AT MOST 1048576: true; the input reads as it did. -/
def windowBoundUptoRow : OpenClaim := { program := "ythellicimicieaa", sum := "e6b01ab11e9d7bcca3960ee3efd78c24159c6c6f112ac26fd30e6d3340549a09", func := "watchglass/watchglasslaw23.WindowBound", spec := "windowBound", apart := false, narrowed := true }
def WindowBoundUptoSaid : Prop := windowBoundUptoRow.holds Try.pinned (OpenSpec.upto windowBoundSpec)

/-- 'watchglasslaw23.WindowTells', WHERE WHAT IT READS IS OF BULK AT MOST 1048576: true; the input reads as it did. -/
def windowTellsUptoRow : OpenClaim := { program := "ythellicimicieaa", sum := "e6b01ab11e9d7bcca3960ee3efd78c24159c6c6f112ac26fd30e6d3340549a09", func := "watchglass/watchglasslaw23.WindowTells", spec := "windowTells", inPlace := ["slices.overlaps[watchglass/api.Bucket]"], unfollowed := true, recurses := true, apart := false, narrowed := true }
def WindowTellsUptoSaid : Prop := windowTellsUptoRow.holds Try.pinned (OpenSpec.upto windowTellsSpec)

/-- 'watchglasslaw23.WindowMade', WHERE WHAT IT READS IS OF BULK AT MOST 1048576: true; the input reads as it did. -/
def windowMadeUptoRow : OpenClaim := { program := "ythellicimicieaa", sum := "e6b01ab11e9d7bcca3960ee3efd78c24159c6c6f112ac26fd30e6d3340549a09", func := "watchglass/watchglasslaw23.WindowMade", spec := "windowMade", inPlace := ["slices.overlaps[watchglass/api.Bucket]"], unfollowed := true, recurses := true, apart := false, narrowed := true }
def WindowMadeUptoSaid : Prop := windowMadeUptoRow.holds Try.pinned (OpenSpec.upto windowMadeSpec)

/-- 'watchglasslaw23.WindowAdds', WHERE WHAT IT READS IS OF BULK AT MOST 1048576: true; the input reads as it did. -/
def windowAddsUptoRow : OpenClaim := { program := "ythellicimicieaa", sum := "e6b01ab11e9d7bcca3960ee3efd78c24159c6c6f112ac26fd30e6d3340549a09", func := "watchglass/watchglasslaw23.WindowAdds", spec := "windowAdds", inPlace := ["slices.overlaps[watchglass/api.Bucket]"], unfollowed := true, recurses := true, apart := false, narrowed := true }
def WindowAddsUptoSaid : Prop := windowAddsUptoRow.holds Try.pinned (OpenSpec.upto windowAddsSpec)

end Rows
end Go.Proofs.Ythellicimicieaa
