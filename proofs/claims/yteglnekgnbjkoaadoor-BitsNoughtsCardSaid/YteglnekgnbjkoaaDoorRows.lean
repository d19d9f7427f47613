/-
  NARROWER THAN 'FOR EVERY INPUT', by the rows' own cells (each row's printed sentence says how): BitsMakes: laid · BitsBoth: laid · BitsBack: laid · BitsLaws: laid · BitsNoughts: laid · IvalLater: laid · IvalEnds: laid · IvalTells: laid · IvalClasses: laid.
  DERIVED. THE GIVEN ROWS OF THIS SEAT. 9 by the template 'for every input the law returns true; each argument reads behind the call as it read before'; 0 by the template 'total and deterministic' (their statements: YteglnekgnbjkoaaDoorTotals.lean).
  GIVEN WITH THE SEED: the statements are not yours to turn. If you find one false, say at which input.
  Laid BY PROGRAM, IN A SANDBOX (cutbox-rows.mjs): the forced cells as the released guide's own fill.sh prints them over the translation 588129632c9e0aec… (all of the seat's roots in one cut). By AI agents, Wed Nov 11 2026. No macro, syntax, notation, axiom, sorry.
-/
import Derived.Test.YteglnekgnbjkoaaDoorChecked
import GoSem.Claim
import GoSem.ClaimJoined
import GoSem.ClaimMapViews
import Derived.JoinedTies
import Derived.KernelRfl
namespace Go.Proofs.YteglnekgnbjkoaaDoor
/- THE CELL 'sum', in the pinned program and in every row, IS THE sha256 OF THE DUMP (.gsa) THAT YteglnekgnbjkoaaDoorProg.lean LOADS. Nothing in Lean hashes anything: it is a label: what it is worth is what the hold of that sum in a sandbox is worth. -/
noncomputable def Tryd.pinned : Pinned := { name := "yteglnekgnbjkoaadoor", sum := "588129632c9e0aec1bef5a855f34e148f8ccd493f2a800300f61d408bc0eb99d", checked := Tryd.checked }
namespace Rows
def none {H : Type} : Left H := { results := [], args := [] }

/- WHAT THE LISTED PACKAGE-LEVEL VARIABLES READ AS WHEN THE CALL BEGINS. Each datum BY PROGRAM (the guide's laid-datum.mjs) off the statement by which the dump's own 'gosem.cut.vars' lays the variable. In a bare row this is a premise. The card (YteglnekgnbjkoaaDoorCards.lean) ties it to the program's text. -/
def laid_math_bits_deBruijn64tab {H : Type} : DataW H := .agg [.lit (.int .u8 0), .lit (.int .u8 1), .lit (.int .u8 56), .lit (.int .u8 2), .lit (.int .u8 57), .lit (.int .u8 49), .lit (.int .u8 28), .lit (.int .u8 3), .lit (.int .u8 61), .lit (.int .u8 58), .lit (.int .u8 42), .lit (.int .u8 50), .lit (.int .u8 38), .lit (.int .u8 29), .lit (.int .u8 17), .lit (.int .u8 4), .lit (.int .u8 62), .lit (.int .u8 47), .lit (.int .u8 59), .lit (.int .u8 36), .lit (.int .u8 45), .lit (.int .u8 43), .lit (.int .u8 51), .lit (.int .u8 22), .lit (.int .u8 53), .lit (.int .u8 39), .lit (.int .u8 33), .lit (.int .u8 30), .lit (.int .u8 24), .lit (.int .u8 18), .lit (.int .u8 12), .lit (.int .u8 5), .lit (.int .u8 63), .lit (.int .u8 55), .lit (.int .u8 48), .lit (.int .u8 27), .lit (.int .u8 60), .lit (.int .u8 41), .lit (.int .u8 37), .lit (.int .u8 16), .lit (.int .u8 46), .lit (.int .u8 35), .lit (.int .u8 44), .lit (.int .u8 21), .lit (.int .u8 52), .lit (.int .u8 32), .lit (.int .u8 23), .lit (.int .u8 11), .lit (.int .u8 54), .lit (.int .u8 26), .lit (.int .u8 40), .lit (.int .u8 15), .lit (.int .u8 34), .lit (.int .u8 20), .lit (.int .u8 31), .lit (.int .u8 10), .lit (.int .u8 25), .lit (.int .u8 14), .lit (.int .u8 19), .lit (.int .u8 9), .lit (.int .u8 13), .lit (.int .u8 8), .lit (.int .u8 7), .lit (.int .u8 6)]
def laid_math_bits_deBruijn32tab {H : Type} : DataW H := .agg [.lit (.int .u8 0), .lit (.int .u8 1), .lit (.int .u8 28), .lit (.int .u8 2), .lit (.int .u8 29), .lit (.int .u8 14), .lit (.int .u8 24), .lit (.int .u8 3), .lit (.int .u8 30), .lit (.int .u8 22), .lit (.int .u8 20), .lit (.int .u8 15), .lit (.int .u8 25), .lit (.int .u8 17), .lit (.int .u8 4), .lit (.int .u8 8), .lit (.int .u8 31), .lit (.int .u8 27), .lit (.int .u8 13), .lit (.int .u8 23), .lit (.int .u8 21), .lit (.int .u8 19), .lit (.int .u8 16), .lit (.int .u8 7), .lit (.int .u8 26), .lit (.int .u8 12), .lit (.int .u8 18), .lit (.int .u8 6), .lit (.int .u8 11), .lit (.int .u8 5), .lit (.int .u8 10), .lit (.int .u8 9)]
def laid_internal_strconv_uint64pow10 {H : Type} : DataW H := .agg [.lit (.int .u64 1), .lit (.int .u64 10), .lit (.int .u64 100), .lit (.int .u64 1000), .lit (.int .u64 10000), .lit (.int .u64 100000), .lit (.int .u64 1000000), .lit (.int .u64 10000000), .lit (.int .u64 100000000), .lit (.int .u64 1000000000), .lit (.int .u64 10000000000), .lit (.int .u64 100000000000), .lit (.int .u64 1000000000000), .lit (.int .u64 10000000000000), .lit (.int .u64 100000000000000), .lit (.int .u64 1000000000000000), .lit (.int .u64 10000000000000000), .lit (.int .u64 100000000000000000), .lit (.int .u64 1000000000000000000), .lit (.int .u64 10000000000000000000)]

/-- 'watchglasslaw2.BitsMakes': WHATEVER THE INPUT: true; the input reads as it did. -/
def bitsMakesSpec : ChangeSpec := { name := "bitsMakes", fn := fun _ => fun
  | [d1, d2, d3] => { results := [.lit (.bool true)], args := [d1, d2, d3] }
  | _ => none }
def bitsMakesRow : OpenClaim := { program := "yteglnekgnbjkoaadoor", sum := "588129632c9e0aec1bef5a855f34e148f8ccd493f2a800300f61d408bc0eb99d", func := "watchglass/watchglasslaw2.BitsMakes", spec := "bitsMakes", named := ["math/bits.deBruijn64tab"], apart := false, laid := [("math/bits.deBruijn64tab", laid_math_bits_deBruijn64tab)] }
def BitsMakesSaid : Prop := bitsMakesRow.holds Tryd.pinned (OpenSpec.ofChange bitsMakesSpec)

/-- ITS FALSE NEIGHBOUR: 'it returns false'. Refute it at one input. -/
def bitsMakesWrong : ChangeSpec := { name := "bitsMakes", fn := fun _ => fun
  | [d1, d2, d3] => { results := [.lit (.bool false)], args := [d1, d2, d3] }
  | _ => none }
def BitsMakesWrongFalsely : Prop := bitsMakesRow.holds Tryd.pinned (OpenSpec.ofChange bitsMakesWrong)

/-- 'watchglasslaw2.BitsBoth': WHATEVER THE INPUT: true; the input reads as it did. -/
def bitsBothSpec : ChangeSpec := { name := "bitsBoth", fn := fun _ => fun
  | [d1, d2, d3] => { results := [.lit (.bool true)], args := [d1, d2, d3] }
  | _ => none }
def bitsBothRow : OpenClaim := { program := "yteglnekgnbjkoaadoor", sum := "588129632c9e0aec1bef5a855f34e148f8ccd493f2a800300f61d408bc0eb99d", func := "watchglass/watchglasslaw2.BitsBoth", spec := "bitsBoth", named := ["math/bits.deBruijn64tab"], apart := false, laid := [("math/bits.deBruijn64tab", laid_math_bits_deBruijn64tab)] }
def BitsBothSaid : Prop := bitsBothRow.holds Tryd.pinned (OpenSpec.ofChange bitsBothSpec)

/-- ITS FALSE NEIGHBOUR: 'it returns false'. Refute it at one input. -/
def bitsBothWrong : ChangeSpec := { name := "bitsBoth", fn := fun _ => fun
  | [d1, d2, d3] => { results := [.lit (.bool false)], args := [d1, d2, d3] }
  | _ => none }
def BitsBothWrongFalsely : Prop := bitsBothRow.holds Tryd.pinned (OpenSpec.ofChange bitsBothWrong)

/-- 'watchglasslaw2.BitsBack': WHATEVER THE INPUT: true; the input reads as it did. -/
def bitsBackSpec : ChangeSpec := { name := "bitsBack", fn := fun _ => fun
  | [d1, d2] => { results := [.lit (.bool true)], args := [d1, d2] }
  | _ => none }
def bitsBackRow : OpenClaim := { program := "yteglnekgnbjkoaadoor", sum := "588129632c9e0aec1bef5a855f34e148f8ccd493f2a800300f61d408bc0eb99d", func := "watchglass/watchglasslaw2.BitsBack", spec := "bitsBack", named := ["math/bits.deBruijn64tab"], apart := false, laid := [("math/bits.deBruijn64tab", laid_math_bits_deBruijn64tab)] }
def BitsBackSaid : Prop := bitsBackRow.holds Tryd.pinned (OpenSpec.ofChange bitsBackSpec)

/-- ITS FALSE NEIGHBOUR: 'it returns false'. Refute it at one input. -/
def bitsBackWrong : ChangeSpec := { name := "bitsBack", fn := fun _ => fun
  | [d1, d2] => { results := [.lit (.bool false)], args := [d1, d2] }
  | _ => none }
def BitsBackWrongFalsely : Prop := bitsBackRow.holds Tryd.pinned (OpenSpec.ofChange bitsBackWrong)

/-- 'watchglasslaw2.BitsLaws': WHATEVER THE INPUT: true; the input reads as it did. -/
def bitsLawsSpec : ChangeSpec := { name := "bitsLaws", fn := fun _ => fun
  | [d1, d2, d3] => { results := [.lit (.bool true)], args := [d1, d2, d3] }
  | _ => none }
def bitsLawsRow : OpenClaim := { program := "yteglnekgnbjkoaadoor", sum := "588129632c9e0aec1bef5a855f34e148f8ccd493f2a800300f61d408bc0eb99d", func := "watchglass/watchglasslaw2.BitsLaws", spec := "bitsLaws", named := ["math/bits.deBruijn64tab"], apart := false, laid := [("math/bits.deBruijn64tab", laid_math_bits_deBruijn64tab)] }
def BitsLawsSaid : Prop := bitsLawsRow.holds Tryd.pinned (OpenSpec.ofChange bitsLawsSpec)

/-- ITS FALSE NEIGHBOUR: 'it returns false'. Refute it at one input. -/
def bitsLawsWrong : ChangeSpec := { name := "bitsLaws", fn := fun _ => fun
  | [d1, d2, d3] => { results := [.lit (.bool false)], args := [d1, d2, d3] }
  | _ => none }
def BitsLawsWrongFalsely : Prop := bitsLawsRow.holds Tryd.pinned (OpenSpec.ofChange bitsLawsWrong)

/-- 'watchglasslaw2.BitsNoughts': WHATEVER THE INPUT: true; the input reads as it did. -/
def bitsNoughtsSpec : ChangeSpec := { name := "bitsNoughts", fn := fun _ => fun
  | [d1, d2, d3, d4] => { results := [.lit (.bool true)], args := [d1, d2, d3, d4] }
  | _ => none }
def bitsNoughtsRow : OpenClaim := { program := "yteglnekgnbjkoaadoor", sum := "588129632c9e0aec1bef5a855f34e148f8ccd493f2a800300f61d408bc0eb99d", func := "watchglass/watchglasslaw2.BitsNoughts", spec := "bitsNoughts", named := ["math/bits.deBruijn64tab"], apart := false, laid := [("math/bits.deBruijn64tab", laid_math_bits_deBruijn64tab)] }
def BitsNoughtsSaid : Prop := bitsNoughtsRow.holds Tryd.pinned (OpenSpec.ofChange bitsNoughtsSpec)

/-- ITS FALSE NEIGHBOUR: 'it returns false'. Refute it at one input. -/
def bitsNoughtsWrong : ChangeSpec := { name := "bitsNoughts", fn := fun _ => fun
  | [d1, d2, d3, d4] => { results := [.lit (.bool false)], args := [d1, d2, d3, d4] }
  | _ => none }
def BitsNoughtsWrongFalsely : Prop := bitsNoughtsRow.holds Tryd.pinned (OpenSpec.ofChange bitsNoughtsWrong)

/-- 'watchglasslaw3.IvalLater': WHATEVER THE INPUT: true; the input reads as it did. -/
def ivalLaterSpec : ChangeSpec := { name := "ivalLater", fn := fun _ => fun
  | [d1, d2, d3, d4, d5, d6] => { results := [.lit (.bool true)], args := [d1, d2, d3, d4, d5, d6] }
  | _ => none }
def ivalLaterRow : OpenClaim := { program := "yteglnekgnbjkoaadoor", sum := "588129632c9e0aec1bef5a855f34e148f8ccd493f2a800300f61d408bc0eb99d", func := "watchglass/watchglasslaw3.IvalLater", spec := "ivalLater", named := ["internal/strconv.uint64pow10", "math/bits.deBruijn32tab", "math/bits.deBruijn64tab"], apart := false, laid := [("math/bits.deBruijn32tab", laid_math_bits_deBruijn32tab), ("math/bits.deBruijn64tab", laid_math_bits_deBruijn64tab), ("internal/strconv.uint64pow10", laid_internal_strconv_uint64pow10)] }
def IvalLaterSaid : Prop := ivalLaterRow.holds Tryd.pinned (OpenSpec.ofChange ivalLaterSpec)

/-- ITS FALSE NEIGHBOUR: 'it returns false'. Refute it at one input. -/
def ivalLaterWrong : ChangeSpec := { name := "ivalLater", fn := fun _ => fun
  | [d1, d2, d3, d4, d5, d6] => { results := [.lit (.bool false)], args := [d1, d2, d3, d4, d5, d6] }
  | _ => none }
def IvalLaterWrongFalsely : Prop := ivalLaterRow.holds Tryd.pinned (OpenSpec.ofChange ivalLaterWrong)

/-- 'watchglasslaw3.IvalEnds': WHATEVER THE INPUT: true; the input reads as it did. -/
def ivalEndsSpec : ChangeSpec := { name := "ivalEnds", fn := fun _ => fun
  | [d1, d2] => { results := [.lit (.bool true)], args := [d1, d2] }
  | _ => none }
def ivalEndsRow : OpenClaim := { program := "yteglnekgnbjkoaadoor", sum := "588129632c9e0aec1bef5a855f34e148f8ccd493f2a800300f61d408bc0eb99d", func := "watchglass/watchglasslaw3.IvalEnds", spec := "ivalEnds", named := ["internal/strconv.uint64pow10", "math/bits.deBruijn32tab", "math/bits.deBruijn64tab"], apart := false, laid := [("math/bits.deBruijn32tab", laid_math_bits_deBruijn32tab), ("math/bits.deBruijn64tab", laid_math_bits_deBruijn64tab), ("internal/strconv.uint64pow10", laid_internal_strconv_uint64pow10)] }
def IvalEndsSaid : Prop := ivalEndsRow.holds Tryd.pinned (OpenSpec.ofChange ivalEndsSpec)

/-- ITS FALSE NEIGHBOUR: 'it returns false'. Refute it at one input. -/
def ivalEndsWrong : ChangeSpec := { name := "ivalEnds", fn := fun _ => fun
  | [d1, d2] => { results := [.lit (.bool false)], args := [d1, d2] }
  | _ => none }
def IvalEndsWrongFalsely : Prop := ivalEndsRow.holds Tryd.pinned (OpenSpec.ofChange ivalEndsWrong)

/-- 'watchglasslaw3.IvalTells': WHATEVER THE INPUT: true; the input reads as it did. -/
def ivalTellsSpec : ChangeSpec := { name := "ivalTells", fn := fun _ => fun
  | [d1, d2, d3] => { results := [.lit (.bool true)], args := [d1, d2, d3] }
  | _ => none }
def ivalTellsRow : OpenClaim := { program := "yteglnekgnbjkoaadoor", sum := "588129632c9e0aec1bef5a855f34e148f8ccd493f2a800300f61d408bc0eb99d", func := "watchglass/watchglasslaw3.IvalTells", spec := "ivalTells", named := ["internal/strconv.uint64pow10", "math/bits.deBruijn32tab", "math/bits.deBruijn64tab"], apart := false, laid := [("math/bits.deBruijn32tab", laid_math_bits_deBruijn32tab), ("math/bits.deBruijn64tab", laid_math_bits_deBruijn64tab), ("internal/strconv.uint64pow10", laid_internal_strconv_uint64pow10)] }
def IvalTellsSaid : Prop := ivalTellsRow.holds Tryd.pinned (OpenSpec.ofChange ivalTellsSpec)

/-- ITS FALSE NEIGHBOUR: 'it returns false'. Refute it at one input. -/
def ivalTellsWrong : ChangeSpec := { name := "ivalTells", fn := fun _ => fun
  | [d1, d2, d3] => { results := [.lit (.bool false)], args := [d1, d2, d3] }
  | _ => none }
def IvalTellsWrongFalsely : Prop := ivalTellsRow.holds Tryd.pinned (OpenSpec.ofChange ivalTellsWrong)

/-- 'watchglasslaw3.IvalClasses': WHATEVER THE INPUT: true; the input reads as it did. -/
def ivalClassesSpec : ChangeSpec := { name := "ivalClasses", fn := fun _ => fun
  | [d1, d2, d3, d4, d5] => { results := [.lit (.bool true)], args := [d1, d2, d3, d4, d5] }
  | _ => none }
def ivalClassesRow : OpenClaim := { program := "yteglnekgnbjkoaadoor", sum := "588129632c9e0aec1bef5a855f34e148f8ccd493f2a800300f61d408bc0eb99d", func := "watchglass/watchglasslaw3.IvalClasses", spec := "ivalClasses", named := ["internal/strconv.uint64pow10", "math/bits.deBruijn32tab", "math/bits.deBruijn64tab"], apart := false, laid := [("math/bits.deBruijn32tab", laid_math_bits_deBruijn32tab), ("math/bits.deBruijn64tab", laid_math_bits_deBruijn64tab), ("internal/strconv.uint64pow10", laid_internal_strconv_uint64pow10)] }
def IvalClassesSaid : Prop := ivalClassesRow.holds Tryd.pinned (OpenSpec.ofChange ivalClassesSpec)

/-- ITS FALSE NEIGHBOUR: 'it returns false'. Refute it at one input. -/
def ivalClassesWrong : ChangeSpec := { name := "ivalClasses", fn := fun _ => fun
  | [d1, d2, d3, d4, d5] => { results := [.lit (.bool false)], args := [d1, d2, d3, d4, d5] }
  | _ => none }
def IvalClassesWrongFalsely : Prop := ivalClassesRow.holds Tryd.pinned (OpenSpec.ofChange ivalClassesWrong)

/- THE SECOND FORM. 'bulk': how many values and letters a reading holds, each counted each time it is reached (what is shared counts as often as it is met; a slice's spare places count too). A statement '..UptoSaid' is the law's where the arguments, and the package variables that the reading takes, are together of bulk at most 1048576: NARROWER than '..Said'. Prove '..Said' where nothing that the law and all that it calls make is longer than what came in: it says more and counts as full. Else prove '..UptoSaid'. A law counts once. -/
mutual
def uptoBulk {H : Type} : DataW H → Nat
  | .lit (.string bytes) => bytes.length + 1
  | .lit _ => 1
  | .nil => 1
  | .ptr d => uptoBulk d + 1
  | .slice elems spare => uptoBulkAll elems + uptoBulkAll spare + 1
  | .agg parts => uptoBulkAll parts + 1
  | .iface _ d => uptoBulk d + 1
  | .map entries => uptoBulkEntries entries + 1
  | .held _ => 1
def uptoBulkAll {H : Type} : List (DataW H) → Nat
  | [] => 0
  | d :: r => uptoBulk d + uptoBulkAll r
def uptoBulkEntries {H : Type} : List (Lit × DataW H) → Nat
  | [] => 0
  | x :: r => uptoBulkEntry x + uptoBulkEntries r
def uptoBulkEntry {H : Type} : Lit × DataW H → Nat
  | (.string bytes, d) => bytes.length + uptoBulk d + 1
  | (_, d) => uptoBulk d + 1
 end
def uptoSmall : (H : Type) → List (DataW H) → Bool := fun _ ds => decide (uptoBulkAll ds ≤ 1048576)
def OpenSpec.upto (s : _root_.Go.ChangeSpec) : _root_.Go.OpenSpec := { _root_.Go.OpenSpec.ofChange s with cond := some uptoSmall }

/-- 'watchglasslaw2.BitsMakes', WHERE WHAT IT READS IS OF BULK AT MOST 1048576: true; the input reads as it did. -/
def bitsMakesUptoRow : OpenClaim := { program := "yteglnekgnbjkoaadoor", sum := "588129632c9e0aec1bef5a855f34e148f8ccd493f2a800300f61d408bc0eb99d", func := "watchglass/watchglasslaw2.BitsMakes", spec := "bitsMakes", named := ["math/bits.deBruijn64tab"], apart := false, laid := [("math/bits.deBruijn64tab", laid_math_bits_deBruijn64tab)], narrowed := true }
def BitsMakesUptoSaid : Prop := bitsMakesUptoRow.holds Tryd.pinned (OpenSpec.upto bitsMakesSpec)

/-- 'watchglasslaw2.BitsBoth', WHERE WHAT IT READS IS OF BULK AT MOST 1048576: true; the input reads as it did. -/
def bitsBothUptoRow : OpenClaim := { program := "yteglnekgnbjkoaadoor", sum := "588129632c9e0aec1bef5a855f34e148f8ccd493f2a800300f61d408bc0eb99d", func := "watchglass/watchglasslaw2.BitsBoth", spec := "bitsBoth", named := ["math/bits.deBruijn64tab"], apart := false, laid := [("math/bits.deBruijn64tab", laid_math_bits_deBruijn64tab)], narrowed := true }
def BitsBothUptoSaid : Prop := bitsBothUptoRow.holds Tryd.pinned (OpenSpec.upto bitsBothSpec)

/-- 'watchglasslaw2.BitsBack', WHERE WHAT IT READS IS OF BULK AT MOST 1048576: true; the input reads as it did. -/
def bitsBackUptoRow : OpenClaim := { program := "yteglnekgnbjkoaadoor", sum := "588129632c9e0aec1bef5a855f34e148f8ccd493f2a800300f61d408bc0eb99d", func := "watchglass/watchglasslaw2.BitsBack", spec := "bitsBack", named := ["math/bits.deBruijn64tab"], apart := false, laid := [("math/bits.deBruijn64tab", laid_math_bits_deBruijn64tab)], narrowed := true }
def BitsBackUptoSaid : Prop := bitsBackUptoRow.holds Tryd.pinned (OpenSpec.upto bitsBackSpec)

/-- 'watchglasslaw2.BitsLaws', WHERE WHAT IT READS IS OF BULK AT MOST 1048576: true; the input reads as it did. -/
def bitsLawsUptoRow : OpenClaim := { program := "yteglnekgnbjkoaadoor", sum := "588129632c9e0aec1bef5a855f34e148f8ccd493f2a800300f61d408bc0eb99d", func := "watchglass/watchglasslaw2.BitsLaws", spec := "bitsLaws", named := ["math/bits.deBruijn64tab"], apart := false, laid := [("math/bits.deBruijn64tab", laid_math_bits_deBruijn64tab)], narrowed := true }
def BitsLawsUptoSaid : Prop := bitsLawsUptoRow.holds Tryd.pinned (OpenSpec.upto bitsLawsSpec)

/-- 'watchglasslaw2.BitsNoughts', WHERE WHAT IT READS IS OF BULK AT MOST 1048576: true; the input reads as it did. -/
def bitsNoughtsUptoRow : OpenClaim := { program := "yteglnekgnbjkoaadoor", sum := "588129632c9e0aec1bef5a855f34e148f8ccd493f2a800300f61d408bc0eb99d", func := "watchglass/watchglasslaw2.BitsNoughts", spec := "bitsNoughts", named := ["math/bits.deBruijn64tab"], apart := false, laid := [("math/bits.deBruijn64tab", laid_math_bits_deBruijn64tab)], narrowed := true }
def BitsNoughtsUptoSaid : Prop := bitsNoughtsUptoRow.holds Tryd.pinned (OpenSpec.upto bitsNoughtsSpec)

/-- 'watchglasslaw3.IvalLater', WHERE WHAT IT READS IS OF BULK AT MOST 1048576: true; the input reads as it did. -/
def ivalLaterUptoRow : OpenClaim := { program := "yteglnekgnbjkoaadoor", sum := "588129632c9e0aec1bef5a855f34e148f8ccd493f2a800300f61d408bc0eb99d", func := "watchglass/watchglasslaw3.IvalLater", spec := "ivalLater", named := ["internal/strconv.uint64pow10", "math/bits.deBruijn32tab", "math/bits.deBruijn64tab"], apart := false, laid := [("math/bits.deBruijn32tab", laid_math_bits_deBruijn32tab), ("math/bits.deBruijn64tab", laid_math_bits_deBruijn64tab), ("internal/strconv.uint64pow10", laid_internal_strconv_uint64pow10)], narrowed := true }
def IvalLaterUptoSaid : Prop := ivalLaterUptoRow.holds Tryd.pinned (OpenSpec.upto ivalLaterSpec)

/-- 'watchglasslaw3.IvalEnds', WHERE WHAT IT READS IS OF BULK AT MOST 1048576: true; the input reads as it did. -/
def ivalEndsUptoRow : OpenClaim := { program := "yteglnekgnbjkoaadoor", sum := "588129632c9e0aec1bef5a855f34e148f8ccd493f2a800300f61d408bc0eb99d", func := "watchglass/watchglasslaw3.IvalEnds", spec := "ivalEnds", named := ["internal/strconv.uint64pow10", "math/bits.deBruijn32tab", "math/bits.deBruijn64tab"], apart := false, laid := [("math/bits.deBruijn32tab", laid_math_bits_deBruijn32tab), ("math/bits.deBruijn64tab", laid_math_bits_deBruijn64tab), ("internal/strconv.uint64pow10", laid_internal_strconv_uint64pow10)], narrowed := true }
def IvalEndsUptoSaid : Prop := ivalEndsUptoRow.holds Tryd.pinned (OpenSpec.upto ivalEndsSpec)

/-- 'watchglasslaw3.IvalTells', WHERE WHAT IT READS IS OF BULK AT MOST 1048576: true; the input reads as it did. -/
def ivalTellsUptoRow : OpenClaim := { program := "yteglnekgnbjkoaadoor", sum := "588129632c9e0aec1bef5a855f34e148f8ccd493f2a800300f61d408bc0eb99d", func := "watchglass/watchglasslaw3.IvalTells", spec := "ivalTells", named := ["internal/strconv.uint64pow10", "math/bits.deBruijn32tab", "math/bits.deBruijn64tab"], apart := false, laid := [("math/bits.deBruijn32tab", laid_math_bits_deBruijn32tab), ("math/bits.deBruijn64tab", laid_math_bits_deBruijn64tab), ("internal/strconv.uint64pow10", laid_internal_strconv_uint64pow10)], narrowed := true }
def IvalTellsUptoSaid : Prop := ivalTellsUptoRow.holds Tryd.pinned (OpenSpec.upto ivalTellsSpec)

/-- 'watchglasslaw3.IvalClasses', WHERE WHAT IT READS IS OF BULK AT MOST 1048576: true; the input reads as it did. -/
def ivalClassesUptoRow : OpenClaim := { program := "yteglnekgnbjkoaadoor", sum := "588129632c9e0aec1bef5a855f34e148f8ccd493f2a800300f61d408bc0eb99d", func := "watchglass/watchglasslaw3.IvalClasses", spec := "ivalClasses", named := ["internal/strconv.uint64pow10", "math/bits.deBruijn32tab", "math/bits.deBruijn64tab"], apart := false, laid := [("math/bits.deBruijn32tab", laid_math_bits_deBruijn32tab), ("math/bits.deBruijn64tab", laid_math_bits_deBruijn64tab), ("internal/strconv.uint64pow10", laid_internal_strconv_uint64pow10)], narrowed := true }
def IvalClassesUptoSaid : Prop := ivalClassesUptoRow.holds Tryd.pinned (OpenSpec.upto ivalClassesSpec)

end Rows
end Go.Proofs.YteglnekgnbjkoaaDoor
