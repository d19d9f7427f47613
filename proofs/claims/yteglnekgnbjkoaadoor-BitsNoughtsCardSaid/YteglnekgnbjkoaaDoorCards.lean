/-
  DERIVED. GIVEN WITH THE SEED: THE CARDS: each row of YteglnekgnbjkoaaDoorRows.lean that lists a variable, with what it lists TIED to the program's text (the seventh form; the later family's looks); each row that meets fmt, with fmt's text TOLD by the authors' own Lean function (tested against real Go, not proved from fmt's source: count such statements apart). THE CARD IS WHAT COUNTS. Prove the row's statement (the work); the ties are given (YteglnekgnbjkoaaDoorTie.lean); close each card by the builder's one call (the guide's Derived/Test/ToyasCard.lean, 'card_holds'). Laid BY PROGRAM, IN A SANDBOX (cutbox-door.mjs). By AI agents, Wed Nov 11 2026. No macro, syntax, notation, axiom, sorry.
-/
import Derived.Test.YteglnekgnbjkoaaDoorRows
import GoSem.ClaimSeven
namespace Go.Proofs.YteglnekgnbjkoaaDoor
namespace Rows

/-- THE TIED CARD OF 'watchglasslaw2.BitsMakes'. -/
def bitsMakesCard : Claim7 := { stood := { row := bitsMakesRow, standIns := [], harness := (true, "b01708db0d5d82166f9f471af5868ccdb720034ea12df758199f909bdaf66faf"), looks := false }, kinds := [], alts := [], laidByText := true, laidKinds := [.data], laidTests := true, laidLooks := .later }
def BitsMakesCardSaid : Prop := Claim7.holds Tryd.pinned (.plain (OpenSpec.ofChange bitsMakesSpec)) bitsMakesCard

/-- THE TIED CARD OF 'watchglasslaw2.BitsBoth'. -/
def bitsBothCard : Claim7 := { stood := { row := bitsBothRow, standIns := [], harness := (true, "b01708db0d5d82166f9f471af5868ccdb720034ea12df758199f909bdaf66faf"), looks := false }, kinds := [], alts := [], laidByText := true, laidKinds := [.data], laidTests := true, laidLooks := .later }
def BitsBothCardSaid : Prop := Claim7.holds Tryd.pinned (.plain (OpenSpec.ofChange bitsBothSpec)) bitsBothCard

/-- THE TIED CARD OF 'watchglasslaw2.BitsBack'. -/
def bitsBackCard : Claim7 := { stood := { row := bitsBackRow, standIns := [], harness := (true, "b01708db0d5d82166f9f471af5868ccdb720034ea12df758199f909bdaf66faf"), looks := false }, kinds := [], alts := [], laidByText := true, laidKinds := [.data], laidTests := true, laidLooks := .later }
def BitsBackCardSaid : Prop := Claim7.holds Tryd.pinned (.plain (OpenSpec.ofChange bitsBackSpec)) bitsBackCard

/-- THE TIED CARD OF 'watchglasslaw2.BitsLaws'. -/
def bitsLawsCard : Claim7 := { stood := { row := bitsLawsRow, standIns := [], harness := (true, "b01708db0d5d82166f9f471af5868ccdb720034ea12df758199f909bdaf66faf"), looks := false }, kinds := [], alts := [], laidByText := true, laidKinds := [.data], laidTests := true, laidLooks := .later }
def BitsLawsCardSaid : Prop := Claim7.holds Tryd.pinned (.plain (OpenSpec.ofChange bitsLawsSpec)) bitsLawsCard

/-- THE TIED CARD OF 'watchglasslaw2.BitsNoughts'. -/
def bitsNoughtsCard : Claim7 := { stood := { row := bitsNoughtsRow, standIns := [], harness := (true, "b01708db0d5d82166f9f471af5868ccdb720034ea12df758199f909bdaf66faf"), looks := false }, kinds := [], alts := [], laidByText := true, laidKinds := [.data], laidTests := true, laidLooks := .later }
def BitsNoughtsCardSaid : Prop := Claim7.holds Tryd.pinned (.plain (OpenSpec.ofChange bitsNoughtsSpec)) bitsNoughtsCard

/-- THE TIED CARD OF 'watchglasslaw3.IvalLater'. -/
def ivalLaterCard : Claim7 := { stood := { row := ivalLaterRow, standIns := [], harness := (true, "b01708db0d5d82166f9f471af5868ccdb720034ea12df758199f909bdaf66faf"), looks := false }, kinds := [], alts := [], laidByText := true, laidKinds := [.data, .data, .data], laidTests := true, laidLooks := .later }
def IvalLaterCardSaid : Prop := Claim7.holds Tryd.pinned (.plain (OpenSpec.ofChange ivalLaterSpec)) ivalLaterCard

/-- THE TIED CARD OF 'watchglasslaw3.IvalEnds'. -/
def ivalEndsCard : Claim7 := { stood := { row := ivalEndsRow, standIns := [], harness := (true, "b01708db0d5d82166f9f471af5868ccdb720034ea12df758199f909bdaf66faf"), looks := false }, kinds := [], alts := [], laidByText := true, laidKinds := [.data, .data, .data], laidTests := true, laidLooks := .later }
def IvalEndsCardSaid : Prop := Claim7.holds Tryd.pinned (.plain (OpenSpec.ofChange ivalEndsSpec)) ivalEndsCard

/-- THE TIED CARD OF 'watchglasslaw3.IvalTells'. -/
def ivalTellsCard : Claim7 := { stood := { row := ivalTellsRow, standIns := [], harness := (true, "b01708db0d5d82166f9f471af5868ccdb720034ea12df758199f909bdaf66faf"), looks := false }, kinds := [], alts := [], laidByText := true, laidKinds := [.data, .data, .data], laidTests := true, laidLooks := .later }
def IvalTellsCardSaid : Prop := Claim7.holds Tryd.pinned (.plain (OpenSpec.ofChange ivalTellsSpec)) ivalTellsCard

/-- THE TIED CARD OF 'watchglasslaw3.IvalClasses'. -/
def ivalClassesCard : Claim7 := { stood := { row := ivalClassesRow, standIns := [], harness := (true, "b01708db0d5d82166f9f471af5868ccdb720034ea12df758199f909bdaf66faf"), looks := false }, kinds := [], alts := [], laidByText := true, laidKinds := [.data, .data, .data], laidTests := true, laidLooks := .later }
def IvalClassesCardSaid : Prop := Claim7.holds Tryd.pinned (.plain (OpenSpec.ofChange ivalClassesSpec)) ivalClassesCard

/-- THE SECOND FORM's CARD OF 'watchglasslaw2.BitsMakes'. -/
def bitsMakesUptoCard : Claim7 := { stood := { row := bitsMakesUptoRow, standIns := [], harness := (true, "b01708db0d5d82166f9f471af5868ccdb720034ea12df758199f909bdaf66faf"), looks := false }, kinds := [], alts := [], laidByText := true, laidKinds := [.data], laidTests := true, laidLooks := .later }
def BitsMakesUptoCardSaid : Prop := Claim7.holds Tryd.pinned (.plain (OpenSpec.upto bitsMakesSpec)) bitsMakesUptoCard

/-- THE SECOND FORM's CARD OF 'watchglasslaw2.BitsBoth'. -/
def bitsBothUptoCard : Claim7 := { stood := { row := bitsBothUptoRow, standIns := [], harness := (true, "b01708db0d5d82166f9f471af5868ccdb720034ea12df758199f909bdaf66faf"), looks := false }, kinds := [], alts := [], laidByText := true, laidKinds := [.data], laidTests := true, laidLooks := .later }
def BitsBothUptoCardSaid : Prop := Claim7.holds Tryd.pinned (.plain (OpenSpec.upto bitsBothSpec)) bitsBothUptoCard

/-- THE SECOND FORM's CARD OF 'watchglasslaw2.BitsBack'. -/
def bitsBackUptoCard : Claim7 := { stood := { row := bitsBackUptoRow, standIns := [], harness := (true, "b01708db0d5d82166f9f471af5868ccdb720034ea12df758199f909bdaf66faf"), looks := false }, kinds := [], alts := [], laidByText := true, laidKinds := [.data], laidTests := true, laidLooks := .later }
def BitsBackUptoCardSaid : Prop := Claim7.holds Tryd.pinned (.plain (OpenSpec.upto bitsBackSpec)) bitsBackUptoCard

/-- THE SECOND FORM's CARD OF 'watchglasslaw2.BitsLaws'. -/
def bitsLawsUptoCard : Claim7 := { stood := { row := bitsLawsUptoRow, standIns := [], harness := (true, "b01708db0d5d82166f9f471af5868ccdb720034ea12df758199f909bdaf66faf"), looks := false }, kinds := [], alts := [], laidByText := true, laidKinds := [.data], laidTests := true, laidLooks := .later }
def BitsLawsUptoCardSaid : Prop := Claim7.holds Tryd.pinned (.plain (OpenSpec.upto bitsLawsSpec)) bitsLawsUptoCard

/-- THE SECOND FORM's CARD OF 'watchglasslaw2.BitsNoughts'. -/
def bitsNoughtsUptoCard : Claim7 := { stood := { row := bitsNoughtsUptoRow, standIns := [], harness := (true, "b01708db0d5d82166f9f471af5868ccdb720034ea12df758199f909bdaf66faf"), looks := false }, kinds := [], alts := [], laidByText := true, laidKinds := [.data], laidTests := true, laidLooks := .later }
def BitsNoughtsUptoCardSaid : Prop := Claim7.holds Tryd.pinned (.plain (OpenSpec.upto bitsNoughtsSpec)) bitsNoughtsUptoCard

/-- THE SECOND FORM's CARD OF 'watchglasslaw3.IvalLater'. -/
def ivalLaterUptoCard : Claim7 := { stood := { row := ivalLaterUptoRow, standIns := [], harness := (true, "b01708db0d5d82166f9f471af5868ccdb720034ea12df758199f909bdaf66faf"), looks := false }, kinds := [], alts := [], laidByText := true, laidKinds := [.data, .data, .data], laidTests := true, laidLooks := .later }
def IvalLaterUptoCardSaid : Prop := Claim7.holds Tryd.pinned (.plain (OpenSpec.upto ivalLaterSpec)) ivalLaterUptoCard

/-- THE SECOND FORM's CARD OF 'watchglasslaw3.IvalEnds'. -/
def ivalEndsUptoCard : Claim7 := { stood := { row := ivalEndsUptoRow, standIns := [], harness := (true, "b01708db0d5d82166f9f471af5868ccdb720034ea12df758199f909bdaf66faf"), looks := false }, kinds := [], alts := [], laidByText := true, laidKinds := [.data, .data, .data], laidTests := true, laidLooks := .later }
def IvalEndsUptoCardSaid : Prop := Claim7.holds Tryd.pinned (.plain (OpenSpec.upto ivalEndsSpec)) ivalEndsUptoCard

/-- THE SECOND FORM's CARD OF 'watchglasslaw3.IvalTells'. -/
def ivalTellsUptoCard : Claim7 := { stood := { row := ivalTellsUptoRow, standIns := [], harness := (true, "b01708db0d5d82166f9f471af5868ccdb720034ea12df758199f909bdaf66faf"), looks := false }, kinds := [], alts := [], laidByText := true, laidKinds := [.data, .data, .data], laidTests := true, laidLooks := .later }
def IvalTellsUptoCardSaid : Prop := Claim7.holds Tryd.pinned (.plain (OpenSpec.upto ivalTellsSpec)) ivalTellsUptoCard

/-- THE SECOND FORM's CARD OF 'watchglasslaw3.IvalClasses'. -/
def ivalClassesUptoCard : Claim7 := { stood := { row := ivalClassesUptoRow, standIns := [], harness := (true, "b01708db0d5d82166f9f471af5868ccdb720034ea12df758199f909bdaf66faf"), looks := false }, kinds := [], alts := [], laidByText := true, laidKinds := [.data, .data, .data], laidTests := true, laidLooks := .later }
def IvalClassesUptoCardSaid : Prop := Claim7.holds Tryd.pinned (.plain (OpenSpec.upto ivalClassesSpec)) ivalClassesUptoCard
end Rows
end Go.Proofs.YteglnekgnbjkoaaDoor
