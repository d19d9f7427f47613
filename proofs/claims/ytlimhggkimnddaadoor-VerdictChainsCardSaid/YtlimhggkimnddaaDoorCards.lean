/-
  DERIVED. GIVEN WITH THE SEED: THE CARDS: each row of YtlimhggkimnddaaDoorRows.lean that lists a variable, with what it lists TIED to the program's text (the seventh form; the later family's looks); each row that meets fmt, with fmt's text TOLD by the authors' own Lean function (tested against real Go, not proved from fmt's source: count such statements apart). THE CARD IS WHAT COUNTS. Prove the row's statement (the work); the ties are given (YtlimhggkimnddaaDoorTie.lean); close each card by the builder's one call (the guide's Derived/Test/ToyasCard.lean, 'card_holds'). Laid BY PROGRAM, IN A SANDBOX (cutbox-door.mjs). By AI agents, Wed Nov 11 2026. No macro, syntax, notation, axiom, sorry.
-/
import Derived.Test.YtlimhggkimnddaaDoorRows
import GoSem.ClaimSeven
namespace Go.Proofs.YtlimhggkimnddaaDoor
namespace Rows

/-- THE TIED CARD OF 'watchglasslaw31.VerdictTexts'. -/
def verdictTextsCard : Claim7 := { stood := { row := verdictTextsRow, standIns := [], harness := (true, "272e5fdcc75e53dbf8e837a558b6490d1a4deb4541e01795f6c81585e8d4f341"), looks := false }, kinds := [], alts := [], laidByText := true, laidKinds := [.data, .data, .data], laidTests := true, laidLooks := .later }
def VerdictTextsCardSaid : Prop := Claim7.holds Tryd.pinned (.plain (OpenSpec.ofChange verdictTextsSpec)) verdictTextsCard

/-- THE TIED CARD OF 'watchglasslaw31.VerdictParses'. -/
def verdictParsesCard : Claim7 := { stood := { row := verdictParsesRow, standIns := [], harness := (true, "272e5fdcc75e53dbf8e837a558b6490d1a4deb4541e01795f6c81585e8d4f341"), looks := false }, kinds := [], alts := [], laidByText := true, laidKinds := [.data, .data, .data], laidTests := true, laidLooks := .later }
def VerdictParsesCardSaid : Prop := Claim7.holds Tryd.pinned (.plain (OpenSpec.ofChange verdictParsesSpec)) verdictParsesCard

/-- THE TIED CARD OF 'watchglasslaw31.VerdictSpoilt'. -/
def verdictSpoiltCard : Claim7 := { stood := { row := verdictSpoiltRow, standIns := [], harness := (true, "272e5fdcc75e53dbf8e837a558b6490d1a4deb4541e01795f6c81585e8d4f341"), looks := false }, kinds := [], alts := [], laidByText := true, laidKinds := [.data, .data, .data], laidTests := true, laidLooks := .later }
def VerdictSpoiltCardSaid : Prop := Claim7.holds Tryd.pinned (.plain (OpenSpec.ofChange verdictSpoiltSpec)) verdictSpoiltCard

/-- THE TIED CARD OF 'watchglasslaw31.VerdictBack'. -/
def verdictBackCard : Claim7 := { stood := { row := verdictBackRow, standIns := [], harness := (true, "272e5fdcc75e53dbf8e837a558b6490d1a4deb4541e01795f6c81585e8d4f341"), looks := false }, kinds := [], alts := [], laidByText := true, laidKinds := [.data, .data, .data], laidTests := true, laidLooks := .later }
def VerdictBackCardSaid : Prop := Claim7.holds Tryd.pinned (.plain (OpenSpec.ofChange verdictBackSpec)) verdictBackCard

/-- THE TIED CARD OF 'watchglasslaw31.VerdictResolves'. -/
def verdictResolvesCard : Claim7 := { stood := { row := verdictResolvesRow, standIns := [], harness := (true, "272e5fdcc75e53dbf8e837a558b6490d1a4deb4541e01795f6c81585e8d4f341"), looks := false }, kinds := [], alts := [], laidByText := true, laidKinds := [.data, .data, .data], laidTests := true, laidLooks := .later }
def VerdictResolvesCardSaid : Prop := Claim7.holds Tryd.pinned (.plain (OpenSpec.ofChange verdictResolvesSpec)) verdictResolvesCard

/-- THE TIED CARD OF 'watchglasslaw31.VerdictChains'. -/
def verdictChainsCard : Claim7 := { stood := { row := verdictChainsRow, standIns := [], harness := (true, "272e5fdcc75e53dbf8e837a558b6490d1a4deb4541e01795f6c81585e8d4f341"), looks := false }, kinds := [], alts := [], laidByText := true, laidKinds := [.data, .data, .data], laidTests := true, laidLooks := .later }
def VerdictChainsCardSaid : Prop := Claim7.holds Tryd.pinned (.plain (OpenSpec.ofChange verdictChainsSpec)) verdictChainsCard

/-- THE SECOND FORM's CARD OF 'watchglasslaw31.VerdictTexts'. -/
def verdictTextsUptoCard : Claim7 := { stood := { row := verdictTextsUptoRow, standIns := [], harness := (true, "272e5fdcc75e53dbf8e837a558b6490d1a4deb4541e01795f6c81585e8d4f341"), looks := false }, kinds := [], alts := [], laidByText := true, laidKinds := [.data, .data, .data], laidTests := true, laidLooks := .later }
def VerdictTextsUptoCardSaid : Prop := Claim7.holds Tryd.pinned (.plain (OpenSpec.upto verdictTextsSpec)) verdictTextsUptoCard

/-- THE SECOND FORM's CARD OF 'watchglasslaw31.VerdictParses'. -/
def verdictParsesUptoCard : Claim7 := { stood := { row := verdictParsesUptoRow, standIns := [], harness := (true, "272e5fdcc75e53dbf8e837a558b6490d1a4deb4541e01795f6c81585e8d4f341"), looks := false }, kinds := [], alts := [], laidByText := true, laidKinds := [.data, .data, .data], laidTests := true, laidLooks := .later }
def VerdictParsesUptoCardSaid : Prop := Claim7.holds Tryd.pinned (.plain (OpenSpec.upto verdictParsesSpec)) verdictParsesUptoCard

/-- THE SECOND FORM's CARD OF 'watchglasslaw31.VerdictSpoilt'. -/
def verdictSpoiltUptoCard : Claim7 := { stood := { row := verdictSpoiltUptoRow, standIns := [], harness := (true, "272e5fdcc75e53dbf8e837a558b6490d1a4deb4541e01795f6c81585e8d4f341"), looks := false }, kinds := [], alts := [], laidByText := true, laidKinds := [.data, .data, .data], laidTests := true, laidLooks := .later }
def VerdictSpoiltUptoCardSaid : Prop := Claim7.holds Tryd.pinned (.plain (OpenSpec.upto verdictSpoiltSpec)) verdictSpoiltUptoCard

/-- THE SECOND FORM's CARD OF 'watchglasslaw31.VerdictBack'. -/
def verdictBackUptoCard : Claim7 := { stood := { row := verdictBackUptoRow, standIns := [], harness := (true, "272e5fdcc75e53dbf8e837a558b6490d1a4deb4541e01795f6c81585e8d4f341"), looks := false }, kinds := [], alts := [], laidByText := true, laidKinds := [.data, .data, .data], laidTests := true, laidLooks := .later }
def VerdictBackUptoCardSaid : Prop := Claim7.holds Tryd.pinned (.plain (OpenSpec.upto verdictBackSpec)) verdictBackUptoCard

/-- THE SECOND FORM's CARD OF 'watchglasslaw31.VerdictResolves'. -/
def verdictResolvesUptoCard : Claim7 := { stood := { row := verdictResolvesUptoRow, standIns := [], harness := (true, "272e5fdcc75e53dbf8e837a558b6490d1a4deb4541e01795f6c81585e8d4f341"), looks := false }, kinds := [], alts := [], laidByText := true, laidKinds := [.data, .data, .data], laidTests := true, laidLooks := .later }
def VerdictResolvesUptoCardSaid : Prop := Claim7.holds Tryd.pinned (.plain (OpenSpec.upto verdictResolvesSpec)) verdictResolvesUptoCard

/-- THE SECOND FORM's CARD OF 'watchglasslaw31.VerdictChains'. -/
def verdictChainsUptoCard : Claim7 := { stood := { row := verdictChainsUptoRow, standIns := [], harness := (true, "272e5fdcc75e53dbf8e837a558b6490d1a4deb4541e01795f6c81585e8d4f341"), looks := false }, kinds := [], alts := [], laidByText := true, laidKinds := [.data, .data, .data], laidTests := true, laidLooks := .later }
def VerdictChainsUptoCardSaid : Prop := Claim7.holds Tryd.pinned (.plain (OpenSpec.upto verdictChainsSpec)) verdictChainsUptoCard
end Rows
end Go.Proofs.YtlimhggkimnddaaDoor
