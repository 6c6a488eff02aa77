/-
  DERIVED. GIVEN WITH THE SEED: THE CARDS: each row of YtlpgigdegnbkmaaGreatDoorRows.lean that lists a variable, with what it lists TIED to the program's text (the seventh form; the later family's looks); each row that meets fmt, with fmt's text TOLD by the authors' own Lean function (tested against real Go, not proved from fmt's source: count such statements apart). THE CARD IS WHAT COUNTS. Prove the row's statement (the work); the ties are given (YtlpgigdegnbkmaaGreatDoorTie.lean); close each card by the builder's one call (the guide's Derived/Test/ToyasCard.lean, 'card_holds'). Laid BY PROGRAM, IN A SANDBOX (cutbox-door.mjs). By AI agents, Wed Nov 11 2026. No macro, syntax, notation, axiom, sorry.
-/
import Derived.Test.YtlpgigdegnbkmaaGreatDoorRows
import GoSem.ClaimSeven
namespace Go.Proofs.YtlpgigdegnbkmaaGreatDoor
namespace Rows

/-- THE TIED CARD OF 'tabulalaw06.CodeRight'. -/
def codeRightCard : Claim7 := { stood := { row := codeRightRow, standIns := [], harness := (true, "f53f8e0cca0d0035b9e4d21d026dff00012195a199630e060f3b9517070b7bfa"), looks := true }, kinds := [], alts := [], laidByText := true, laidKinds := [.data, .data, .data, .data, .sentinel, .sentinel, .pinned], laidTests := true, laidLooks := .later }
def CodeRightCardSaid : Prop := Claim7.holds Tryz.pinned (.plain (OpenSpec.ofChange codeRightSpec)) codeRightCard

/-- THE TIED CARD OF 'tabulalaw06.CodeParts'. -/
def codePartsCard : Claim7 := { stood := { row := codePartsRow, standIns := [], harness := (true, "f53f8e0cca0d0035b9e4d21d026dff00012195a199630e060f3b9517070b7bfa"), looks := true }, kinds := [], alts := [], laidByText := true, laidKinds := [.data, .data, .data, .data, .sentinel, .sentinel, .pinned], laidTests := true, laidLooks := .later }
def CodePartsCardSaid : Prop := Claim7.holds Tryz.pinned (.plain (OpenSpec.ofChange codePartsSpec)) codePartsCard

/-- THE TIED CARD OF 'tabulalaw06.CodeNames'. -/
def codeNamesCard : Claim7 := { stood := { row := codeNamesRow, standIns := [], harness := (true, "f53f8e0cca0d0035b9e4d21d026dff00012195a199630e060f3b9517070b7bfa"), looks := true }, kinds := [], alts := [], laidByText := true, laidKinds := [.data, .data, .data, .data, .sentinel, .sentinel, .pinned], laidTests := true, laidLooks := .later }
def CodeNamesCardSaid : Prop := Claim7.holds Tryz.pinned (.plain (OpenSpec.ofChange codeNamesSpec)) codeNamesCard

/-- THE TIED CARD OF 'tabulalaw06.CodeWritten'. -/
def codeWrittenCard : Claim7 := { stood := { row := codeWrittenRow, standIns := [], harness := (true, "f53f8e0cca0d0035b9e4d21d026dff00012195a199630e060f3b9517070b7bfa"), looks := true }, kinds := [], alts := [], laidByText := true, laidKinds := [.data, .data, .data, .data, .sentinel, .sentinel, .pinned], laidTests := true, laidLooks := .later }
def CodeWrittenCardSaid : Prop := Claim7.holds Tryz.pinned (.plain (OpenSpec.ofChange codeWrittenSpec)) codeWrittenCard

/-- THE TIED CARD OF 'tabulalaw06.CodeLimits'. -/
def codeLimitsCard : Claim7 := { stood := { row := codeLimitsRow, standIns := [], harness := (true, "f53f8e0cca0d0035b9e4d21d026dff00012195a199630e060f3b9517070b7bfa"), looks := true }, kinds := [], alts := [], laidByText := true, laidKinds := [.data, .data, .data, .data, .sentinel, .sentinel, .pinned], laidTests := true, laidLooks := .later }
def CodeLimitsCardSaid : Prop := Claim7.holds Tryz.pinned (.plain (OpenSpec.ofChange codeLimitsSpec)) codeLimitsCard

/-- THE SECOND FORM's CARD OF 'tabulalaw06.CodeRight'. -/
def codeRightUptoCard : Claim7 := { stood := { row := codeRightUptoRow, standIns := [], harness := (true, "f53f8e0cca0d0035b9e4d21d026dff00012195a199630e060f3b9517070b7bfa"), looks := true }, kinds := [], alts := [], laidByText := true, laidKinds := [.data, .data, .data, .data, .sentinel, .sentinel, .pinned], laidTests := true, laidLooks := .later }
def CodeRightUptoCardSaid : Prop := Claim7.holds Tryz.pinned (.plain (OpenSpec.upto codeRightSpec)) codeRightUptoCard

/-- THE SECOND FORM's CARD OF 'tabulalaw06.CodeParts'. -/
def codePartsUptoCard : Claim7 := { stood := { row := codePartsUptoRow, standIns := [], harness := (true, "f53f8e0cca0d0035b9e4d21d026dff00012195a199630e060f3b9517070b7bfa"), looks := true }, kinds := [], alts := [], laidByText := true, laidKinds := [.data, .data, .data, .data, .sentinel, .sentinel, .pinned], laidTests := true, laidLooks := .later }
def CodePartsUptoCardSaid : Prop := Claim7.holds Tryz.pinned (.plain (OpenSpec.upto codePartsSpec)) codePartsUptoCard

/-- THE SECOND FORM's CARD OF 'tabulalaw06.CodeNames'. -/
def codeNamesUptoCard : Claim7 := { stood := { row := codeNamesUptoRow, standIns := [], harness := (true, "f53f8e0cca0d0035b9e4d21d026dff00012195a199630e060f3b9517070b7bfa"), looks := true }, kinds := [], alts := [], laidByText := true, laidKinds := [.data, .data, .data, .data, .sentinel, .sentinel, .pinned], laidTests := true, laidLooks := .later }
def CodeNamesUptoCardSaid : Prop := Claim7.holds Tryz.pinned (.plain (OpenSpec.upto codeNamesSpec)) codeNamesUptoCard

/-- THE SECOND FORM's CARD OF 'tabulalaw06.CodeWritten'. -/
def codeWrittenUptoCard : Claim7 := { stood := { row := codeWrittenUptoRow, standIns := [], harness := (true, "f53f8e0cca0d0035b9e4d21d026dff00012195a199630e060f3b9517070b7bfa"), looks := true }, kinds := [], alts := [], laidByText := true, laidKinds := [.data, .data, .data, .data, .sentinel, .sentinel, .pinned], laidTests := true, laidLooks := .later }
def CodeWrittenUptoCardSaid : Prop := Claim7.holds Tryz.pinned (.plain (OpenSpec.upto codeWrittenSpec)) codeWrittenUptoCard

/-- THE SECOND FORM's CARD OF 'tabulalaw06.CodeLimits'. -/
def codeLimitsUptoCard : Claim7 := { stood := { row := codeLimitsUptoRow, standIns := [], harness := (true, "f53f8e0cca0d0035b9e4d21d026dff00012195a199630e060f3b9517070b7bfa"), looks := true }, kinds := [], alts := [], laidByText := true, laidKinds := [.data, .data, .data, .data, .sentinel, .sentinel, .pinned], laidTests := true, laidLooks := .later }
def CodeLimitsUptoCardSaid : Prop := Claim7.holds Tryz.pinned (.plain (OpenSpec.upto codeLimitsSpec)) codeLimitsUptoCard
end Rows
end Go.Proofs.YtlpgigdegnbkmaaGreatDoor
