/-
  DERIVED. GIVEN WITH THE SEED: THE CARDS: each row of YtgnejohiagagmaaGreatDoorRows.lean that lists a variable, with what it lists TIED to the program's text (the seventh form; the later family's looks); each row that meets fmt, with fmt's text TOLD by the authors' own Lean function (tested against real Go, not proved from fmt's source: count such statements apart). THE CARD IS WHAT COUNTS. Prove the row's statement (the work); the ties are given (YtgnejohiagagmaaGreatDoorTie.lean); close each card by the builder's one call (the guide's Derived/Test/ToyasCard.lean, 'card_holds'). Laid BY PROGRAM, IN A SANDBOX (cutbox-door.mjs). By AI agents, Wed Nov 11 2026. No macro, syntax, notation, axiom, sorry.
-/
import Derived.Test.YtgnejohiagagmaaGreatDoorRows
import GoSem.ClaimSeven
namespace Go.Proofs.YtgnejohiagagmaaGreatDoor
namespace Rows

/-- THE TIED CARD OF 'tabulalaw04.LexTells'. -/
def lexTellsCard : Claim7 := { stood := { row := lexTellsRow, standIns := [], harness := (true, "142a82cb34861f9dd1f8c9a98926c857e3cd3f498c56168af8178d5dba85548b"), looks := true }, kinds := [], alts := [], laidByText := true, laidKinds := [.data, .data, .data, .data, .sentinel, .sentinel, .data, .widerDeep, .pinned], laidTests := true, laidLooks := .later }
def LexTellsCardSaid : Prop := Claim7.holds Tryz.pinned (.plain (OpenSpec.ofChange lexTellsSpec)) lexTellsCard

/-- THE TIED CARD OF 'tabulalaw04.LexBack'. -/
def lexBackCard : Claim7 := { stood := { row := lexBackRow, standIns := [], harness := (true, "142a82cb34861f9dd1f8c9a98926c857e3cd3f498c56168af8178d5dba85548b"), looks := true }, kinds := [], alts := [], laidByText := true, laidKinds := [.data, .data, .data, .data, .sentinel, .sentinel, .data, .widerDeep, .pinned], laidTests := true, laidLooks := .later }
def LexBackCardSaid : Prop := Claim7.holds Tryz.pinned (.plain (OpenSpec.ofChange lexBackSpec)) lexBackCard

/-- THE TIED CARD OF 'tabulalaw04.LexBlanks'. -/
def lexBlanksCard : Claim7 := { stood := { row := lexBlanksRow, standIns := [], harness := (true, "142a82cb34861f9dd1f8c9a98926c857e3cd3f498c56168af8178d5dba85548b"), looks := true }, kinds := [], alts := [], laidByText := true, laidKinds := [.data, .data, .data, .data, .sentinel, .sentinel, .data, .widerDeep, .pinned], laidTests := true, laidLooks := .later }
def LexBlanksCardSaid : Prop := Claim7.holds Tryz.pinned (.plain (OpenSpec.ofChange lexBlanksSpec)) lexBlanksCard

/-- THE TIED CARD OF 'tabulalaw04.LexPlaces'. -/
def lexPlacesCard : Claim7 := { stood := { row := lexPlacesRow, standIns := [], harness := (true, "142a82cb34861f9dd1f8c9a98926c857e3cd3f498c56168af8178d5dba85548b"), looks := true }, kinds := [], alts := [], laidByText := true, laidKinds := [.data, .data, .data, .data, .sentinel, .sentinel, .data, .widerDeep, .pinned], laidTests := true, laidLooks := .later }
def LexPlacesCardSaid : Prop := Claim7.holds Tryz.pinned (.plain (OpenSpec.ofChange lexPlacesSpec)) lexPlacesCard

/-- THE TIED CARD OF 'tabulalaw04.LexKinds'. -/
def lexKindsCard : Claim7 := { stood := { row := lexKindsRow, standIns := [], harness := (true, "142a82cb34861f9dd1f8c9a98926c857e3cd3f498c56168af8178d5dba85548b"), looks := true }, kinds := [], alts := [], laidByText := true, laidKinds := [.data, .data, .data, .data, .sentinel, .sentinel, .data, .widerDeep, .pinned], laidTests := true, laidLooks := .later }
def LexKindsCardSaid : Prop := Claim7.holds Tryz.pinned (.plain (OpenSpec.ofChange lexKindsSpec)) lexKindsCard

/-- THE TIED CARD OF 'tabulalaw04.LexWords'. -/
def lexWordsCard : Claim7 := { stood := { row := lexWordsRow, standIns := [], harness := (true, "142a82cb34861f9dd1f8c9a98926c857e3cd3f498c56168af8178d5dba85548b"), looks := true }, kinds := [], alts := [], laidByText := true, laidKinds := [.data, .data, .data, .data, .sentinel, .sentinel, .data, .widerDeep, .pinned], laidTests := true, laidLooks := .later }
def LexWordsCardSaid : Prop := Claim7.holds Tryz.pinned (.plain (OpenSpec.ofChange lexWordsSpec)) lexWordsCard

/-- THE TIED CARD OF 'tabulalaw04.LexJoins'. -/
def lexJoinsCard : Claim7 := { stood := { row := lexJoinsRow, standIns := [], harness := (true, "142a82cb34861f9dd1f8c9a98926c857e3cd3f498c56168af8178d5dba85548b"), looks := true }, kinds := [], alts := [], laidByText := true, laidKinds := [.data, .data, .data, .data, .sentinel, .sentinel, .data, .widerDeep, .pinned], laidTests := true, laidLooks := .later }
def LexJoinsCardSaid : Prop := Claim7.holds Tryz.pinned (.plain (OpenSpec.ofChange lexJoinsSpec)) lexJoinsCard

/-- THE SECOND FORM's CARD OF 'tabulalaw04.LexTells'. -/
def lexTellsUptoCard : Claim7 := { stood := { row := lexTellsUptoRow, standIns := [], harness := (true, "142a82cb34861f9dd1f8c9a98926c857e3cd3f498c56168af8178d5dba85548b"), looks := true }, kinds := [], alts := [], laidByText := true, laidKinds := [.data, .data, .data, .data, .sentinel, .sentinel, .data, .widerDeep, .pinned], laidTests := true, laidLooks := .later }
def LexTellsUptoCardSaid : Prop := Claim7.holds Tryz.pinned (.plain (OpenSpec.upto lexTellsSpec)) lexTellsUptoCard

/-- THE SECOND FORM's CARD OF 'tabulalaw04.LexBack'. -/
def lexBackUptoCard : Claim7 := { stood := { row := lexBackUptoRow, standIns := [], harness := (true, "142a82cb34861f9dd1f8c9a98926c857e3cd3f498c56168af8178d5dba85548b"), looks := true }, kinds := [], alts := [], laidByText := true, laidKinds := [.data, .data, .data, .data, .sentinel, .sentinel, .data, .widerDeep, .pinned], laidTests := true, laidLooks := .later }
def LexBackUptoCardSaid : Prop := Claim7.holds Tryz.pinned (.plain (OpenSpec.upto lexBackSpec)) lexBackUptoCard

/-- THE SECOND FORM's CARD OF 'tabulalaw04.LexBlanks'. -/
def lexBlanksUptoCard : Claim7 := { stood := { row := lexBlanksUptoRow, standIns := [], harness := (true, "142a82cb34861f9dd1f8c9a98926c857e3cd3f498c56168af8178d5dba85548b"), looks := true }, kinds := [], alts := [], laidByText := true, laidKinds := [.data, .data, .data, .data, .sentinel, .sentinel, .data, .widerDeep, .pinned], laidTests := true, laidLooks := .later }
def LexBlanksUptoCardSaid : Prop := Claim7.holds Tryz.pinned (.plain (OpenSpec.upto lexBlanksSpec)) lexBlanksUptoCard

/-- THE SECOND FORM's CARD OF 'tabulalaw04.LexPlaces'. -/
def lexPlacesUptoCard : Claim7 := { stood := { row := lexPlacesUptoRow, standIns := [], harness := (true, "142a82cb34861f9dd1f8c9a98926c857e3cd3f498c56168af8178d5dba85548b"), looks := true }, kinds := [], alts := [], laidByText := true, laidKinds := [.data, .data, .data, .data, .sentinel, .sentinel, .data, .widerDeep, .pinned], laidTests := true, laidLooks := .later }
def LexPlacesUptoCardSaid : Prop := Claim7.holds Tryz.pinned (.plain (OpenSpec.upto lexPlacesSpec)) lexPlacesUptoCard

/-- THE SECOND FORM's CARD OF 'tabulalaw04.LexKinds'. -/
def lexKindsUptoCard : Claim7 := { stood := { row := lexKindsUptoRow, standIns := [], harness := (true, "142a82cb34861f9dd1f8c9a98926c857e3cd3f498c56168af8178d5dba85548b"), looks := true }, kinds := [], alts := [], laidByText := true, laidKinds := [.data, .data, .data, .data, .sentinel, .sentinel, .data, .widerDeep, .pinned], laidTests := true, laidLooks := .later }
def LexKindsUptoCardSaid : Prop := Claim7.holds Tryz.pinned (.plain (OpenSpec.upto lexKindsSpec)) lexKindsUptoCard

/-- THE SECOND FORM's CARD OF 'tabulalaw04.LexWords'. -/
def lexWordsUptoCard : Claim7 := { stood := { row := lexWordsUptoRow, standIns := [], harness := (true, "142a82cb34861f9dd1f8c9a98926c857e3cd3f498c56168af8178d5dba85548b"), looks := true }, kinds := [], alts := [], laidByText := true, laidKinds := [.data, .data, .data, .data, .sentinel, .sentinel, .data, .widerDeep, .pinned], laidTests := true, laidLooks := .later }
def LexWordsUptoCardSaid : Prop := Claim7.holds Tryz.pinned (.plain (OpenSpec.upto lexWordsSpec)) lexWordsUptoCard

/-- THE SECOND FORM's CARD OF 'tabulalaw04.LexJoins'. -/
def lexJoinsUptoCard : Claim7 := { stood := { row := lexJoinsUptoRow, standIns := [], harness := (true, "142a82cb34861f9dd1f8c9a98926c857e3cd3f498c56168af8178d5dba85548b"), looks := true }, kinds := [], alts := [], laidByText := true, laidKinds := [.data, .data, .data, .data, .sentinel, .sentinel, .data, .widerDeep, .pinned], laidTests := true, laidLooks := .later }
def LexJoinsUptoCardSaid : Prop := Claim7.holds Tryz.pinned (.plain (OpenSpec.upto lexJoinsSpec)) lexJoinsUptoCard
end Rows
end Go.Proofs.YtgnejohiagagmaaGreatDoor
