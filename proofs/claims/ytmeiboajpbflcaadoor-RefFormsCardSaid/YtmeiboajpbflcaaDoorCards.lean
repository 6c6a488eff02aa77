/-
  DERIVED. GIVEN WITH THE SEED: THE CARDS: each row of YtmeiboajpbflcaaDoorRows.lean that lists a variable, with what it lists TIED to the program's text (the seventh form; the later family's looks); each row that meets fmt, with fmt's text TOLD by the authors' own Lean function (tested against real Go, not proved from fmt's source: count such statements apart). THE CARD IS WHAT COUNTS. Prove the row's statement (the work); the ties are given (YtmeiboajpbflcaaDoorTie.lean); close each card by the builder's one call (the guide's Derived/Test/ToyasCard.lean, 'card_holds'). Laid BY PROGRAM, IN A SANDBOX (cutbox-door.mjs). By AI agents, Wed Nov 11 2026. No macro, syntax, notation, axiom, sorry.
-/
import Derived.Test.YtmeiboajpbflcaaDoorRows
import GoSem.ClaimSeven
namespace Go.Proofs.YtmeiboajpbflcaaDoor
namespace Rows

/-- THE TIED CARD OF 'tabulalaw02.RefBack'. -/
def refBackCard : Claim7 := { stood := { row := refBackRow, standIns := [], harness := (true, "40db7118ed2d6da204d06ab6891202c69fa7ed41feea0c45a7f0b574ab693270"), looks := true }, kinds := [], alts := [], laidByText := true, laidKinds := [.data, .data, .data, .data, .sentinel, .sentinel, .pinned], laidTests := true, laidLooks := .later }
def RefBackCardSaid : Prop := Claim7.holds Tryd.pinned (.plain (OpenSpec.ofChange refBackSpec)) refBackCard

/-- THE TIED CARD OF 'tabulalaw02.RefForms'. -/
def refFormsCard : Claim7 := { stood := { row := refFormsRow, standIns := [], harness := (true, "40db7118ed2d6da204d06ab6891202c69fa7ed41feea0c45a7f0b574ab693270"), looks := true }, kinds := [], alts := [], laidByText := true, laidKinds := [.data, .data, .data, .data, .sentinel, .sentinel, .pinned], laidTests := true, laidLooks := .later }
def RefFormsCardSaid : Prop := Claim7.holds Tryd.pinned (.plain (OpenSpec.ofChange refFormsSpec)) refFormsCard

/-- THE TIED CARD OF 'tabulalaw02.RefColumns'. -/
def refColumnsCard : Claim7 := { stood := { row := refColumnsRow, standIns := [], harness := (true, "40db7118ed2d6da204d06ab6891202c69fa7ed41feea0c45a7f0b574ab693270"), looks := true }, kinds := [], alts := [], laidByText := true, laidKinds := [.data, .data, .data, .data, .sentinel, .sentinel, .pinned], laidTests := true, laidLooks := .later }
def RefColumnsCardSaid : Prop := Claim7.holds Tryd.pinned (.plain (OpenSpec.ofChange refColumnsSpec)) refColumnsCard

/-- THE TIED CARD OF 'tabulalaw02.RefMoved'. -/
def refMovedCard : Claim7 := { stood := { row := refMovedRow, standIns := [], harness := (true, "40db7118ed2d6da204d06ab6891202c69fa7ed41feea0c45a7f0b574ab693270"), looks := true }, kinds := [], alts := [], laidByText := true, laidKinds := [.data, .data, .data, .data, .sentinel, .sentinel, .pinned], laidTests := true, laidLooks := .later }
def RefMovedCardSaid : Prop := Claim7.holds Tryd.pinned (.plain (OpenSpec.ofChange refMovedSpec)) refMovedCard

/-- THE TIED CARD OF 'tabulalaw02.RefMeet'. -/
def refMeetCard : Claim7 := { stood := { row := refMeetRow, standIns := [], harness := (true, "40db7118ed2d6da204d06ab6891202c69fa7ed41feea0c45a7f0b574ab693270"), looks := true }, kinds := [], alts := [], laidByText := true, laidKinds := [.data, .data, .data, .data, .sentinel, .sentinel, .pinned], laidTests := true, laidLooks := .later }
def RefMeetCardSaid : Prop := Claim7.holds Tryd.pinned (.plain (OpenSpec.ofChange refMeetSpec)) refMeetCard

/-- THE TIED CARD OF 'tabulalaw02.RefAreas'. -/
def refAreasCard : Claim7 := { stood := { row := refAreasRow, standIns := [], harness := (true, "40db7118ed2d6da204d06ab6891202c69fa7ed41feea0c45a7f0b574ab693270"), looks := true }, kinds := [], alts := [], laidByText := true, laidKinds := [.data, .data, .data, .data, .sentinel, .sentinel, .pinned], laidTests := true, laidLooks := .later }
def RefAreasCardSaid : Prop := Claim7.holds Tryd.pinned (.plain (OpenSpec.ofChange refAreasSpec)) refAreasCard

/-- THE TIED CARD OF 'tabulalaw02.RefEdges'. -/
def refEdgesCard : Claim7 := { stood := { row := refEdgesRow, standIns := [], harness := (true, "40db7118ed2d6da204d06ab6891202c69fa7ed41feea0c45a7f0b574ab693270"), looks := true }, kinds := [], alts := [], laidByText := true, laidKinds := [.data, .data, .data, .data, .sentinel, .sentinel, .pinned], laidTests := true, laidLooks := .later }
def RefEdgesCardSaid : Prop := Claim7.holds Tryd.pinned (.plain (OpenSpec.ofChange refEdgesSpec)) refEdgesCard

/-- THE SECOND FORM's CARD OF 'tabulalaw02.RefBack'. -/
def refBackUptoCard : Claim7 := { stood := { row := refBackUptoRow, standIns := [], harness := (true, "40db7118ed2d6da204d06ab6891202c69fa7ed41feea0c45a7f0b574ab693270"), looks := true }, kinds := [], alts := [], laidByText := true, laidKinds := [.data, .data, .data, .data, .sentinel, .sentinel, .pinned], laidTests := true, laidLooks := .later }
def RefBackUptoCardSaid : Prop := Claim7.holds Tryd.pinned (.plain (OpenSpec.upto refBackSpec)) refBackUptoCard

/-- THE SECOND FORM's CARD OF 'tabulalaw02.RefForms'. -/
def refFormsUptoCard : Claim7 := { stood := { row := refFormsUptoRow, standIns := [], harness := (true, "40db7118ed2d6da204d06ab6891202c69fa7ed41feea0c45a7f0b574ab693270"), looks := true }, kinds := [], alts := [], laidByText := true, laidKinds := [.data, .data, .data, .data, .sentinel, .sentinel, .pinned], laidTests := true, laidLooks := .later }
def RefFormsUptoCardSaid : Prop := Claim7.holds Tryd.pinned (.plain (OpenSpec.upto refFormsSpec)) refFormsUptoCard

/-- THE SECOND FORM's CARD OF 'tabulalaw02.RefColumns'. -/
def refColumnsUptoCard : Claim7 := { stood := { row := refColumnsUptoRow, standIns := [], harness := (true, "40db7118ed2d6da204d06ab6891202c69fa7ed41feea0c45a7f0b574ab693270"), looks := true }, kinds := [], alts := [], laidByText := true, laidKinds := [.data, .data, .data, .data, .sentinel, .sentinel, .pinned], laidTests := true, laidLooks := .later }
def RefColumnsUptoCardSaid : Prop := Claim7.holds Tryd.pinned (.plain (OpenSpec.upto refColumnsSpec)) refColumnsUptoCard

/-- THE SECOND FORM's CARD OF 'tabulalaw02.RefMoved'. -/
def refMovedUptoCard : Claim7 := { stood := { row := refMovedUptoRow, standIns := [], harness := (true, "40db7118ed2d6da204d06ab6891202c69fa7ed41feea0c45a7f0b574ab693270"), looks := true }, kinds := [], alts := [], laidByText := true, laidKinds := [.data, .data, .data, .data, .sentinel, .sentinel, .pinned], laidTests := true, laidLooks := .later }
def RefMovedUptoCardSaid : Prop := Claim7.holds Tryd.pinned (.plain (OpenSpec.upto refMovedSpec)) refMovedUptoCard

/-- THE SECOND FORM's CARD OF 'tabulalaw02.RefMeet'. -/
def refMeetUptoCard : Claim7 := { stood := { row := refMeetUptoRow, standIns := [], harness := (true, "40db7118ed2d6da204d06ab6891202c69fa7ed41feea0c45a7f0b574ab693270"), looks := true }, kinds := [], alts := [], laidByText := true, laidKinds := [.data, .data, .data, .data, .sentinel, .sentinel, .pinned], laidTests := true, laidLooks := .later }
def RefMeetUptoCardSaid : Prop := Claim7.holds Tryd.pinned (.plain (OpenSpec.upto refMeetSpec)) refMeetUptoCard

/-- THE SECOND FORM's CARD OF 'tabulalaw02.RefAreas'. -/
def refAreasUptoCard : Claim7 := { stood := { row := refAreasUptoRow, standIns := [], harness := (true, "40db7118ed2d6da204d06ab6891202c69fa7ed41feea0c45a7f0b574ab693270"), looks := true }, kinds := [], alts := [], laidByText := true, laidKinds := [.data, .data, .data, .data, .sentinel, .sentinel, .pinned], laidTests := true, laidLooks := .later }
def RefAreasUptoCardSaid : Prop := Claim7.holds Tryd.pinned (.plain (OpenSpec.upto refAreasSpec)) refAreasUptoCard

/-- THE SECOND FORM's CARD OF 'tabulalaw02.RefEdges'. -/
def refEdgesUptoCard : Claim7 := { stood := { row := refEdgesUptoRow, standIns := [], harness := (true, "40db7118ed2d6da204d06ab6891202c69fa7ed41feea0c45a7f0b574ab693270"), looks := true }, kinds := [], alts := [], laidByText := true, laidKinds := [.data, .data, .data, .data, .sentinel, .sentinel, .pinned], laidTests := true, laidLooks := .later }
def RefEdgesUptoCardSaid : Prop := Claim7.holds Tryd.pinned (.plain (OpenSpec.upto refEdgesSpec)) refEdgesUptoCard
end Rows
end Go.Proofs.YtmeiboajpbflcaaDoor
