/-
  DERIVED. GIVEN WITH THE SEED: THE CARDS: each row of YtmeiboajpbflcaaGreatDoorRows.lean that lists a variable, with what it lists TIED to the program's text (the seventh form; the later family's looks); each row that meets fmt, with fmt's text TOLD by the authors' own Lean function (tested against real Go, not proved from fmt's source: count such statements apart). THE CARD IS WHAT COUNTS. Prove the row's statement (the work); the ties are given (YtmeiboajpbflcaaGreatDoorTie.lean); close each card by the builder's one call (the guide's Derived/Test/ToyasCard.lean, 'card_holds'). Laid BY PROGRAM, IN A SANDBOX (cutbox-door.mjs). By AI agents, Wed Nov 11 2026. No macro, syntax, notation, axiom, sorry.
-/
import Derived.Test.YtmeiboajpbflcaaGreatDoorRows
import GoSem.ClaimSeven
namespace Go.Proofs.YtmeiboajpbflcaaGreatDoor
namespace Rows

/-- THE TIED CARD OF 'tabulalaw02.RefTells'. -/
def refTellsCard : Claim7 := { stood := { row := refTellsRow, standIns := [], harness := (true, "b9d0863de5013355c2c3a76b0b31d8caec4fabba767b75ba4b6aee1743f490cb"), looks := true }, kinds := [], alts := [], laidByText := true, laidKinds := [.data, .data, .data, .data, .sentinel, .sentinel, .pinned], laidTests := true, laidLooks := .later }
def RefTellsCardSaid : Prop := Claim7.holds Tryz.pinned (.plain (OpenSpec.ofChange refTellsSpec)) refTellsCard

/-- THE SECOND FORM's CARD OF 'tabulalaw02.RefTells'. -/
def refTellsUptoCard : Claim7 := { stood := { row := refTellsUptoRow, standIns := [], harness := (true, "b9d0863de5013355c2c3a76b0b31d8caec4fabba767b75ba4b6aee1743f490cb"), looks := true }, kinds := [], alts := [], laidByText := true, laidKinds := [.data, .data, .data, .data, .sentinel, .sentinel, .pinned], laidTests := true, laidLooks := .later }
def RefTellsUptoCardSaid : Prop := Claim7.holds Tryz.pinned (.plain (OpenSpec.upto refTellsSpec)) refTellsUptoCard
end Rows
end Go.Proofs.YtmeiboajpbflcaaGreatDoor
