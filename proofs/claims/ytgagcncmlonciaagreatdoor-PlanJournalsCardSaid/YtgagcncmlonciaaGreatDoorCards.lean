/-
  DERIVED. GIVEN WITH THE SEED: THE CARDS: each row of YtgagcncmlonciaaGreatDoorRows.lean that lists a variable, with what it lists TIED to the program's text (the seventh form; the later family's looks); each row that meets fmt, with fmt's text TOLD by the authors' own Lean function (tested against real Go, not proved from fmt's source: count such statements apart). THE CARD IS WHAT COUNTS. Prove the row's statement (the work); the ties are given (YtgagcncmlonciaaGreatDoorTie.lean); close each card by the builder's one call (the guide's Derived/Test/ToyasCard.lean, 'card_holds'). Laid BY PROGRAM, IN A SANDBOX (cutbox-door.mjs). By AI agents, Wed Nov 11 2026. No macro, syntax, notation, axiom, sorry.
-/
import Derived.Test.YtgagcncmlonciaaGreatDoorRows
import GoSem.ClaimSeven
namespace Go.Proofs.YtgagcncmlonciaaGreatDoor
namespace Rows

/-- THE TIED CARD OF 'alluviumlaw18.PlanJournals'. -/
def planJournalsCard : Claim7 := { stood := { row := planJournalsRow, standIns := [], harness := (true, "e3462d2a6dafebd48484e4761135b7c9c8ac4445dc08c23bfe8dfe8982fd1b41"), looks := true }, kinds := [], alts := [], laidByText := true, laidKinds := [.data, .data, .data, .data, .sentinel, .sentinel, .pinned], laidTests := true, laidLooks := .later }
def PlanJournalsCardSaid : Prop := Claim7.holds Tryz.pinned (.plain (OpenSpec.ofChange planJournalsSpec)) planJournalsCard

/-- THE SECOND FORM's CARD OF 'alluviumlaw18.PlanJournals'. -/
def planJournalsUptoCard : Claim7 := { stood := { row := planJournalsUptoRow, standIns := [], harness := (true, "e3462d2a6dafebd48484e4761135b7c9c8ac4445dc08c23bfe8dfe8982fd1b41"), looks := true }, kinds := [], alts := [], laidByText := true, laidKinds := [.data, .data, .data, .data, .sentinel, .sentinel, .pinned], laidTests := true, laidLooks := .later }
def PlanJournalsUptoCardSaid : Prop := Claim7.holds Tryz.pinned (.plain (OpenSpec.upto planJournalsSpec)) planJournalsUptoCard
end Rows
end Go.Proofs.YtgagcncmlonciaaGreatDoor
