/-
  DERIVED. GIVEN WITH THE SEED: THE CARDS: each row of YtgehgjalkponfaaGreatDoorRows.lean that lists a variable, with what it lists TIED to the program's text (the seventh form; the later family's looks); each row that meets fmt, with fmt's text TOLD by the authors' own Lean function (tested against real Go, not proved from fmt's source: count such statements apart). THE CARD IS WHAT COUNTS. Prove the row's statement (the work); the ties are given (YtgehgjalkponfaaGreatDoorTie.lean); close each card by the builder's one call (the guide's Derived/Test/ToyasCard.lean, 'card_holds'). Laid BY PROGRAM, IN A SANDBOX (cutbox-door.mjs). By AI agents, Wed Nov 11 2026. No macro, syntax, notation, axiom, sorry.
-/
import Derived.Test.YtgehgjalkponfaaGreatDoorRows
import GoSem.ClaimSeven
namespace Go.Proofs.YtgehgjalkponfaaGreatDoor
namespace Rows

/-- THE TIED CARD OF 'alluviumlaw14.MetaPuts'. -/
def metaPutsCard : Claim7 := { stood := { row := metaPutsRow, standIns := [], harness := (true, "74d0745f96a6a2f3efb73187080e6918d3172e3b23e68d3015767a653503d53b"), looks := true }, kinds := [], alts := [], laidByText := true, laidKinds := [.data, .data, .data, .sentinel, .sentinel], laidTests := true, laidLooks := .later }
def MetaPutsCardSaid : Prop := Claim7.holds Tryz.pinned (.plain (OpenSpec.ofChange metaPutsSpec)) metaPutsCard

/-- THE TIED CARD OF 'alluviumlaw14.MetaGets'. -/
def metaGetsCard : Claim7 := { stood := { row := metaGetsRow, standIns := [], harness := (true, "74d0745f96a6a2f3efb73187080e6918d3172e3b23e68d3015767a653503d53b"), looks := true }, kinds := [], alts := [], laidByText := true, laidKinds := [.data, .data, .data, .sentinel, .sentinel], laidTests := true, laidLooks := .later }
def MetaGetsCardSaid : Prop := Claim7.holds Tryz.pinned (.plain (OpenSpec.ofChange metaGetsSpec)) metaGetsCard

/-- THE TIED CARD OF 'alluviumlaw14.MetaNames'. -/
def metaNamesCard : Claim7 := { stood := { row := metaNamesRow, standIns := [], harness := (true, "74d0745f96a6a2f3efb73187080e6918d3172e3b23e68d3015767a653503d53b"), looks := true }, kinds := [], alts := [], laidByText := true, laidKinds := [.data, .data, .data, .sentinel, .sentinel], laidTests := true, laidLooks := .later }
def MetaNamesCardSaid : Prop := Claim7.holds Tryz.pinned (.plain (OpenSpec.ofChange metaNamesSpec)) metaNamesCard

/-- THE TIED CARD OF 'alluviumlaw14.MetaBack'. -/
def metaBackCard : Claim7 := { stood := { row := metaBackRow, standIns := [], harness := (true, "74d0745f96a6a2f3efb73187080e6918d3172e3b23e68d3015767a653503d53b"), looks := true }, kinds := [], alts := [], laidByText := true, laidKinds := [.data, .data, .data, .sentinel, .sentinel], laidTests := true, laidLooks := .later }
def MetaBackCardSaid : Prop := Claim7.holds Tryz.pinned (.plain (OpenSpec.ofChange metaBackSpec)) metaBackCard

/-- THE TIED CARD OF 'alluviumlaw14.MetaGens'. -/
def metaGensCard : Claim7 := { stood := { row := metaGensRow, standIns := [], harness := (true, "74d0745f96a6a2f3efb73187080e6918d3172e3b23e68d3015767a653503d53b"), looks := true }, kinds := [], alts := [], laidByText := true, laidKinds := [.data, .data, .data, .sentinel, .sentinel], laidTests := true, laidLooks := .later }
def MetaGensCardSaid : Prop := Claim7.holds Tryz.pinned (.plain (OpenSpec.ofChange metaGensSpec)) metaGensCard

/-- THE TIED CARD OF 'alluviumlaw14.MetaFiles'. -/
def metaFilesCard : Claim7 := { stood := { row := metaFilesRow, standIns := [], harness := (true, "74d0745f96a6a2f3efb73187080e6918d3172e3b23e68d3015767a653503d53b"), looks := true }, kinds := [], alts := [], laidByText := true, laidKinds := [.data, .data, .data, .sentinel, .sentinel], laidTests := true, laidLooks := .later }
def MetaFilesCardSaid : Prop := Claim7.holds Tryz.pinned (.plain (OpenSpec.ofChange metaFilesSpec)) metaFilesCard

/-- THE SECOND FORM's CARD OF 'alluviumlaw14.MetaPuts'. -/
def metaPutsUptoCard : Claim7 := { stood := { row := metaPutsUptoRow, standIns := [], harness := (true, "74d0745f96a6a2f3efb73187080e6918d3172e3b23e68d3015767a653503d53b"), looks := true }, kinds := [], alts := [], laidByText := true, laidKinds := [.data, .data, .data, .sentinel, .sentinel], laidTests := true, laidLooks := .later }
def MetaPutsUptoCardSaid : Prop := Claim7.holds Tryz.pinned (.plain (OpenSpec.upto metaPutsSpec)) metaPutsUptoCard

/-- THE SECOND FORM's CARD OF 'alluviumlaw14.MetaGets'. -/
def metaGetsUptoCard : Claim7 := { stood := { row := metaGetsUptoRow, standIns := [], harness := (true, "74d0745f96a6a2f3efb73187080e6918d3172e3b23e68d3015767a653503d53b"), looks := true }, kinds := [], alts := [], laidByText := true, laidKinds := [.data, .data, .data, .sentinel, .sentinel], laidTests := true, laidLooks := .later }
def MetaGetsUptoCardSaid : Prop := Claim7.holds Tryz.pinned (.plain (OpenSpec.upto metaGetsSpec)) metaGetsUptoCard

/-- THE SECOND FORM's CARD OF 'alluviumlaw14.MetaNames'. -/
def metaNamesUptoCard : Claim7 := { stood := { row := metaNamesUptoRow, standIns := [], harness := (true, "74d0745f96a6a2f3efb73187080e6918d3172e3b23e68d3015767a653503d53b"), looks := true }, kinds := [], alts := [], laidByText := true, laidKinds := [.data, .data, .data, .sentinel, .sentinel], laidTests := true, laidLooks := .later }
def MetaNamesUptoCardSaid : Prop := Claim7.holds Tryz.pinned (.plain (OpenSpec.upto metaNamesSpec)) metaNamesUptoCard

/-- THE SECOND FORM's CARD OF 'alluviumlaw14.MetaBack'. -/
def metaBackUptoCard : Claim7 := { stood := { row := metaBackUptoRow, standIns := [], harness := (true, "74d0745f96a6a2f3efb73187080e6918d3172e3b23e68d3015767a653503d53b"), looks := true }, kinds := [], alts := [], laidByText := true, laidKinds := [.data, .data, .data, .sentinel, .sentinel], laidTests := true, laidLooks := .later }
def MetaBackUptoCardSaid : Prop := Claim7.holds Tryz.pinned (.plain (OpenSpec.upto metaBackSpec)) metaBackUptoCard

/-- THE SECOND FORM's CARD OF 'alluviumlaw14.MetaGens'. -/
def metaGensUptoCard : Claim7 := { stood := { row := metaGensUptoRow, standIns := [], harness := (true, "74d0745f96a6a2f3efb73187080e6918d3172e3b23e68d3015767a653503d53b"), looks := true }, kinds := [], alts := [], laidByText := true, laidKinds := [.data, .data, .data, .sentinel, .sentinel], laidTests := true, laidLooks := .later }
def MetaGensUptoCardSaid : Prop := Claim7.holds Tryz.pinned (.plain (OpenSpec.upto metaGensSpec)) metaGensUptoCard

/-- THE SECOND FORM's CARD OF 'alluviumlaw14.MetaFiles'. -/
def metaFilesUptoCard : Claim7 := { stood := { row := metaFilesUptoRow, standIns := [], harness := (true, "74d0745f96a6a2f3efb73187080e6918d3172e3b23e68d3015767a653503d53b"), looks := true }, kinds := [], alts := [], laidByText := true, laidKinds := [.data, .data, .data, .sentinel, .sentinel], laidTests := true, laidLooks := .later }
def MetaFilesUptoCardSaid : Prop := Claim7.holds Tryz.pinned (.plain (OpenSpec.upto metaFilesSpec)) metaFilesUptoCard
end Rows
end Go.Proofs.YtgehgjalkponfaaGreatDoor
