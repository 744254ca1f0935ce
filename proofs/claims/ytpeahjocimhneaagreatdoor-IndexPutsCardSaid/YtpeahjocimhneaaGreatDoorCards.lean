/-
  DERIVED. GIVEN WITH THE SEED: THE CARDS: each row of YtpeahjocimhneaaGreatDoorRows.lean that lists a variable, with what it lists TIED to the program's text (the seventh form; the later family's looks); each row that meets fmt, with fmt's text TOLD by the authors' own Lean function (tested against real Go, not proved from fmt's source: count such statements apart). THE CARD IS WHAT COUNTS. Prove the row's statement (the work); the ties are given (YtpeahjocimhneaaGreatDoorTie.lean); close each card by the builder's one call (the guide's Derived/Test/ToyasCard.lean, 'card_holds'). Laid BY PROGRAM, IN A SANDBOX (cutbox-door.mjs). By AI agents, Wed Nov 11 2026. No macro, syntax, notation, axiom, sorry.
-/
import Derived.Test.YtpeahjocimhneaaGreatDoorRows
import GoSem.ClaimSeven
namespace Go.Proofs.YtpeahjocimhneaaGreatDoor
namespace Rows

/-- THE TIED CARD OF 'alluviumlaw12.IndexPuts'. -/
def indexPutsCard : Claim7 := { stood := { row := indexPutsRow, standIns := [], harness := (true, "84f4b3140c079888f69d685c7e80e23f0605bb41ab0a1bf6de8e8bdb1c5d3749"), looks := false }, kinds := [], alts := [], laidByText := true, laidKinds := [.data, .pinned], laidTests := true, laidLooks := .later }
def IndexPutsCardSaid : Prop := Claim7.holds Tryz.pinned (.plain (OpenSpec.ofChange indexPutsSpec)) indexPutsCard

/-- THE TIED CARD OF 'alluviumlaw12.IndexAsks'. -/
def indexAsksCard : Claim7 := { stood := { row := indexAsksRow, standIns := [], harness := (true, "84f4b3140c079888f69d685c7e80e23f0605bb41ab0a1bf6de8e8bdb1c5d3749"), looks := false }, kinds := [], alts := [], laidByText := true, laidKinds := [.data, .pinned], laidTests := true, laidLooks := .later }
def IndexAsksCardSaid : Prop := Claim7.holds Tryz.pinned (.plain (OpenSpec.ofChange indexAsksSpec)) indexAsksCard

/-- THE TIED CARD OF 'alluviumlaw12.IndexBack'. -/
def indexBackCard : Claim7 := { stood := { row := indexBackRow, standIns := [], harness := (true, "84f4b3140c079888f69d685c7e80e23f0605bb41ab0a1bf6de8e8bdb1c5d3749"), looks := false }, kinds := [], alts := [], laidByText := true, laidKinds := [.data, .pinned], laidTests := true, laidLooks := .later }
def IndexBackCardSaid : Prop := Claim7.holds Tryz.pinned (.plain (OpenSpec.ofChange indexBackSpec)) indexBackCard

/-- THE TIED CARD OF 'alluviumlaw12.IndexFits'. -/
def indexFitsCard : Claim7 := { stood := { row := indexFitsRow, standIns := [], harness := (true, "84f4b3140c079888f69d685c7e80e23f0605bb41ab0a1bf6de8e8bdb1c5d3749"), looks := false }, kinds := [], alts := [], laidByText := true, laidKinds := [.data, .pinned], laidTests := true, laidLooks := .later }
def IndexFitsCardSaid : Prop := Claim7.holds Tryz.pinned (.plain (OpenSpec.ofChange indexFitsSpec)) indexFitsCard

/-- THE TIED CARD OF 'alluviumlaw12.IndexSymbols'. -/
def indexSymbolsCard : Claim7 := { stood := { row := indexSymbolsRow, standIns := [], harness := (true, "84f4b3140c079888f69d685c7e80e23f0605bb41ab0a1bf6de8e8bdb1c5d3749"), looks := false }, kinds := [], alts := [], laidByText := true, laidKinds := [.data, .pinned], laidTests := true, laidLooks := .later }
def IndexSymbolsCardSaid : Prop := Claim7.holds Tryz.pinned (.plain (OpenSpec.ofChange indexSymbolsSpec)) indexSymbolsCard

/-- THE TIED CARD OF 'alluviumlaw12.IndexApart'. -/
def indexApartCard : Claim7 := { stood := { row := indexApartRow, standIns := [], harness := (true, "84f4b3140c079888f69d685c7e80e23f0605bb41ab0a1bf6de8e8bdb1c5d3749"), looks := false }, kinds := [], alts := [], laidByText := true, laidKinds := [.data, .pinned], laidTests := true, laidLooks := .later }
def IndexApartCardSaid : Prop := Claim7.holds Tryz.pinned (.plain (OpenSpec.ofChange indexApartSpec)) indexApartCard

/-- THE SECOND FORM's CARD OF 'alluviumlaw12.IndexPuts'. -/
def indexPutsUptoCard : Claim7 := { stood := { row := indexPutsUptoRow, standIns := [], harness := (true, "84f4b3140c079888f69d685c7e80e23f0605bb41ab0a1bf6de8e8bdb1c5d3749"), looks := false }, kinds := [], alts := [], laidByText := true, laidKinds := [.data, .pinned], laidTests := true, laidLooks := .later }
def IndexPutsUptoCardSaid : Prop := Claim7.holds Tryz.pinned (.plain (OpenSpec.upto indexPutsSpec)) indexPutsUptoCard

/-- THE SECOND FORM's CARD OF 'alluviumlaw12.IndexAsks'. -/
def indexAsksUptoCard : Claim7 := { stood := { row := indexAsksUptoRow, standIns := [], harness := (true, "84f4b3140c079888f69d685c7e80e23f0605bb41ab0a1bf6de8e8bdb1c5d3749"), looks := false }, kinds := [], alts := [], laidByText := true, laidKinds := [.data, .pinned], laidTests := true, laidLooks := .later }
def IndexAsksUptoCardSaid : Prop := Claim7.holds Tryz.pinned (.plain (OpenSpec.upto indexAsksSpec)) indexAsksUptoCard

/-- THE SECOND FORM's CARD OF 'alluviumlaw12.IndexBack'. -/
def indexBackUptoCard : Claim7 := { stood := { row := indexBackUptoRow, standIns := [], harness := (true, "84f4b3140c079888f69d685c7e80e23f0605bb41ab0a1bf6de8e8bdb1c5d3749"), looks := false }, kinds := [], alts := [], laidByText := true, laidKinds := [.data, .pinned], laidTests := true, laidLooks := .later }
def IndexBackUptoCardSaid : Prop := Claim7.holds Tryz.pinned (.plain (OpenSpec.upto indexBackSpec)) indexBackUptoCard

/-- THE SECOND FORM's CARD OF 'alluviumlaw12.IndexFits'. -/
def indexFitsUptoCard : Claim7 := { stood := { row := indexFitsUptoRow, standIns := [], harness := (true, "84f4b3140c079888f69d685c7e80e23f0605bb41ab0a1bf6de8e8bdb1c5d3749"), looks := false }, kinds := [], alts := [], laidByText := true, laidKinds := [.data, .pinned], laidTests := true, laidLooks := .later }
def IndexFitsUptoCardSaid : Prop := Claim7.holds Tryz.pinned (.plain (OpenSpec.upto indexFitsSpec)) indexFitsUptoCard

/-- THE SECOND FORM's CARD OF 'alluviumlaw12.IndexSymbols'. -/
def indexSymbolsUptoCard : Claim7 := { stood := { row := indexSymbolsUptoRow, standIns := [], harness := (true, "84f4b3140c079888f69d685c7e80e23f0605bb41ab0a1bf6de8e8bdb1c5d3749"), looks := false }, kinds := [], alts := [], laidByText := true, laidKinds := [.data, .pinned], laidTests := true, laidLooks := .later }
def IndexSymbolsUptoCardSaid : Prop := Claim7.holds Tryz.pinned (.plain (OpenSpec.upto indexSymbolsSpec)) indexSymbolsUptoCard

/-- THE SECOND FORM's CARD OF 'alluviumlaw12.IndexApart'. -/
def indexApartUptoCard : Claim7 := { stood := { row := indexApartUptoRow, standIns := [], harness := (true, "84f4b3140c079888f69d685c7e80e23f0605bb41ab0a1bf6de8e8bdb1c5d3749"), looks := false }, kinds := [], alts := [], laidByText := true, laidKinds := [.data, .pinned], laidTests := true, laidLooks := .later }
def IndexApartUptoCardSaid : Prop := Claim7.holds Tryz.pinned (.plain (OpenSpec.upto indexApartSpec)) indexApartUptoCard
end Rows
end Go.Proofs.YtpeahjocimhneaaGreatDoor
