/-
  DERIVED. GIVEN WITH THE SEED: THE CARDS: each row of YtaeoghbmncpnlaaDoorRows.lean that lists a variable, with what it lists TIED to the program's text (the seventh form; the later family's looks); each row that meets fmt, with fmt's text TOLD by the authors' own Lean function (tested against real Go, not proved from fmt's source: count such statements apart). THE CARD IS WHAT COUNTS. Prove the row's statement (the work); the ties are given (YtaeoghbmncpnlaaDoorTie.lean); close each card by the builder's one call (the guide's Derived/Test/ToyasCard.lean, 'card_holds'). Laid BY PROGRAM, IN A SANDBOX (cutbox-door.mjs). By AI agents, Wed Nov 11 2026. No macro, syntax, notation, axiom, sorry.
-/
import Derived.Test.YtaeoghbmncpnlaaDoorRows
import GoSem.ClaimSeven
namespace Go.Proofs.YtaeoghbmncpnlaaDoor
namespace Rows

/-- THE TIED CARD OF 'alluviumlaw03.NumPuts'. -/
def numPutsCard : Claim7 := { stood := { row := numPutsRow, standIns := [], harness := (true, "c98d18e7814949ee62cf9dc8bdf1b85a814b7789de0deaf799a52cbbbd85b92c"), looks := false }, kinds := [], alts := [], laidByText := true, laidKinds := [.data, .pinned], laidTests := true, laidLooks := .later }
def NumPutsCardSaid : Prop := Claim7.holds Tryd.pinned (.plain (OpenSpec.ofChange numPutsSpec)) numPutsCard

/-- THE TIED CARD OF 'alluviumlaw03.NumGets'. -/
def numGetsCard : Claim7 := { stood := { row := numGetsRow, standIns := [], harness := (true, "c98d18e7814949ee62cf9dc8bdf1b85a814b7789de0deaf799a52cbbbd85b92c"), looks := false }, kinds := [], alts := [], laidByText := true, laidKinds := [.data, .pinned], laidTests := true, laidLooks := .later }
def NumGetsCardSaid : Prop := Claim7.holds Tryd.pinned (.plain (OpenSpec.ofChange numGetsSpec)) numGetsCard

/-- THE TIED CARD OF 'alluviumlaw03.NumBack'. -/
def numBackCard : Claim7 := { stood := { row := numBackRow, standIns := [], harness := (true, "c98d18e7814949ee62cf9dc8bdf1b85a814b7789de0deaf799a52cbbbd85b92c"), looks := false }, kinds := [], alts := [], laidByText := true, laidKinds := [.data, .pinned], laidTests := true, laidLooks := .later }
def NumBackCardSaid : Prop := Claim7.holds Tryd.pinned (.plain (OpenSpec.ofChange numBackSpec)) numBackCard

/-- THE TIED CARD OF 'alluviumlaw03.NumOnly'. -/
def numOnlyCard : Claim7 := { stood := { row := numOnlyRow, standIns := [], harness := (true, "c98d18e7814949ee62cf9dc8bdf1b85a814b7789de0deaf799a52cbbbd85b92c"), looks := false }, kinds := [], alts := [], laidByText := true, laidKinds := [.data, .pinned], laidTests := true, laidLooks := .later }
def NumOnlyCardSaid : Prop := Claim7.holds Tryd.pinned (.plain (OpenSpec.ofChange numOnlySpec)) numOnlyCard

/-- THE TIED CARD OF 'alluviumlaw03.NumZig'. -/
def numZigCard : Claim7 := { stood := { row := numZigRow, standIns := [], harness := (true, "c98d18e7814949ee62cf9dc8bdf1b85a814b7789de0deaf799a52cbbbd85b92c"), looks := false }, kinds := [], alts := [], laidByText := true, laidKinds := [.data, .pinned], laidTests := true, laidLooks := .later }
def NumZigCardSaid : Prop := Claim7.holds Tryd.pinned (.plain (OpenSpec.ofChange numZigSpec)) numZigCard

/-- THE TIED CARD OF 'alluviumlaw03.NumSizes'. -/
def numSizesCard : Claim7 := { stood := { row := numSizesRow, standIns := [], harness := (true, "c98d18e7814949ee62cf9dc8bdf1b85a814b7789de0deaf799a52cbbbd85b92c"), looks := false }, kinds := [], alts := [], laidByText := true, laidKinds := [.data, .pinned], laidTests := true, laidLooks := .later }
def NumSizesCardSaid : Prop := Claim7.holds Tryd.pinned (.plain (OpenSpec.ofChange numSizesSpec)) numSizesCard

/-- THE TIED CARD OF 'alluviumlaw03.NumTakes'. -/
def numTakesCard : Claim7 := { stood := { row := numTakesRow, standIns := [], harness := (true, "c98d18e7814949ee62cf9dc8bdf1b85a814b7789de0deaf799a52cbbbd85b92c"), looks := false }, kinds := [], alts := [], laidByText := true, laidKinds := [.data, .pinned], laidTests := true, laidLooks := .later }
def NumTakesCardSaid : Prop := Claim7.holds Tryd.pinned (.plain (OpenSpec.ofChange numTakesSpec)) numTakesCard

/-- THE SECOND FORM's CARD OF 'alluviumlaw03.NumPuts'. -/
def numPutsUptoCard : Claim7 := { stood := { row := numPutsUptoRow, standIns := [], harness := (true, "c98d18e7814949ee62cf9dc8bdf1b85a814b7789de0deaf799a52cbbbd85b92c"), looks := false }, kinds := [], alts := [], laidByText := true, laidKinds := [.data, .pinned], laidTests := true, laidLooks := .later }
def NumPutsUptoCardSaid : Prop := Claim7.holds Tryd.pinned (.plain (OpenSpec.upto numPutsSpec)) numPutsUptoCard

/-- THE SECOND FORM's CARD OF 'alluviumlaw03.NumGets'. -/
def numGetsUptoCard : Claim7 := { stood := { row := numGetsUptoRow, standIns := [], harness := (true, "c98d18e7814949ee62cf9dc8bdf1b85a814b7789de0deaf799a52cbbbd85b92c"), looks := false }, kinds := [], alts := [], laidByText := true, laidKinds := [.data, .pinned], laidTests := true, laidLooks := .later }
def NumGetsUptoCardSaid : Prop := Claim7.holds Tryd.pinned (.plain (OpenSpec.upto numGetsSpec)) numGetsUptoCard

/-- THE SECOND FORM's CARD OF 'alluviumlaw03.NumBack'. -/
def numBackUptoCard : Claim7 := { stood := { row := numBackUptoRow, standIns := [], harness := (true, "c98d18e7814949ee62cf9dc8bdf1b85a814b7789de0deaf799a52cbbbd85b92c"), looks := false }, kinds := [], alts := [], laidByText := true, laidKinds := [.data, .pinned], laidTests := true, laidLooks := .later }
def NumBackUptoCardSaid : Prop := Claim7.holds Tryd.pinned (.plain (OpenSpec.upto numBackSpec)) numBackUptoCard

/-- THE SECOND FORM's CARD OF 'alluviumlaw03.NumOnly'. -/
def numOnlyUptoCard : Claim7 := { stood := { row := numOnlyUptoRow, standIns := [], harness := (true, "c98d18e7814949ee62cf9dc8bdf1b85a814b7789de0deaf799a52cbbbd85b92c"), looks := false }, kinds := [], alts := [], laidByText := true, laidKinds := [.data, .pinned], laidTests := true, laidLooks := .later }
def NumOnlyUptoCardSaid : Prop := Claim7.holds Tryd.pinned (.plain (OpenSpec.upto numOnlySpec)) numOnlyUptoCard

/-- THE SECOND FORM's CARD OF 'alluviumlaw03.NumZig'. -/
def numZigUptoCard : Claim7 := { stood := { row := numZigUptoRow, standIns := [], harness := (true, "c98d18e7814949ee62cf9dc8bdf1b85a814b7789de0deaf799a52cbbbd85b92c"), looks := false }, kinds := [], alts := [], laidByText := true, laidKinds := [.data, .pinned], laidTests := true, laidLooks := .later }
def NumZigUptoCardSaid : Prop := Claim7.holds Tryd.pinned (.plain (OpenSpec.upto numZigSpec)) numZigUptoCard

/-- THE SECOND FORM's CARD OF 'alluviumlaw03.NumSizes'. -/
def numSizesUptoCard : Claim7 := { stood := { row := numSizesUptoRow, standIns := [], harness := (true, "c98d18e7814949ee62cf9dc8bdf1b85a814b7789de0deaf799a52cbbbd85b92c"), looks := false }, kinds := [], alts := [], laidByText := true, laidKinds := [.data, .pinned], laidTests := true, laidLooks := .later }
def NumSizesUptoCardSaid : Prop := Claim7.holds Tryd.pinned (.plain (OpenSpec.upto numSizesSpec)) numSizesUptoCard

/-- THE SECOND FORM's CARD OF 'alluviumlaw03.NumTakes'. -/
def numTakesUptoCard : Claim7 := { stood := { row := numTakesUptoRow, standIns := [], harness := (true, "c98d18e7814949ee62cf9dc8bdf1b85a814b7789de0deaf799a52cbbbd85b92c"), looks := false }, kinds := [], alts := [], laidByText := true, laidKinds := [.data, .pinned], laidTests := true, laidLooks := .later }
def NumTakesUptoCardSaid : Prop := Claim7.holds Tryd.pinned (.plain (OpenSpec.upto numTakesSpec)) numTakesUptoCard
end Rows
end Go.Proofs.YtaeoghbmncpnlaaDoor
