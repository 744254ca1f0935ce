/-
  DERIVED. GIVEN WITH THE SEED: THE CARDS: each row of YtcdgfajdlaeodaaGreatDoorRows.lean that lists a variable, with what it lists TIED to the program's text (the seventh form; the later family's looks); each row that meets fmt, with fmt's text TOLD by the authors' own Lean function (tested against real Go, not proved from fmt's source: count such statements apart). THE CARD IS WHAT COUNTS. Prove the row's statement (the work); the ties are given (YtcdgfajdlaeodaaGreatDoorTie.lean); close each card by the builder's one call (the guide's Derived/Test/ToyasCard.lean, 'card_holds'). Laid BY PROGRAM, IN A SANDBOX (cutbox-door.mjs). By AI agents, Wed Nov 11 2026. No macro, syntax, notation, axiom, sorry.
-/
import Derived.Test.YtcdgfajdlaeodaaGreatDoorRows
import GoSem.ClaimSeven
namespace Go.Proofs.YtcdgfajdlaeodaaGreatDoor
namespace Rows

/-- THE TIED CARD OF 'alluviumlaw13.BlockPuts'. -/
def blockPutsCard : Claim7 := { stood := { row := blockPutsRow, standIns := [], harness := (true, "79c80d24b79791328d6c97a3948dbb36c1610dfa02faf6c2d3fb7def9394a6f9"), looks := false }, kinds := [], alts := [], laidByText := true, laidKinds := [.data, .data, .pinned], laidTests := true, laidLooks := .later }
def BlockPutsCardSaid : Prop := Claim7.holds Tryz.pinned (.plain (OpenSpec.ofChange blockPutsSpec)) blockPutsCard

/-- THE TIED CARD OF 'alluviumlaw13.BlockGets'. -/
def blockGetsCard : Claim7 := { stood := { row := blockGetsRow, standIns := [], harness := (true, "79c80d24b79791328d6c97a3948dbb36c1610dfa02faf6c2d3fb7def9394a6f9"), looks := false }, kinds := [], alts := [], laidByText := true, laidKinds := [.data, .data, .pinned], laidTests := true, laidLooks := .later }
def BlockGetsCardSaid : Prop := Claim7.holds Tryz.pinned (.plain (OpenSpec.ofChange blockGetsSpec)) blockGetsCard

/-- THE TIED CARD OF 'alluviumlaw13.BlockBack'. -/
def blockBackCard : Claim7 := { stood := { row := blockBackRow, standIns := [], harness := (true, "79c80d24b79791328d6c97a3948dbb36c1610dfa02faf6c2d3fb7def9394a6f9"), looks := false }, kinds := [], alts := [], laidByText := true, laidKinds := [.data, .data, .pinned], laidTests := true, laidLooks := .later }
def BlockBackCardSaid : Prop := Claim7.holds Tryz.pinned (.plain (OpenSpec.ofChange blockBackSpec)) blockBackCard

/-- THE TIED CARD OF 'alluviumlaw13.BlockNone'. -/
def blockNoneCard : Claim7 := { stood := { row := blockNoneRow, standIns := [], harness := (true, "79c80d24b79791328d6c97a3948dbb36c1610dfa02faf6c2d3fb7def9394a6f9"), looks := false }, kinds := [], alts := [], laidByText := true, laidKinds := [.data, .data, .pinned], laidTests := true, laidLooks := .later }
def BlockNoneCardSaid : Prop := Claim7.holds Tryz.pinned (.plain (OpenSpec.ofChange blockNoneSpec)) blockNoneCard

/-- THE TIED CARD OF 'alluviumlaw13.BlockLimits'. -/
def blockLimitsCard : Claim7 := { stood := { row := blockLimitsRow, standIns := [], harness := (true, "79c80d24b79791328d6c97a3948dbb36c1610dfa02faf6c2d3fb7def9394a6f9"), looks := false }, kinds := [], alts := [], laidByText := true, laidKinds := [.data, .data, .pinned], laidTests := true, laidLooks := .later }
def BlockLimitsCardSaid : Prop := Claim7.holds Tryz.pinned (.plain (OpenSpec.ofChange blockLimitsSpec)) blockLimitsCard

/-- THE TIED CARD OF 'alluviumlaw13.BlockTells'. -/
def blockTellsCard : Claim7 := { stood := { row := blockTellsRow, standIns := [], harness := (true, "79c80d24b79791328d6c97a3948dbb36c1610dfa02faf6c2d3fb7def9394a6f9"), looks := false }, kinds := [], alts := [], laidByText := true, laidKinds := [.data, .data, .pinned], laidTests := true, laidLooks := .later }
def BlockTellsCardSaid : Prop := Claim7.holds Tryz.pinned (.plain (OpenSpec.ofChange blockTellsSpec)) blockTellsCard

/-- THE SECOND FORM's CARD OF 'alluviumlaw13.BlockPuts'. -/
def blockPutsUptoCard : Claim7 := { stood := { row := blockPutsUptoRow, standIns := [], harness := (true, "79c80d24b79791328d6c97a3948dbb36c1610dfa02faf6c2d3fb7def9394a6f9"), looks := false }, kinds := [], alts := [], laidByText := true, laidKinds := [.data, .data, .pinned], laidTests := true, laidLooks := .later }
def BlockPutsUptoCardSaid : Prop := Claim7.holds Tryz.pinned (.plain (OpenSpec.upto blockPutsSpec)) blockPutsUptoCard

/-- THE SECOND FORM's CARD OF 'alluviumlaw13.BlockGets'. -/
def blockGetsUptoCard : Claim7 := { stood := { row := blockGetsUptoRow, standIns := [], harness := (true, "79c80d24b79791328d6c97a3948dbb36c1610dfa02faf6c2d3fb7def9394a6f9"), looks := false }, kinds := [], alts := [], laidByText := true, laidKinds := [.data, .data, .pinned], laidTests := true, laidLooks := .later }
def BlockGetsUptoCardSaid : Prop := Claim7.holds Tryz.pinned (.plain (OpenSpec.upto blockGetsSpec)) blockGetsUptoCard

/-- THE SECOND FORM's CARD OF 'alluviumlaw13.BlockBack'. -/
def blockBackUptoCard : Claim7 := { stood := { row := blockBackUptoRow, standIns := [], harness := (true, "79c80d24b79791328d6c97a3948dbb36c1610dfa02faf6c2d3fb7def9394a6f9"), looks := false }, kinds := [], alts := [], laidByText := true, laidKinds := [.data, .data, .pinned], laidTests := true, laidLooks := .later }
def BlockBackUptoCardSaid : Prop := Claim7.holds Tryz.pinned (.plain (OpenSpec.upto blockBackSpec)) blockBackUptoCard

/-- THE SECOND FORM's CARD OF 'alluviumlaw13.BlockNone'. -/
def blockNoneUptoCard : Claim7 := { stood := { row := blockNoneUptoRow, standIns := [], harness := (true, "79c80d24b79791328d6c97a3948dbb36c1610dfa02faf6c2d3fb7def9394a6f9"), looks := false }, kinds := [], alts := [], laidByText := true, laidKinds := [.data, .data, .pinned], laidTests := true, laidLooks := .later }
def BlockNoneUptoCardSaid : Prop := Claim7.holds Tryz.pinned (.plain (OpenSpec.upto blockNoneSpec)) blockNoneUptoCard

/-- THE SECOND FORM's CARD OF 'alluviumlaw13.BlockLimits'. -/
def blockLimitsUptoCard : Claim7 := { stood := { row := blockLimitsUptoRow, standIns := [], harness := (true, "79c80d24b79791328d6c97a3948dbb36c1610dfa02faf6c2d3fb7def9394a6f9"), looks := false }, kinds := [], alts := [], laidByText := true, laidKinds := [.data, .data, .pinned], laidTests := true, laidLooks := .later }
def BlockLimitsUptoCardSaid : Prop := Claim7.holds Tryz.pinned (.plain (OpenSpec.upto blockLimitsSpec)) blockLimitsUptoCard

/-- THE SECOND FORM's CARD OF 'alluviumlaw13.BlockTells'. -/
def blockTellsUptoCard : Claim7 := { stood := { row := blockTellsUptoRow, standIns := [], harness := (true, "79c80d24b79791328d6c97a3948dbb36c1610dfa02faf6c2d3fb7def9394a6f9"), looks := false }, kinds := [], alts := [], laidByText := true, laidKinds := [.data, .data, .pinned], laidTests := true, laidLooks := .later }
def BlockTellsUptoCardSaid : Prop := Claim7.holds Tryz.pinned (.plain (OpenSpec.upto blockTellsSpec)) blockTellsUptoCard
end Rows
end Go.Proofs.YtcdgfajdlaeodaaGreatDoor
