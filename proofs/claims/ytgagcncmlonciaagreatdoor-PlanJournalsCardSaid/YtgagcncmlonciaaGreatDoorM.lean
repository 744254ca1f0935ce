/- Closed facts of the program: what the card of PlanJournals asks. -/
import Derived.Test.YtgagcncmlonciaaGreatDoorRows
import Derived.SevenTiedAt
import Derived.KernelRfl
set_option maxRecDepth 100000
namespace Go.Proofs.YtgagcncmlonciaaGreatDoor
theorem progGoes : false = Rows.planJournalsRow.goesBy Tryz.prog := by kernel_rfl
end Go.Proofs.YtgagcncmlonciaaGreatDoor
