/- Closed facts of the program: what the card of PlanJournals asks. -/
import Derived.Test.YtgagcncmlonciaaGreatDoorRows
import Derived.SevenTiedAt
import Derived.KernelRfl
set_option maxRecDepth 100000
namespace Go.Proofs.YtgagcncmlonciaaGreatDoor
theorem progMain : Tryz.prog.mainIs = some (true, "e3462d2a6dafebd48484e4761135b7c9c8ac4445dc08c23bfe8dfe8982fd1b41".toList) := by kernel_rfl
theorem progLooks : true = Tryz.prog.looks [] := by kernel_rfl
end Go.Proofs.YtgagcncmlonciaaGreatDoor
