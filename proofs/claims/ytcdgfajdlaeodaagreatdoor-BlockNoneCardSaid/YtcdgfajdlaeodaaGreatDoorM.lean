/- Closed facts of the program: what the card of BlockNone asks. -/
import Derived.Test.YtcdgfajdlaeodaaGreatDoorRows
import Derived.SevenTiedAt
import Derived.KernelRfl
set_option maxRecDepth 100000
namespace Go.Proofs.YtcdgfajdlaeodaaGreatDoor
theorem progGoes : false = Rows.blockNoneRow.goesBy Tryz.prog := by kernel_rfl
end Go.Proofs.YtcdgfajdlaeodaaGreatDoor
