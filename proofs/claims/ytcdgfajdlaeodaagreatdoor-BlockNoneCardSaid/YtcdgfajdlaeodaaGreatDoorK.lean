/- Closed facts of the program: what the card of BlockNone asks. -/
import Derived.Test.YtcdgfajdlaeodaaGreatDoorRows
import Derived.SevenTiedAt
import Derived.KernelRfl
set_option maxRecDepth 100000
namespace Go.Proofs.YtcdgfajdlaeodaaGreatDoor
theorem progMain : Tryz.prog.mainIs = some (true, "79c80d24b79791328d6c97a3948dbb36c1610dfa02faf6c2d3fb7def9394a6f9".toList) := by kernel_rfl
theorem progLooks : false = Tryz.prog.looks [] := by kernel_rfl
end Go.Proofs.YtcdgfajdlaeodaaGreatDoor
