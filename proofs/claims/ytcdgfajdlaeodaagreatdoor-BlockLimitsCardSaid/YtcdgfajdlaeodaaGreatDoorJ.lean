/- Closed facts of the row of BlockLimits: what its functions reach. -/
import Derived.Test.YtcdgfajdlaeodaaGreatDoorRows
import Derived.JoinedOf
import Derived.KernelRfl
set_option maxRecDepth 100000
namespace Go.Proofs.YtcdgfajdlaeodaaGreatDoor
theorem rowIn : (Rows.blockLimitsRow.inPlace == Tryz.prog.inPlace 7) = true := by kernel_rfl
theorem rowUn : (Rows.blockLimitsRow.unfollowed == Tryz.prog.unfollowed 7) = true := by kernel_rfl
theorem rowRe : (Rows.blockLimitsRow.recurses == Tryz.prog.recurses 7) = true := by kernel_rfl
theorem rowNa : (Rows.blockLimitsRow.named == Tryz.prog.varsNamed 7) = true := by kernel_rfl
theorem rowClosed : joinedFacts Tryz.prog 7 Tryz.f7 Rows.blockLimitsSpec Rows.blockLimitsRow = true := by
  unfold joinedFacts
  rw [rowIn, rowUn, rowRe, rowNa]
  kernel_rfl
end Go.Proofs.YtcdgfajdlaeodaaGreatDoor
