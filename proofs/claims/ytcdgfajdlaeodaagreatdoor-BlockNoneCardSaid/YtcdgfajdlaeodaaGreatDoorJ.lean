/- Closed facts of the row of BlockNone: what its functions reach. -/
import Derived.Test.YtcdgfajdlaeodaaGreatDoorRows
import Derived.JoinedOf
import Derived.KernelRfl
set_option maxRecDepth 100000
namespace Go.Proofs.YtcdgfajdlaeodaaGreatDoor
theorem rowIn : (Rows.blockNoneRow.inPlace == Tryz.prog.inPlace 6) = true := by kernel_rfl
theorem rowUn : (Rows.blockNoneRow.unfollowed == Tryz.prog.unfollowed 6) = true := by kernel_rfl
theorem rowRe : (Rows.blockNoneRow.recurses == Tryz.prog.recurses 6) = true := by kernel_rfl
theorem rowNa : (Rows.blockNoneRow.named == Tryz.prog.varsNamed 6) = true := by kernel_rfl
theorem rowClosed : joinedFacts Tryz.prog 6 Tryz.f6 Rows.blockNoneSpec Rows.blockNoneRow = true := by
  unfold joinedFacts
  rw [rowIn, rowUn, rowRe, rowNa]
  kernel_rfl
end Go.Proofs.YtcdgfajdlaeodaaGreatDoor
