/- Closed facts of the row of PlanJournals: what its functions reach. -/
import Derived.Test.YtgagcncmlonciaaGreatDoorRows
import Derived.JoinedOf
import Derived.KernelRfl
set_option maxRecDepth 100000
namespace Go.Proofs.YtgagcncmlonciaaGreatDoor
theorem rowIn : (Rows.planJournalsRow.inPlace == Tryz.prog.inPlace 3) = true := by kernel_rfl
theorem rowUn : (Rows.planJournalsRow.unfollowed == Tryz.prog.unfollowed 3) = true := by kernel_rfl
theorem rowRe : (Rows.planJournalsRow.recurses == Tryz.prog.recurses 3) = true := by kernel_rfl
theorem rowNa : (Rows.planJournalsRow.named == Tryz.prog.varsNamed 3) = true := by kernel_rfl
theorem rowClosed : joinedFacts Tryz.prog 3 Tryz.f3 Rows.planJournalsSpec Rows.planJournalsRow = true := by
  unfold joinedFacts
  rw [rowIn, rowUn, rowRe, rowNa]
  kernel_rfl
end Go.Proofs.YtgagcncmlonciaaGreatDoor
