/- The walk of the closure in Cursor.Fixed. -/
import Derived.Test.YtgehgjalkponfaaGreatDoorNmH
namespace Go.Proofs.YtgehgjalkponfaaGreatDoor
open Go.RowKit

theorem dropWhile_nil_iff (l : List UInt8) : l.dropWhile (· == 0) = [] ↔ l.all (· == 0) = true := by
  induction l with
  | nil => simp
  | cons b r ih =>
    rw [List.dropWhile_cons]
    by_cases h : (b == 0) = true
    · rw [if_pos h, ih]; simp [h]
    · rw [if_neg h]; simp [h]
theorem dropWhile_all (l : List UInt8) (h : l.all (· == 0) = true) : l.dropWhile (· == 0) = [] := (dropWhile_nil_iff l).2 h
end Go.Proofs.YtgehgjalkponfaaGreatDoor
