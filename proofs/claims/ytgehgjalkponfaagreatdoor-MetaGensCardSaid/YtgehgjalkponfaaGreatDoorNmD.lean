/- The walks of num.Fixed and of the reference's. -/
import Derived.Test.YtgehgjalkponfaaGreatDoorNmC
import Derived.Test.YtgehgjalkponfaaGreatDoorShelf
import Derived.Deep.RegionWith
namespace Go.Proofs.YtgehgjalkponfaaGreatDoor
open Go.RowKit

theorem repeat0 (c : Nat) : Lib.repeatL [0] c = List.replicate c 0 := by
  induction c with
  | zero => rfl
  | succ c ih => simp [Lib.repeatL, ih, List.replicate_succ]

theorem rep0_any (c : Nat) (hc : c ≤ 255) (w : World) :
    Calls Tryz.prog 47 #[.string ⟨#[0]⟩, .int .i64 (c : Int)] w fun e w' => e = .returned (.string (bs (List.replicate c 0))) ∧ Below w.heap.size w w' :=
  (Tryz.strings_Repeat ⟨#[0]⟩ c w (by omega) (by show 1 * c ≤ _; omega)).mono fun e w' ⟨h1, h2⟩ => ⟨by rw [h1]; show _ = Ending.returned (Value.string (bs (List.replicate c 0))); rw [← repeat0]; rfl, h2⟩

end Go.Proofs.YtgehgjalkponfaaGreatDoor
