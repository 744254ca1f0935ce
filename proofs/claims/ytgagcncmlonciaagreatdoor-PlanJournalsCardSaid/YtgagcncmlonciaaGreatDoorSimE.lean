/- Files on a machine: a map is cloned. -/
import Derived.Test.YtgagcncmlonciaaGreatDoorSimD
import Derived.Shelf.SlMaps.Clone
namespace Go.Proofs.YtgagcncmlonciaaGreatDoor
open Go.RowKit Go.Maps Go.WideMaps Go.Shelf

set_option maxRecDepth 100000 in
set_option maxHeartbeats 1000000 in
theorem clone_any {w : World} {b n : Nat} {D : DataW Unit} (hD : Dir w b n D) :
    Calls Tryz.prog 204 #[.map (some b)] w fun e w' => e = .returned (.map (some w.heap.size)) ∧ Dir w' w.heap.size n D ∧ Below w.heap.size w w' := by
  unfold Dir at *
  obtain ⟨es, clock, hb, F, hs, hd⟩ := hD
  have hq := fun w => run_eql_map_nil_sl (P := Tryz.prog) w 47 _ _ (some b) Tryz.underlying47
  go_enter Tryz.func204, Tryz.ntmps204
  go_wp2
  rw [run_callFunc_extern Tryz.func250 (by kernel_rfl) (by kernel_rfl) (by kernel_rfl) (e := Extern.MapsClone.clone) (by kernel_rfl), run_maps_clone_sl w 47 hb]
  simp only [Result.andThen]
  rw [Oper.upon_value]
  go_wp2
  rw [run_typeAssert_map_sl _ 47 20 _ _ _ Tryz.underlying47]
  simp only [Result.andThen]
  rw [Oper.upon_value]
  go_wp2
  go_ret
  have hB : Below w.heap.size w (w.alloc (.map es clock)) := (Below.refl _ w).alloc (Nat.le_refl _) _
  exact ⟨rfl, ⟨es, clock, (MapKept.heap_alloc w _).1, F, hs, hd⟩, hB⟩
end Go.Proofs.YtgagcncmlonciaaGreatDoor
