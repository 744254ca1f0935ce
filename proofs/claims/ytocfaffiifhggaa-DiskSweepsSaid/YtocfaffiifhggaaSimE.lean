/- Files on a machine: a map is cloned. -/
import Derived.Test.YtocfaffiifhggaaSimD
import Derived.Shelf.SlMaps.Clone
namespace Go.Proofs.Ytocfaffiifhggaa
open Go.RowKit Go.Maps Go.WideMaps Go.Shelf

set_option maxRecDepth 100000 in
set_option maxHeartbeats 1000000 in
theorem clone_any {w : World} {b n : Nat} {D : DataW Unit} (hD : Dir w b n D) :
    Calls Try.prog 51 #[.map (some b)] w fun e w' => e = .returned (.map (some w.heap.size)) ∧ Dir w' w.heap.size n D ∧ Below w.heap.size w w' := by
  unfold Dir at *
  obtain ⟨es, clock, hb, F, hs, hd⟩ := hD
  have hq := fun w => run_eql_map_nil_sl (P := Try.prog) w 46 _ _ (some b) Try.underlying46
  go_enter Try.func51, Try.ntmps51
  go_wp2
  rw [run_callFunc_extern Try.func61 (by kernel_rfl) (by kernel_rfl) (by kernel_rfl) (e := Extern.MapsClone.clone) (by kernel_rfl), run_maps_clone_sl w 46 hb]
  simp only [Result.andThen]
  rw [Oper.upon_value]
  go_wp2
  rw [run_typeAssert_map_sl _ 46 20 _ _ _ Try.underlying46]
  simp only [Result.andThen]
  rw [Oper.upon_value]
  go_wp2
  go_ret
  have hB : Below w.heap.size w (w.alloc (.map es clock)) := (Below.refl _ w).alloc (Nat.le_refl _) _
  exact ⟨rfl, ⟨es, clock, (MapKept.heap_alloc w _).1, F, hs, hd⟩, hB⟩
end Go.Proofs.Ytocfaffiifhggaa
