/- Lists of asks, as the law NumGets is handed them. -/
import Derived.Test.YtaeoghbmncpnlaaDoorNumQ
import Derived.Test.YtaeoghbmncpnlaaDoorNumM
import Derived.Deep.SlicePairs
import Derived.OpenShut
namespace Go.Proofs.YtaeoghbmncpnlaaDoor
open Go.RowKit Go.ChangeShapes Go.WideShapes Go.Deep

/-- The cells of a list of asks. -/
def AsksOpen (w : World) (sa : Option Addr) (sl : Nat) : Prop :=
  sl ≤ maxLen ∧ ∃ (b o : Nat) (K N : Nat → Int), ∀ i, i < sl → sa = some ⟨b, o, none⟩ ∧ b < w.heap.size ∧ w.cell? ⟨b, o + i * 2, none⟩ = some (.int .i64 (K i)) ∧ w.cell? ⟨b, o + (i * 2 + 1), none⟩ = some (.int .i64 (N i)) ∧
    -9223372036854775808 ≤ N i ∧ N i ≤ 9223372036854775807

theorem asks_open {H : Type} {enc : TypeId × Value → H} {w : World} {base : Nat} {sp : Nat → Bool} {held : Bool} {sa : Option Addr} {sl sc : Nat} {d : DataW H} {p : List MemPlace}
    (h : DataW.Trod enc Tryd.prog w base sp held 30 (.slice sa sl sc) d p) : AsksOpen w sa sl := by
  obtain ⟨fuel, h⟩ := h
  rcases open_slice_pairs Tryd.underlying30 (show Tryd.prog.underlying 34 = some (.struct #[_, _]) from Tryd.underlying34) (by kernel_rfl) rfl rfl (by kernel_rfl) (by kernel_rfl) h with
    ⟨h1, _⟩ | ⟨a, len, cap, m, n, V0, V1, D0, D1, P0, P1, h1, _, h2, h3, h4, _, h5⟩
  · simp only [Value.cells, List.cons.injEq, Value.slice.injEq, and_true] at h1
    obtain ⟨rfl, rfl, rfl⟩ := h1
    exact ⟨by simp, 0, 0, fun _ => 0, fun _ => 0, fun i hi => by omega⟩
  · simp only [Value.cells, List.cons.injEq, Value.slice.injEq, and_true] at h1
    obtain ⟨rfl, rfl, rfl⟩ := h1
    have hm : sl ≤ m := by rw [h4]; split <;> omega
    have each : ∀ i, i < sl → ∃ kn : Int × Int, V0 i = .int .i64 kn.1 ∧ V1 i = .int .i64 kn.2 ∧ -9223372036854775808 ≤ kn.2 ∧ kn.2 ≤ 9223372036854775807 := fun i hi => by
      obtain ⟨_, _, h6, h7⟩ := h5 i (by omega)
      obtain ⟨x, hx, _, _⟩ := DataW.trod_int Tryd.underlying3 h6
      obtain ⟨y, hy, _, hw⟩ := DataW.trod_int Tryd.underlying3 h7
      simp only [List.cons.injEq, and_true] at hx hy
      have := bounds_i64 hw
      exact ⟨(x, y), hx, hy, this.1, this.2⟩
    obtain ⟨f, hf⟩ := choose_lt each
    refine ⟨by omega, a.block, a.off, fun i => (f i).1, fun i => (f i).2, fun i hi => ?_⟩
    obtain ⟨h6, h7, _, _⟩ := h5 i (by omega)
    obtain ⟨g1, g2, g3, g4⟩ := hf i hi
    rw [g1] at h6
    rw [g2] at h7
    obtain ⟨b, o, spot⟩ := a
    have h60 := (h5 0 (by omega)).1
    have hspot : spot = none := by simpa [Addr.add] using World.cell?_spot h60
    subst hspot
    rw [Addr.add_lit] at h6 h7
    have hbl : b < w.heap.size := World.block_lt_of_cell? _ (⟨b, o + i * 2, none⟩ : Addr) h6
    exact ⟨rfl, hbl, h6, h7, g3, g4⟩
end Go.Proofs.YtaeoghbmncpnlaaDoor
