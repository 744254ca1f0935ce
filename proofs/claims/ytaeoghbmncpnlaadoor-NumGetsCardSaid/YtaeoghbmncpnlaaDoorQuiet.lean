/- A region that draws its order, whose operations read and whose callees may make new blocks: one walk in the order of the text, over the class of all worlds that have grown. -/
import Derived.WalkKit
import Derived.Deep.QuietTactic
import Derived.BigQuiet
namespace Go.Proofs.YtaeoghbmncpnlaaDoor
open Go.RowKit

/-- The worlds that w may have grown to. -/
def GW (w : World) : Type := { w' : World // Below w.heap.size w w' }
def GW.w {w : World} (x : GW w) : World := x.1
theorem GW.below {w : World} (x : GW w) : Below w.heap.size w x.w := x.2
def GW.mk' {w : World} (w' : World) (h : Below w.heap.size w w') : GW w := ⟨w', h⟩
instance {w : World} : Nonempty (GW w) := ⟨⟨w, Below.refl _ w⟩⟩
theorem GW.cell {w : World} (x : GW w) {p : Addr} {v : Value} (h : w.cell? p = some v) : x.w.cell? p = some v := (x.below.cell (World.block_lt_of_cell? _ _ h)).trans h

theorem wp_region_grown {P : Program} {id : Nat} {Q : Exit → Act → World → Prop} {a : Act} {w : World} {l : List Oper} (hm : P.follows .mixedOrders = true) (hB : Region.lexB .any l.toArray = true)
    (h : wpQuiet P l.toArray (fun w' => ∃ x : GW w, w' = x.w) (fun a' => ∀ w', (∃ x : GW w, w' = x.w) → Q .normal a' w') l a) : (Code.region id l.toArray true).wp P Q a w :=
  wp_region_quiet (C := fun w' => ∃ x : GW w, w' = x.w) hm hB ⟨⟨w.drew, (Below.refl _ w).drew⟩, rfl⟩ (by simpa using h)

/-- A callee's contract, met in such a world. -/
theorem Calls.grown_of {P : Program} {f : FuncId} {args : Array Value} {w : World} {x : GW w} {v : Value}
    (h : Calls P f args x.w fun e w' => e = .returned v ∧ Below x.w.heap.size x.w w') : Calls P f args x.w fun e w'' => e = .returned v ∧ ∃ y : GW w, w'' = y.w :=
  h.mono fun _ w' ⟨he, hb⟩ => ⟨he, ⟨w', x.below.trans (hb.mono x.below.size)⟩, rfl⟩
theorem Calls.grown_same {P : Program} {f : FuncId} {args : Array Value} {w : World} {x : GW w} {v : Value}
    (h : Calls P f args x.w fun e w' => e = .returned v ∧ x.w = w') : Calls P f args x.w fun e w'' => e = .returned v ∧ ∃ y : GW w, w'' = y.w :=
  h.mono fun _ _ ⟨he, hb⟩ => ⟨he, x, hb.symm⟩
end Go.Proofs.YtaeoghbmncpnlaaDoor
