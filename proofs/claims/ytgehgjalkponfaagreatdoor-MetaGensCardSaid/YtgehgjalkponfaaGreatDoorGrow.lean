/- Worlds that have grown, for regions that draw their order. -/
import Derived.Test.YtgehgjalkponfaaGreatDoorLexg
import Derived.Test.YtgehgjalkponfaaGreatDoorLexn
import Derived.Test.YtgehgjalkponfaaGreatDoorGen
namespace Go.Proofs.YtgehgjalkponfaaGreatDoor
open Go.RowKit

def GrowR (a b : World) : Prop := Below a.heap.size a b
instance : Turns GrowR := ⟨fun w => Below.refl _ w, fun h k => Below.trans h (Below.mono k h.size), fun w => (Below.refl _ w).drew⟩
theorem grow_cell {w : World} {p : Addr} {v : Value} (h : w.cell? p = some v) : ∀ x : RW GrowR w, x.w.cell? p = some v := fun x => (Below.cell (show Below w.heap.size w x.w from x.is) (World.block_lt_of_cell? _ _ h)).trans h
/-- A slice of just these bytes. -/
def rowOf (l : List UInt8) : Held := fun x w => ∃ g, x = .slice (some ⟨g, 0, none⟩) l.length l.length ∧ ∀ i (h : i < l.length), w.cell? ⟨g, 0 + i, none⟩ = some (.int .u8 (l[i].toNat : Int))
theorem rowOf_keeps (l : List UInt8) : (rowOf l).keeps GrowR := fun _ _ _ ⟨g, h1, h2⟩ hb => ⟨g, h1, fun i h => (Below.cell hb (World.block_lt_of_cell? _ _ (h2 i h))).trans (h2 i h)⟩
theorem make_bytes {P : Program} {o : Oper} {a : Act} {w0 : World} (e : TypeId) (l : List UInt8)
    (h : ∀ w : World, (execOp a.eval o).run P w = .ok (.value (.slice (some ⟨w.heap.size, 0, none⟩) l.length l.length)) (w.alloc (.cells (l.map fun b => Value.int .u8 (b.toNat : Int)).toArray e))) :
    ∀ w, GrowR w0 w → ∃ x w', (execOp a.eval o).run P w = .ok (.value x) w' ∧ GrowR w w' ∧ rowOf l x w' := fun w _ =>
  ⟨_, _, h w, (Below.refl _ w).alloc (Nat.le_refl _) _, w.heap.size, rfl, fun i hi => by
    rw [Nat.zero_add, World.cell?_alloc_new]
    simp [hi]⟩
theorem turn_bytes {P : Program} (src dst e : TypeId) (hs : P.underlying src = some (.slice e)) (he : P.underlying e = some (.int .u8)) (hd : P.underlying dst = some .string) (l : List UInt8) :
    ∀ x w, rowOf l x w → (convert src dst x).run P w = .ok (.string (bs l)) w := fun x w ⟨g, h1, h2⟩ => by
  subst h1
  exact run_conv_cells src dst e hs he hd g 0 l.length l w h2
end Go.Proofs.YtgehgjalkponfaaGreatDoor
