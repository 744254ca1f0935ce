/- All blocks but some are as they were; a world turns, and with it what is held; what kind of block it is. Over any program. -/
import Derived.Test.YtgehgjalkponfaaGreatDoorGrow
import Derived.Test.YtgehgjalkponfaaGreatDoorLexa
import Derived.Maps.OwnSet
import Derived.Maps.OwnOps
import Derived.Maps.AppendAt
import Derived.WalkSpells
namespace Go.Proofs.YtgehgjalkponfaaGreatDoor
open Go.RowKit Go.Maps Go.WideMaps

/-- All blocks but some are as they were. -/
structure Kept (w w' : World) (S : Nat → Prop) : Prop where
  os : w'.os = w.os
  tape : w'.tape = w.tape
  output : w'.output = w.output
  size : w.heap.size ≤ w'.heap.size
  block : ∀ k, k < w.heap.size → ¬ S k → w'.heap[k]? = w.heap[k]?
theorem Kept.of_grown {w w' : World} {row : Option Nat} {S : Nat → Prop} (h : w.grownBy w' row) (hS : ∀ k, row = some k → S k) : Kept w w' S :=
  ⟨h.os, h.tape, h.output, h.size, fun k hk hn => h.block k hk fun e => hn (hS k e.symm)⟩
theorem Kept.trans {a b c : World} {S : Nat → Prop} (h : Kept a b S) (k : Kept b c S) : Kept a c S :=
  ⟨k.os.trans h.os, k.tape.trans h.tape, k.output.trans h.output, Nat.le_trans h.size k.size, fun i hi hn => (k.block i (Nat.lt_of_lt_of_le hi h.size) hn).trans (h.block i hi hn)⟩

theorem ownsRow_kept {w w' : World} {base : Nat} {e : TypeId} {size n : Nat} {v : Value} {xs : List Value} {S : Nat → Prop} (h : w.ownsRow base e size v n xs) (k : Kept w w' S) (hS : ∀ b, v.ownBlock = some b → ¬ S b) : w'.ownsRow base e size v n xs := by
  refine ⟨h.1, ?_⟩
  rcases h.2 with h2 | ⟨g, cap, cur, rfl, h3, h4, h5⟩
  · exact .inl h2
  · refine .inr ⟨g, cap, cur, rfl, h3, ?_, h5⟩
    have hlt : g < w.heap.size := by
      rcases Nat.lt_or_ge g w.heap.size with hlt | hge
      · exact hlt
      · rw [Array.getElem?_eq_none hge] at h4; cases h4
    rw [k.block g hlt (hS g rfl)]
    exact h4

theorem Kept.refl (w : World) (S : Nat → Prop) : Kept w w S := ⟨rfl, rfl, rfl, Nat.le_refl _, fun _ _ _ => rfl⟩
theorem Kept.weaken {a b : World} {S T : Nat → Prop} (h : Kept a b S) (hs : ∀ k, S k → T k) : Kept a b T := ⟨h.os, h.tape, h.output, h.size, fun k hk hn => h.block k hk fun e => hn (hs k e)⟩
/-- New blocks alone. -/
theorem Kept.of_below {a b : World} {S : Nat → Prop} (h : Below a.heap.size a b) : Kept a b S := ⟨h.os, h.tape, h.output, h.size, fun k hk _ => h.block k hk⟩
theorem Kept.alloc (w : World) (o : Obj) (S : Nat → Prop) : Kept w (w.alloc o) S := Kept.of_below ((Below.refl _ w).alloc (Nat.le_refl _) o)
theorem Kept.below {a b : World} {S : Nat → Prop} {B : Nat} (h : Kept a b S) (hB : B ≤ a.heap.size) (hs : ∀ k, S k → B ≤ k) : Below B a b :=
  ⟨h.os, h.tape, h.output, h.size, fun k hk => h.block k (Nat.lt_of_lt_of_le hk hB) fun e => absurd (hs k e) (by omega)⟩

/-- A world turns, and with it what is held: what was not held is as it was; what is held that was not is new. -/
structure Turn (w w' : World) (F F' : Nat → Prop) : Prop where
  kept : Kept w w' F
  grow : ∀ k, F' k → F k ∨ w.heap.size ≤ k
theorem Turn.refl (w : World) (F : Nat → Prop) : Turn w w F F := ⟨Kept.refl w F, fun _ h => .inl h⟩
theorem Turn.trans {a b c : World} {F G H : Nat → Prop} (h : Turn a b F G) (k : Turn b c G H) : Turn a c F H :=
  ⟨⟨k.kept.os.trans h.kept.os, k.kept.tape.trans h.kept.tape, k.kept.output.trans h.kept.output, Nat.le_trans h.kept.size k.kept.size, fun i hi hn =>
    (k.kept.block i (Nat.lt_of_lt_of_le hi h.kept.size) fun e => (h.grow i e).elim hn (by omega)).trans (h.kept.block i hi hn)⟩,
   fun i hi => (k.grow i hi).elim (h.grow i) fun e => .inr (Nat.le_trans h.kept.size e)⟩
theorem Turn.of_kept {a b : World} {F : Nat → Prop} (h : Kept a b F) : Turn a b F F := ⟨h, fun _ h => .inl h⟩
theorem Turn.of_below {a b : World} {F : Nat → Prop} (h : Below a.heap.size a b) : Turn a b F F := Turn.of_kept (Kept.of_below h)

/-- What kind of block it is. -/
def tagOf : Obj → Option TypeId
  | .cells _ t _ => some t
  | _ => none
def tag (w : World) (k : Nat) : Option (Option TypeId) := (w.heap[k]?).map tagOf
theorem tag_blk {w : World} {g : Nat} {t : TypeId} {cs : Array Value} (h : Blk w g t cs) : tag w g = some (some t) := by
  unfold Blk at h
  unfold tag
  rw [h]
  rfl
theorem tag_row {w : World} {base : Nat} {e : TypeId} {size n : Nat} {v : Value} {xs : List Value} (h : w.ownsRow base e size v n xs) {k : Nat} (hk : v.ownBlock = some k) : tag w k = some (some e) := by
  rcases h.2 with ⟨rfl, _⟩ | ⟨g, cap, cur, rfl, _, hg, _⟩
  · cases hk
  · obtain rfl : g = k := Option.some.inj hk
    unfold tag
    rw [hg]
    rfl
theorem tag_lt {w : World} {k : Nat} {x : Option TypeId} (h : tag w k = some x) : k < w.heap.size := by
  rcases Nat.lt_or_ge k w.heap.size with hlt | hge
  · exact hlt
  · unfold tag at h
    rw [Array.getElem?_eq_none hge] at h
    cases h

theorem Blk.keptK {w w' : World} {g : Nat} {t : TypeId} {cs : Array Value} {S : Nat → Prop} (h : Blk w g t cs) (k : Kept w w' S) (hS : ¬ S g) : Blk w' g t cs := (k.block g h.lt hS).trans h

theorem Kept.then_new {a b c : World} {S : Nat → Prop} {k : Nat} (h : Kept a b S) (g : b.grownBy c (some k)) (hk : a.heap.size ≤ k) : Kept a c S :=
  ⟨g.os.trans h.os, g.tape.trans h.tape, g.output.trans h.output, Nat.le_trans h.size g.size, fun i hi hn => (g.block i (Nat.lt_of_lt_of_le hi h.size) (fun e => by have := Option.some.inj e; omega)).trans (h.block i hi hn)⟩
theorem Kept.cell {a b : World} {S : Nat → Prop} (h : Kept a b S) {p : Addr} {v : Value} (hp : a.cell? p = some v) (hS : ¬ S p.block) : b.cell? p = some v :=
  (World.cell?_of_block (h.block p.block (World.block_lt_of_cell? _ _ hp) hS)).trans hp
theorem ownsMap_kept {H : Type} {P : Program} {k : TypeId} {R : Value → Option (DataW H × List MemPlace)} {w w' : World} {b n : Nat} {D : DataW H} {S : Nat → Prop} (h : w.ownsMap P k R b n D) (hk : Kept w w' S) (hS : ¬ S b) : w'.ownsMap P k R b n D := by
  have hlt := World.ownsMap.lt h
  obtain ⟨es, clock, hb, F, hs, hD⟩ := h
  exact ⟨es, clock, (hk.block b hlt hS).trans hb, F, hs, hD⟩
theorem tag_map {H : Type} {P : Program} {k : TypeId} {R : Value → Option (DataW H × List MemPlace)} {w : World} {b n : Nat} {D : DataW H} (h : w.ownsMap P k R b n D) : tag w b = some none := by
  obtain ⟨es, clock, hb, _⟩ := h
  unfold tag
  rw [hb]
  rfl
end Go.Proofs.YtgehgjalkponfaaGreatDoor
