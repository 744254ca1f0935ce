/- Files on a machine, in memory: what the blocks hold; the smallest calls. -/
import Derived.Test.YtgagcncmlonciaaGreatDoorGC
import Derived.Test.YtgagcncmlonciaaGreatDoorGA
import Derived.Test.YtgagcncmlonciaaGreatDoorRows
import Derived.Maps.OwnSet
import Derived.Maps.OwnOps
import Derived.WalkSpells
namespace Go.Proofs.YtgagcncmlonciaaGreatDoor
open Go.RowKit Go.Maps Go.WideMaps

/-- How a pointer reads in a map of pointers: the number of its block. -/
def ptrR (v : Value) : Option (DataW Unit × List MemPlace) :=
  match v with
  | .pointer none => some (.nil, [])
  | .pointer (some ⟨g, 0, none⟩) => some (.lit (.int .u64 (g : Int)), [])
  | _ => none

theorem ptrR_lit {v : Value} {g : Int} {ps : List MemPlace} (h : ptrR v = some (.lit (.int .u64 g), ps)) : ∃ n : Nat, g = n ∧ v = .pointer (some ⟨n, 0, none⟩) := by
  unfold ptrR at h
  split at h
  · cases h
  · simp only [Option.some.injEq, Prod.mk.injEq, DataW.lit.injEq, Lit.int.injEq] at h
    exact ⟨_, h.1.2.symm, rfl⟩
  · cases h
theorem ptrR_nil {v : Value} {ps : List MemPlace} (h : ptrR v = some (.nil, ps)) : v = .pointer none := by
  unfold ptrR at h
  split at h
  · rfl
  · cases h
  · cases h

/-- Block b is a map of at most n entries from names to files. -/
def Dir (w : World) (b n : Nat) (D : DataW Unit) : Prop := w.ownsMap Tryz.prog 9 ptrR b n D

/-- The machine's block. -/
def FsAt (w : World) (G nb sb : Nat) (mv : Value) (room steps fuse : Int) (dead : Bool) : Prop :=
  Blk w G 50 #[.map (some nb), .map (some sb), mv, .int .i64 room, .int .i64 steps, .int .i64 fuse, .bool dead]

section
variable {w : World} {G nb sb : Nat} {mv : Value} {room steps fuse : Int} {dead : Bool}
theorem FsAt.c (h : FsAt w G nb sb mv room steps fuse dead) : w.cell? ⟨G, 0, none⟩ = some (.map (some nb)) ∧ w.cell? ⟨G, 1, none⟩ = some (.map (some sb)) ∧ w.cell? ⟨G, 2, none⟩ = some mv ∧ w.cell? ⟨G, 3, none⟩ = some (.int .i64 room) ∧
    w.cell? ⟨G, 4, none⟩ = some (.int .i64 steps) ∧ w.cell? ⟨G, 5, none⟩ = some (.int .i64 fuse) ∧ w.cell? ⟨G, 6, none⟩ = some (.bool dead) :=
  ⟨(Blk.cell h 0).trans rfl, (Blk.cell h 1).trans rfl, (Blk.cell h 2).trans rfl, (Blk.cell h 3).trans rfl, (Blk.cell h 4).trans rfl, (Blk.cell h 5).trans rfl, (Blk.cell h 6).trans rfl⟩

set_option maxRecDepth 100000 in
theorem Fs_Dead_any (h : FsAt w G nb sb mv room steps fuse dead) : Calls Tryz.prog 61 #[.pointer (some ⟨G, 0, none⟩)] w fun e w' => e = .returned (.bool dead) ∧ w = w' := by
  obtain ⟨c0, c1, c2, c3, c4, c5, c6⟩ := h.c
  go_enter Tryz.func61, Tryz.ntmps61
  go_wp2
  go_ret
  exact ⟨rfl, rfl⟩

/-- What 'of' answers: the file's block, and why there is none. -/
def ofV (dead : Bool) (D : DataW Unit) (l : List UInt8) (v : Value) : Prop :=
  if dead then v = .tuple #[.pointer none, .int .i64 13]
  else if Maps.has D (.string l) = false then v = .tuple #[.pointer none, .int .i64 11]
  else ∃ x ps, ptrR x = some (D.atKey (.string l) .nil, ps) ∧ v = .tuple #[x, .int .i64 0]

set_option maxRecDepth 100000 in
theorem Fs_of_any {n : Nat} (D : DataW Unit) (l : List UInt8) (hl : l.length ≤ maxLen) (h : FsAt w G nb sb mv room steps fuse dead) (hD : Dir w nb n D) :
    Calls Tryz.prog 26 #[.pointer (some ⟨G, 0, none⟩), .string (bs l)] w fun e w' => (∃ v, e = .returned v ∧ ofV dead D l v) ∧ w = w' := by
  obtain ⟨c0, c1, c2, c3, c4, c5, c6⟩ := h.c
  have hkey : keyOf Tryz.prog 9 (.string (bs l)) = some (.string l) := keyOf_string_mk Tryz.underlying9 (by rw [bs_size]; exact hl)
  cases dead with
  | true =>
    go_enter Tryz.func26, Tryz.ntmps26
    go_wp2
    go_ret2
    exact ⟨⟨_, rfl, rfl⟩, rfl⟩
  | false =>
    unfold Dir at hD
    by_cases hh : Maps.has D (.string l) = true
    · go_enter Tryz.func26, Tryz.ntmps26
      go_wp2_with (at_lookup; refine wpList_lookup_own_ok _ rfl _ _ 47 rfl 9 79 (string_keyed Tryz.underlying9) Tryz.underlying47 ptrR (z := .pointer none) (by kernel_rfl) .nil [] rfl nb n D rfl hD _ _ rfl hkey ?_; intro x ps hx; rw [hh])
      go_ret2
      exact ⟨⟨_, rfl, by unfold ofV; rw [if_neg (by simp), if_neg (by simp [hh])]; exact ⟨x, ps, hx, rfl⟩⟩, rfl⟩
    · have hh' : Maps.has D (.string l) = false := by simpa using hh
      go_enter Tryz.func26, Tryz.ntmps26
      go_wp2_with (at_lookup; refine wpList_lookup_own_ok _ rfl _ _ 47 rfl 9 79 (string_keyed Tryz.underlying9) Tryz.underlying47 ptrR (z := .pointer none) (by kernel_rfl) .nil [] rfl nb n D rfl hD _ _ rfl hkey ?_; intro x ps hx; rw [hh'])
      go_ret2
      exact ⟨⟨_, rfl, by unfold ofV; rw [if_neg (by simp), if_pos hh']; rfl⟩, rfl⟩
end
end Go.Proofs.YtgagcncmlonciaaGreatDoor
