/- A cursor alone in its block: the contracts of its methods, part by part. -/
import Derived.Test.YtgehgjalkponfaaGreatDoorNmJ
namespace Go.Proofs.YtgehgjalkponfaaGreatDoor
open Go.RowKit

/-- A cursor alone in its block. -/
def Cur (w : World) (g : Nat) (s : List UInt8) (bad : Bool) : Prop := Blk w g 88 #[.string (bs s), .bool bad]
theorem Cur.grown {w w' : World} {g : Nat} {s : List UInt8} {bad : Bool} {row : Option Nat} (h : Cur w g s bad) (hg : w.grownBy w' row) (hne : some g ≠ row) : Cur w' g s bad := Blk.grown h hg hne
theorem Cur.c0 {w : World} {g : Nat} {s : List UInt8} {bad : Bool} (h : Cur w g s bad) : w.cell? ⟨g, 0, none⟩ = some (.string (bs s)) := (Blk.cell h 0).trans rfl
theorem Cur.c1 {w : World} {g : Nat} {s : List UInt8} {bad : Bool} (h : Cur w g s bad) : w.cell? ⟨g, 1, none⟩ = some (.bool bad) := (Blk.cell h 1).trans rfl

theorem CSmall (g : Nat) (s : List UInt8) (bad : Bool) (w : World) (hB : Cur w g s bad) (hs : s.length ≤ 1099511627776) :
    Calls Tryz.prog 59 #[.pointer (some ⟨g, 0, none⟩)] w fun e w' => e = .returned (.int .u64 (if bad then 0 else gval (Num.getSmall s))) ∧ Cur w' g (Num.nxt (s, bad) (Num.getSmall s)).1 (Num.nxt (s, bad) (Num.getSmall s)).2 ∧ w.grownBy w' (some g) :=
  Cursor_Small_any g 0 _ _ s bad w hB rfl rfl hs
theorem CWide (g : Nat) (s : List UInt8) (bad : Bool) (w : World) (hB : Cur w g s bad) (hs : s.length ≤ 1099511627776) :
    Calls Tryz.prog 63 #[.pointer (some ⟨g, 0, none⟩)] w fun e w' => e = .returned (.int .u64 (if bad then 0 else gval (Num.getWide s))) ∧ Cur w' g (Num.nxt (s, bad) (Num.getWide s)).1 (Num.nxt (s, bad) (Num.getWide s)).2 ∧ w.grownBy w' (some g) :=
  Cursor_Wide_any g 0 _ _ s bad w hB rfl rfl hs
theorem CTake (g : Nat) (s : List UInt8) (bad : Bool) (n : Int) (w : World) (hB : Cur w g s bad) (hs : s.length ≤ 1099511627776) (h1 : -9223372036854775808 ≤ n) (h2 : n ≤ 9223372036854775807) :
    Calls Tryz.prog 61 #[.pointer (some ⟨g, 0, none⟩), .int .i64 n] w fun e w' => e = .returned (.string (bs (if bad then [] else gsval (Num.getTake s n)))) ∧ Cur w' g (Num.nxt (s, bad) (Num.getTake s n)).1 (Num.nxt (s, bad) (Num.getTake s n)).2 ∧ w.grownBy w' (some g) :=
  Cursor_Take_any g 0 _ _ s bad n w hB rfl rfl hs h1 h2
theorem CDone (g : Nat) (s : List UInt8) (bad : Bool) (w : World) (hB : Cur w g s bad) :
    Calls Tryz.prog 65 #[.pointer (some ⟨g, 0, none⟩)] w fun e w' => e = .returned (.bool (doneB s bad)) ∧ w = w' :=
  Cursor_Done_any g 0 _ _ s bad w hB rfl rfl


theorem CSmall_some (g : Nat) (s : List UInt8) (v k : Nat) (r : List UInt8) (w : World) (hB : Cur w g s false) (hs : s.length ≤ 1099511627776) (hg : Num.getSmall s = some (v, k)) (hr : s.drop k = r) :
    Calls Tryz.prog 59 #[.pointer (some ⟨g, 0, none⟩)] w fun e w' => e = .returned (.int .u64 (v : Int)) ∧ Cur w' g r false ∧ w.grownBy w' (some g) := by
  have h := CSmall g s false w hB hs
  rw [hg] at h
  subst hr
  exact h
theorem CSmall_fail (g : Nat) (s : List UInt8) (bad : Bool) (w : World) (hB : Cur w g s bad) (hs : s.length ≤ 1099511627776) (hg : bad = true ∨ Num.getSmall s = none) :
    Calls Tryz.prog 59 #[.pointer (some ⟨g, 0, none⟩)] w fun e w' => e = .returned (.int .u64 0) ∧ Cur w' g s true ∧ w.grownBy w' (some g) := by
  have h := CSmall g s bad w hB hs
  cases bad with
  | true => exact h
  | false =>
    rw [hg.resolve_left (by simp)] at h
    exact h

theorem CWide_some (g : Nat) (s : List UInt8) (v k : Nat) (r : List UInt8) (w : World) (hB : Cur w g s false) (hs : s.length ≤ 1099511627776) (hg : Num.getWide s = some (v, k)) (hr : s.drop k = r) :
    Calls Tryz.prog 63 #[.pointer (some ⟨g, 0, none⟩)] w fun e w' => e = .returned (.int .u64 (v : Int)) ∧ Cur w' g r false ∧ w.grownBy w' (some g) := by
  have h := CWide g s false w hB hs
  rw [hg] at h
  subst hr
  exact h
theorem CWide_fail (g : Nat) (s : List UInt8) (bad : Bool) (w : World) (hB : Cur w g s bad) (hs : s.length ≤ 1099511627776) (hg : bad = true ∨ Num.getWide s = none) :
    Calls Tryz.prog 63 #[.pointer (some ⟨g, 0, none⟩)] w fun e w' => e = .returned (.int .u64 0) ∧ Cur w' g s true ∧ w.grownBy w' (some g) := by
  have h := CWide g s bad w hB hs
  cases bad with
  | true => exact h
  | false =>
    rw [hg.resolve_left (by simp)] at h
    exact h

theorem CTake_some (g : Nat) (s : List UInt8) (n : Int) (v : List UInt8) (k : Nat) (r : List UInt8) (w : World) (hB : Cur w g s false) (hs : s.length ≤ 1099511627776) (h1 : -9223372036854775808 ≤ n) (h2 : n ≤ 9223372036854775807) (hg : Num.getTake s n = some (v, k)) (hr : s.drop k = r) :
    Calls Tryz.prog 61 #[.pointer (some ⟨g, 0, none⟩), .int .i64 n] w fun e w' => e = .returned (.string (bs v)) ∧ Cur w' g r false ∧ w.grownBy w' (some g) := by
  have h := CTake g s false n w hB hs h1 h2
  rw [hg] at h
  subst hr
  exact h
theorem CTake_fail (g : Nat) (s : List UInt8) (bad : Bool) (n : Int) (w : World) (hB : Cur w g s bad) (hs : s.length ≤ 1099511627776) (h1 : -9223372036854775808 ≤ n) (h2 : n ≤ 9223372036854775807) (hg : bad = true ∨ Num.getTake s n = none) :
    Calls Tryz.prog 61 #[.pointer (some ⟨g, 0, none⟩), .int .i64 n] w fun e w' => e = .returned (.string ⟨#[]⟩) ∧ Cur w' g s true ∧ w.grownBy w' (some g) := by
  have h := CTake g s bad n w hB hs h1 h2
  cases bad with
  | true => exact h
  | false =>
    rw [hg.resolve_left (by simp)] at h
    exact h

end Go.Proofs.YtgehgjalkponfaaGreatDoor
