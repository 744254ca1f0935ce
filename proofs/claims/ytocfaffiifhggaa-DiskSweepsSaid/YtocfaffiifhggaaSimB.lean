/- Files on a machine: a step, and the calls that only set. -/
import Derived.Test.YtocfaffiifhggaaSimA
namespace Go.Proofs.Ytocfaffiifhggaa
open Go.RowKit Go.Maps Go.WideMaps
attribute [local go_sem] bs_toList bs_size

theorem grown_set (w : World) (g o : Nat) (v : Value) : w.grownBy (w.setCell ⟨g, o, none⟩ v) (some g) :=
  ⟨rfl, rfl, rfl, by simp [World.setCell], fun k _ hne => Below.heap_setCell w ⟨g, o, none⟩ v k (fun e => hne (by simp [e]))⟩
theorem grown_trans' {a b c : World} {row : Option Nat} (h : a.grownBy b row) (k : b.grownBy c row) : a.grownBy c row :=
  ⟨k.os.trans h.os, k.tape.trans h.tape, k.output.trans h.output, Nat.le_trans h.size k.size, fun i hi hne => (k.block i (Nat.lt_of_lt_of_le hi h.size) hne).trans (h.block i hi hne)⟩
theorem grown_refl (w : World) (row : Option Nat) : w.grownBy w row := ⟨rfl, rfl, rfl, Nat.le_refl _, fun _ _ _ => rfl⟩

section
variable {w : World} {G nb sb : Nat} {mv : Value} {room steps fuse : Int} {dead : Bool}
theorem FsAt.f (h : FsAt w G nb sb mv room steps fuse dead) (i : Nat) : w.frozen? ⟨G, i, none⟩ = false := Blk.frozen h i

theorem FsAt.room_set (h : FsAt w G nb sb mv room steps fuse dead) (v x : Int) (e : v = x) : FsAt (w.setCell ⟨G, 3, none⟩ (.int .i64 v)) G nb sb mv x steps fuse dead := by
  subst e; exact Blk.set_ h 3 (.int .i64 v)
theorem FsAt.fuse_set (h : FsAt w G nb sb mv room steps fuse dead) (v x : Int) (e : v = x) : FsAt (w.setCell ⟨G, 5, none⟩ (.int .i64 v)) G nb sb mv room steps x dead := by
  subst e; exact Blk.set_ h 5 (.int .i64 v)

set_option maxRecDepth 100000 in
theorem Fs_Room_any (n : Int) (h : FsAt w G nb sb mv room steps fuse dead) :
    Calls Try.prog 18 #[.pointer (some ⟨G, 0, none⟩), .int .i64 n] w fun e w' => e = .returned (.tuple #[]) ∧ FsAt w' G nb sb mv (max n 0) steps fuse dead ∧ w.grownBy w' (some G) := by
  obtain ⟨c0, c1, c2, c3, c4, c5, c6⟩ := h.c
  have f3 := h.f 3
  have hP := Lib.hid (fun v x e => h.room_set v x e)
  go_enter Try.func18, Try.ntmps18
  go_wp2
  all_goals
    go_end0
    refine ⟨rfl, hP.out _ _ ?_, grown_set _ _ _ _⟩
    omega

set_option maxRecDepth 100000 in
theorem Fs_Fuse_any (n : Int) (h : FsAt w G nb sb mv room steps fuse dead) :
    Calls Try.prog 21 #[.pointer (some ⟨G, 0, none⟩), .int .i64 n] w fun e w' => e = .returned (.tuple #[]) ∧ FsAt w' G nb sb mv room steps (min (max n (-1)) 1073741824) dead ∧ w.grownBy w' (some G) := by
  obtain ⟨c0, c1, c2, c3, c4, c5, c6⟩ := h.c
  have f5 := h.f 5
  have hP := Lib.hid (fun v x e => h.fuse_set v x e)
  go_enter Try.func21, Try.ntmps21
  go_wp2
  all_goals
    go_end0
    refine ⟨rfl, hP.out _ _ ?_, grown_set _ _ _ _⟩
    omega

set_option maxRecDepth 100000 in
theorem right_any (l : List UInt8) (w : World) : Calls Try.prog 24 #[.string (bs l)] w fun e w' => e = .returned (.bool (!l.isEmpty && decide (l.length ≤ 40))) ∧ w = w' := by
  have hz := bs_size l
  cases l with
  | nil =>
    have he : (bs []).toList = [] := bs_toList []
    go_enter Try.func24, Try.ntmps24
    go_wp2
    go_ret
    exact ⟨rfl, rfl⟩
  | cons x l =>
    have he : (bs (x :: l)).toList = x :: l := bs_toList _
    generalize hs : bs (x :: l) = s at *
    rw [show (!(x :: l).isEmpty && decide ((x :: l).length ≤ 40)) = decide ((x :: l).length ≤ 40) from rfl]
    generalize (x :: l).length = n at *
    go_enter Try.func24, Try.ntmps24
    go_wp2
    go_ret
    refine ⟨?_, rfl⟩
    simp
    omega

set_option maxRecDepth 100000 in
theorem Fs_step_dead (f : FuncId) (bd cp : Array Value) (h : FsAt w G nb sb mv room steps 0 dead) :
    Calls Try.prog 28 #[.pointer (some ⟨G, 0, none⟩), .func (.func f) bd cp] w fun e w' => e = .returned (.int .i64 13) ∧ FsAt w' G nb sb mv room steps 0 true ∧ w.grownBy w' (some G) := by
  obtain ⟨c0, c1, c2, c3, c4, c5, c6⟩ := h.c
  have f6 := h.f 6
  have hP := Lib.hid (Blk.set_ h 6 (.bool true))
  go_enter Try.func28, Try.ntmps28
  go_wp2
  go_ret
  exact ⟨rfl, hP.out, grown_set _ _ _ _⟩

set_option maxRecDepth 100000 in
theorem Fs_step_any (f : FuncId) (bd cp args : Array Value) (ha : bd ++ cp = args) (Post : World → Prop) (hcf : ∀ W, (callFunc f args).run Try.prog W = .ok (.enter f args) W) (h : FsAt w G nb sb mv room steps fuse dead) (h0 : fuse ≠ 0) (h1 : -1 ≤ fuse) (h2 : fuse ≤ 1073741824) (h3 : 0 ≤ steps) (h4 : steps ≤ 1099511627776)
    (hdo : ∀ w1, FsAt w1 G nb sb mv room (steps + 1) (max (fuse - 1) (-1)) dead → w.grownBy w1 (some G) → Calls Try.prog f args w1 fun e w' => e = .returned (.tuple #[]) ∧ Post w') :
    Calls Try.prog 28 #[.pointer (some ⟨G, 0, none⟩), .func (.func f) bd cp] w fun e w' => e = .returned (.int .i64 0) ∧ Post w' := by
  obtain ⟨c0, c1, c2, c3, c4, c5, c6⟩ := h.c
  have f5 := h.f 5
  have f4 := h.f 4
  have hne : (fuse == 0) = false := by simpa using h0
  have hP1 := Blk.set_ h 5 (.int .i64 (fuse - 1))
  have hP2 := hP1.set_ 5 (.int .i64 (max (fuse - 1) (-1)))
  have hP3 := Lib.hid (hP2.set_ 4 (.int .i64 (steps + 1)))
  have Hdo := Lib.hid hdo
  clear hdo hP1 hP2
  rcases (show (fuse - 1 ≤ -1 ∧ max (fuse - 1) (-1) = -1) ∨ (-1 < fuse - 1 ∧ max (fuse - 1) (-1) = fuse - 1) by omega) with ⟨hc, hm⟩ | ⟨hc, hm⟩
  all_goals
    rw [hm] at hP3 Hdo
    clear hm
    go_enter Try.func28, Try.ntmps28
    go_wp2_with fail
    refine (Hdo.out _ hP3.out (grown_trans' (grown_trans' (grown_set _ _ _ _) (grown_set _ _ _ _)) (grown_set _ _ _ _))).mono ?_
    rintro e w' ⟨rfl, hp⟩
    go_wp2
    go_ret
    exact ⟨rfl, hp⟩
end
end Go.Proofs.Ytocfaffiifhggaa
