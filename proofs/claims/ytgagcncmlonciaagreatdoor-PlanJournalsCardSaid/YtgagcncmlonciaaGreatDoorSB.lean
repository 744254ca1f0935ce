/- Files on a machine: a step, and the calls that only set. Files on a machine: what a change makes of bytes; a file's own calls; a number of those that tell what survives. -/
import Derived.Test.YtgagcncmlonciaaGreatDoorGB
import Derived.Test.YtgagcncmlonciaaGreatDoorSimA
namespace Go.Proofs.YtgagcncmlonciaaGreatDoor
open Go.RowKit Go.Maps Go.WideMaps
attribute [local go_sem] bs_toList bs_size

theorem grown_refl (w : World) (row : Option Nat) : w.grownBy w row := ⟨rfl, rfl, rfl, Nat.le_refl _, fun _ _ _ => rfl⟩

section
variable {w : World} {G nb sb : Nat} {mv : Value} {room steps fuse : Int} {dead : Bool}
theorem FsAt.f (h : FsAt w G nb sb mv room steps fuse dead) (i : Nat) : w.frozen? ⟨G, i, none⟩ = false := Blk.frozen h i

theorem FsAt.room_set (h : FsAt w G nb sb mv room steps fuse dead) (v x : Int) (e : v = x) : FsAt (w.setCell ⟨G, 3, none⟩ (.int .i64 v)) G nb sb mv x steps fuse dead := by
  subst e; exact Blk.set_ h 3 (.int .i64 v)
theorem FsAt.fuse_set (h : FsAt w G nb sb mv room steps fuse dead) (v x : Int) (e : v = x) : FsAt (w.setCell ⟨G, 5, none⟩ (.int .i64 v)) G nb sb mv room steps x dead := by
  subst e; exact Blk.set_ h 5 (.int .i64 v)

set_option maxRecDepth 100000 in
theorem right_any (l : List UInt8) (w : World) : Calls Tryz.prog 154 #[.string (bs l)] w fun e w' => e = .returned (.bool (!l.isEmpty && decide (l.length ≤ 40))) ∧ w = w' := by
  have hz := bs_size l
  cases l with
  | nil =>
    have he : (bs []).toList = [] := bs_toList []
    go_enter Tryz.func154, Tryz.ntmps154
    go_wp2
    go_ret
    exact ⟨rfl, rfl⟩
  | cons x l =>
    have he : (bs (x :: l)).toList = x :: l := bs_toList _
    generalize hs : bs (x :: l) = s at *
    rw [show (!(x :: l).isEmpty && decide ((x :: l).length ≤ 40)) = decide ((x :: l).length ≤ 40) from rfl]
    generalize (x :: l).length = n at *
    go_enter Tryz.func154, Tryz.ntmps154
    go_wp2
    go_ret
    refine ⟨?_, rfl⟩
    simp
    omega

set_option maxRecDepth 100000 in
theorem Fs_step_dead (f : FuncId) (bd cp : Array Value) (h : FsAt w G nb sb mv room steps 0 dead) :
    Calls Tryz.prog 97 #[.pointer (some ⟨G, 0, none⟩), .func (.func f) bd cp] w fun e w' => e = .returned (.int .i64 13) ∧ FsAt w' G nb sb mv room steps 0 true ∧ w.grownBy w' (some G) := by
  obtain ⟨c0, c1, c2, c3, c4, c5, c6⟩ := h.c
  have f6 := h.f 6
  have hP := Lib.hid (Blk.set_ h 6 (.bool true))
  go_enter Tryz.func97, Tryz.ntmps97
  go_wp2
  go_ret
  exact ⟨rfl, hP.out, grown_set _ _ _ _⟩

set_option maxRecDepth 100000 in
theorem Fs_step_any (f : FuncId) (bd cp args : Array Value) (ha : bd ++ cp = args) (Post : World → Prop) (hcf : ∀ W, (callFunc f args).run Tryz.prog W = .ok (.enter f args) W) (h : FsAt w G nb sb mv room steps fuse dead) (h0 : fuse ≠ 0) (h1 : -1 ≤ fuse) (h2 : fuse ≤ 1073741824) (h3 : 0 ≤ steps) (h4 : steps ≤ 1099511627776)
    (hdo : ∀ w1, FsAt w1 G nb sb mv room (steps + 1) (max (fuse - 1) (-1)) dead → w.grownBy w1 (some G) → Calls Tryz.prog f args w1 fun e w' => e = .returned (.tuple #[]) ∧ Post w') :
    Calls Tryz.prog 97 #[.pointer (some ⟨G, 0, none⟩), .func (.func f) bd cp] w fun e w' => e = .returned (.int .i64 0) ∧ Post w' := by
  obtain ⟨c0, c1, c2, c3, c4, c5, c6⟩ := h.c
  have f5 := h.f 5
  have f4 := h.f 4
  have hne : (fuse == 0) = false := by simpa using h0
  have hP1 := Blk.set_ h 5 (.int .i64 (fuse - 1))
  have hP2 := hP1.set_ 5 (.int .i64 (max (fuse - 1) (-1)))
  have hP3 := Lib.hid (hP2.set_ 4 (.int .i64 (steps + 1)))
  have Hdo := Lib.hid hdo
  clear hdo hP1 hP2
  all_goals
    go_enter Tryz.func97, Tryz.ntmps97
    go_wp2_with fail
    refine (Hdo.out _ hP3.out (grown_trans' (grown_trans' (grown_set _ _ _ _) (grown_set _ _ _ _)) (grown_set _ _ _ _))).mono ?_
    rintro e w' ⟨rfl, hp⟩
    go_wp2
    go_ret
    exact ⟨rfl, hp⟩
end
end Go.Proofs.YtgagcncmlonciaaGreatDoor
namespace Go.Proofs.YtgagcncmlonciaaGreatDoor
open Go.RowKit Go.Maps Go.WideMaps
attribute [local go_sem] bs_toList bs_size

set_option maxRecDepth 100000 in
theorem app_to_any (a s : List UInt8) (w : World) (h : s.length + a.length ≤ 9223372036854775807) : Calls Tryz.prog 411 #[.string (bs a), .string (bs s)] w fun e w' => e = .returned (.string (bs (s ++ a))) ∧ w = w' := by
  have h1 := fun W => run_add_bs (P := Tryz.prog) s a h W
  go_enter Tryz.func411, Tryz.ntmps411
  go_wp2
  go_ret
  exact ⟨rfl, rfl⟩

set_option maxRecDepth 100000 in
theorem cut_to_any (n : Nat) (s : List UInt8) (w : World) (h : n ≤ s.length) (_hs : s.length ≤ 1099511627776) : Calls Tryz.prog 398 #[.int .i64 (n : Int), .string (bs s)] w fun e w' => e = .returned (.string (bs (s.take n))) ∧ w = w' := by
  have hx : (bs s).extract 0 n = bs (s.take n) := by rw [bs_extract]; simp
  have h1 : (n : Int) ≤ (s.length : Int) := by omega
  go_enter Tryz.func398, Tryz.ntmps398
  go_wp2
  go_ret
  exact ⟨rfl, rfl⟩

/-- A file's block. -/
def FileAt (w : World) (g : Nat) (synced now : List UInt8) (ch : Value) : Prop := Blk w g 84 #[.string (bs synced), .string (bs now), ch]
theorem FileAt.c {w : World} {g : Nat} {synced now : List UInt8} {ch : Value} (h : FileAt w g synced now ch) : w.cell? ⟨g, 0, none⟩ = some (.string (bs synced)) ∧ w.cell? ⟨g, 1, none⟩ = some (.string (bs now)) ∧ w.cell? ⟨g, 2, none⟩ = some ch :=
  ⟨(Blk.cell h 0).trans rfl, (Blk.cell h 1).trans rfl, (Blk.cell h 2).trans rfl⟩

set_option maxRecDepth 100000 in
theorem file_sync_any {w : World} {g : Nat} {synced now : List UInt8} {ch : Value} (h : FileAt w g synced now ch) :
    Calls Tryz.prog 100 #[.pointer (some ⟨g, 0, none⟩)] w fun e w' => e = .returned (.tuple #[]) ∧ FileAt w' g now now (.slice none 0 0) ∧ w.grownBy w' (some g) := by
  obtain ⟨c0, c1, c2⟩ := h.c
  have f0 := Blk.frozen h 0
  have f2 := Blk.frozen h 2
  have hP := Lib.hid ((Blk.set_ h 0 (.string (bs now))).set_ 2 (.slice none 0 0))
  go_enter Tryz.func100, Tryz.ntmps100
  go_wp2
  go_end0
  exact ⟨rfl, hP.out, grown_trans' (grown_set _ _ _ _) (grown_set _ _ _ _)⟩

/-- A list of numbers in memory. -/
def KeepAt (w : World) (v : Value) (ks : List Int) : Prop := ∃ (sa : Option Addr) (sc : Nat), v = .slice sa ks.length sc ∧ ks.length ≤ maxLen ∧ ∀ i x, ks[i]? = some x → ∃ (b o : Nat), sa = some ⟨b, o, none⟩ ∧ w.cell? ⟨b, o + i, none⟩ = some (.int .i64 x) ∧ -9223372036854775808 ≤ x ∧ x ≤ 9223372036854775807
/-- One of the numbers that tell what survives. -/
def absN (x : Int) : Nat := if x = -9223372036854775808 then 0 else x.natAbs
def keptN (ks : List Int) (i : Nat) : Nat := if ks.length = 0 then 0 else absN (ks.getD (i % ks.length) 0)
theorem absN_le (x : Int) (h1 : -9223372036854775808 ≤ x) (h2 : x ≤ 9223372036854775807) : absN x ≤ 9223372036854775807 := by
  unfold absN
  split
  · omega
  · omega
theorem KeepAt.le {w : World} {v : Value} {ks : List Int} (h : KeepAt w v ks) (i : Nat) : keptN ks i ≤ 9223372036854775807 := by
  obtain ⟨sa, sc, _, _, hc⟩ := h
  unfold keptN
  split
  · omega
  · rename_i h0
    have hlt : i % ks.length < ks.length := Nat.mod_lt _ (by omega)
    obtain ⟨_, _, _, _, h1, h2⟩ := hc (i % ks.length) _ (List.getElem?_eq_getElem hlt)
    rw [List.getD_eq_getElem?_getD, List.getElem?_eq_getElem hlt]
    exact absN_le _ h1 h2

theorem wrap64_neg (x : Int) (h1 : -9223372036854775808 < x) (h2 : x ≤ 9223372036854775807) : wrap64 (-x) = -x := by
  unfold wrap64
  omega

end Go.Proofs.YtgagcncmlonciaaGreatDoor
