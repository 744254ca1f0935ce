/- The contracts of a cursor's methods. -/
import Derived.Test.YtgehgjalkponfaaGreatDoorNmI
namespace Go.Proofs.YtgehgjalkponfaaGreatDoor
open Go.RowKit

theorem cf_small (a : Array Value) (W : World) : (callFunc 93 a).run Tryz.prog W = .ok (.enter 93 a) W := by kernel_rfl
theorem cf_Wide1 (a : Array Value) (W : World) : (callFunc 96 a).run Tryz.prog W = .ok (.enter 96 a) W := by kernel_rfl
theorem cf_Take1 (a : Array Value) (W : World) : (callFunc 95 a).run Tryz.prog W = .ok (.enter 95 a) W := by kernel_rfl

theorem getSmall_le (l : List UInt8) (v k : Nat) (h : Num.getSmall l = some (v, k)) : k ≤ l.length := (getSmall_bd l v k h).2.1
theorem getWide_le (l : List UInt8) (v k : Nat) (h : Num.getWide l = some (v, k)) : k ≤ l.length := by
  unfold Num.getWide at h; split at h
  · cases h
  · simp only [Option.some.injEq, Prod.mk.injEq] at h; omega
theorem getText_le (l : List UInt8) (most : Int) (v : List UInt8) (k : Nat) (h : Num.getText l most = some (v, k)) : k ≤ l.length := by
  unfold Num.getText at h
  cases hg : Num.getSmall l with
  | none => rw [hg] at h; cases h
  | some x =>
    obtain ⟨n, j⟩ := x
    rw [hg] at h
    simp only [] at h
    have := (getSmall_bd l n j hg).2.1
    split at h
    · cases h
    · simp only [Option.some.injEq, Prod.mk.injEq] at h; omega
theorem getFixed_le (l : List UInt8) (k0 : Int) (v : List UInt8) (k : Nat) (h : Num.getFixed l k0 = some (v, k)) : k ≤ l.length := by
  unfold Num.getFixed at h
  cases hg : l[Num.szN k0]? with
  | none => rw [hg] at h; cases h
  | some b =>
    rw [hg] at h
    simp only [] at h
    have := (List.getElem?_eq_some_iff.1 hg).1
    split at h
    · cases h
    · simp only [Option.some.injEq, Prod.mk.injEq] at h; omega
theorem getTake_le (l : List UInt8) (n : Int) (v : List UInt8) (k : Nat) (h : Num.getTake l n = some (v, k)) : k ≤ l.length := by
  unfold Num.getTake at h
  split at h
  · cases h
  · simp only [Option.some.injEq, Prod.mk.injEq] at h; omega

set_option maxRecDepth 100000 in
set_option maxHeartbeats 400000 in
theorem Cursor_Small_any (g o : Nat) (t : TypeId) (cs : Array Value) (s : List UInt8) (bad : Bool) (w : World)
    (hB : Blk w g t cs) (h0 : cs[o]? = some (.string (bs s))) (h1 : cs[o + 1]? = some (.bool bad)) (hs : s.length ≤ 1099511627776) :
    Calls Tryz.prog 59 #[.pointer (some ⟨g, o, none⟩)] w (CurPost w g o t cs (Num.nxt (s, bad) (Num.getSmall s)) (.int .u64 (if bad then 0 else gval (Num.getSmall s)))) := by
  have hc := Lib.hid (take_u64_any g o t cs s bad 93 #[] (Num.getSmall s) w hB h0 h1
    (fun _ => (num_small_any s w hs).mono fun e w' ⟨he, hw⟩ => ⟨he, hw ▸ Below.refl _ _⟩) (cf_small _) (getSmall_le s))
  clear hB h0 h1
  generalize hv : (if bad then 0 else gval (Num.getSmall s)) = v at hc
  clear hv
  go_enter Tryz.func59, Tryz.ntmps59
  go_wp2_with (go_at_call 92; refine hc.out.mono ?_; rintro e w' ⟨rfl, hp⟩)
  go_ret
  exact ⟨rfl, hp⟩

theorem grown_alloc' (w : World) (ob : Obj) (row : Option Nat) : w.grownBy (w.alloc ob) row := World.grownBy_alloc w ob row

set_option maxRecDepth 100000 in
set_option maxHeartbeats 400000 in
theorem Cursor_Wide_any (g o : Nat) (t : TypeId) (cs : Array Value) (s : List UInt8) (bad : Bool) (w : World)
    (hB : Blk w g t cs) (h0 : cs[o]? = some (.string (bs s))) (h1 : cs[o + 1]? = some (.bool bad)) (hs : s.length ≤ 1099511627776) :
    Calls Tryz.prog 63 #[.pointer (some ⟨g, o, none⟩)] w (CurPost w g o t cs (Num.nxt (s, bad) (Num.getWide s)) (.int .u64 (if bad then 0 else gval (Num.getWide s)))) := by
  have hc := Lib.hid (take_u64_any g o t cs s bad 96 #[] (Num.getWide s) w hB h0 h1
    (fun _ => Wide1_any s w hs) (cf_Wide1 _) (getWide_le s))
  clear hB h0 h1
  generalize hv : (if bad then 0 else gval (Num.getWide s)) = v at hc
  clear hv
  go_enter Tryz.func63, Tryz.ntmps63
  go_wp2_with (go_at_call 92; refine hc.out.mono ?_; rintro e w' ⟨rfl, hp⟩)
  go_ret
  exact ⟨rfl, hp⟩

set_option maxRecDepth 100000 in
set_option maxHeartbeats 400000 in
theorem Cursor_Take_any (g o : Nat) (t : TypeId) (cs : Array Value) (s : List UInt8) (bad : Bool) (n : Int) (w : World)
    (hB : Blk w g t cs) (h0 : cs[o]? = some (.string (bs s))) (h1 : cs[o + 1]? = some (.bool bad)) (hs : s.length ≤ 1099511627776)
    (hm1 : -9223372036854775808 ≤ n) (hm2 : n ≤ 9223372036854775807) :
    Calls Tryz.prog 61 #[.pointer (some ⟨g, o, none⟩), .int .i64 n] w (CurPost w g o t cs (Num.nxt (s, bad) (Num.getTake s n)) (.string (bs (if bad then [] else gsval (Num.getTake s n))))) := by
  have hc := Lib.hid (take_str_any g o t cs s bad 95 #[.pointer (some ⟨w.heap.size, 0, none⟩)] (Num.getTake s n) (w.alloc (.cells #[.int .i64 n] 3)) (hB.alloc _) h0 h1
    (fun _ => Take1_any s n ⟨w.heap.size, 0, none⟩ _ hs hm1 hm2 (cell_new_arr _ _ _ _)) (cf_Take1 _) (getTake_le s n))
  clear hB h0 h1
  generalize hv : (if bad then [] else gsval (Num.getTake s n)) = v at hc
  clear hv
  go_enter Tryz.func61, Tryz.ntmps61
  go_wp2_with (go_at_call 94; refine hc.out.mono ?_; rintro e w' ⟨rfl, hp1, hp2⟩)
  go_ret
  exact ⟨rfl, hp1, grown_trans' (grown_alloc' _ _ _) hp2⟩

/-- What Done answers. -/
def doneB (s : List UInt8) (bad : Bool) : Bool := s.isEmpty && !bad

set_option maxRecDepth 100000 in
set_option maxHeartbeats 400000 in
theorem Cursor_Done_any (g o : Nat) (t : TypeId) (cs : Array Value) (s : List UInt8) (bad : Bool) (w : World)
    (hB : Blk w g t cs) (h0 : cs[o]? = some (.string (bs s))) (h1 : cs[o + 1]? = some (.bool bad)) :
    Calls Tryz.prog 65 #[.pointer (some ⟨g, o, none⟩)] w fun e w' => e = .returned (.bool (doneB s bad)) ∧ w = w' := by
  have e0 : w.cell? ⟨g, o, none⟩ = some (.string (bs s)) := (hB.cell o).trans h0
  have e1 : w.cell? ⟨g, o + 1, none⟩ = some (.bool bad) := (hB.cell (o + 1)).trans h1
  have ht := bs_toList s
  clear hB h0 h1
  cases s <;> cases bad
  all_goals go_enter Tryz.func65, Tryz.ntmps65
  all_goals go_wp2
  all_goals go_ret
  all_goals exact ⟨rfl, rfl⟩
end Go.Proofs.YtgehgjalkponfaaGreatDoor
