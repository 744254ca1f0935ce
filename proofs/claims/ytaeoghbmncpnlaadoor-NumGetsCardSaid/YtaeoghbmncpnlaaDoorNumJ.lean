/- The contracts of a cursor's methods. -/
import Derived.Test.YtaeoghbmncpnlaaDoorNumI
namespace Go.Proofs.YtaeoghbmncpnlaaDoor
open Go.RowKit

theorem cf_small (a : Array Value) (W : World) : (callFunc 37 a).run Tryd.prog W = .ok (.enter 37 a) W := by kernel_rfl
theorem cf_Wide1 (a : Array Value) (W : World) : (callFunc 38 a).run Tryd.prog W = .ok (.enter 38 a) W := by kernel_rfl
theorem cf_Text1 (a : Array Value) (W : World) : (callFunc 40 a).run Tryd.prog W = .ok (.enter 40 a) W := by kernel_rfl
theorem cf_Fixed1 (a : Array Value) (W : World) : (callFunc 41 a).run Tryd.prog W = .ok (.enter 41 a) W := by kernel_rfl
theorem cf_Take1 (a : Array Value) (W : World) : (callFunc 43 a).run Tryd.prog W = .ok (.enter 43 a) W := by kernel_rfl

theorem getSmall_le (l : List UInt8) (v k : Nat) (h : Num.getSmall l = some (v, k)) : k ≤ l.length := (getSmall_bd l v k h).2.1
theorem getWide_le (l : List UInt8) (v k : Nat) (h : Num.getWide l = some (v, k)) : k ≤ l.length := by
  unfold Num.getWide at h; split at h
  · cases h
  · simp only [Option.some.injEq, Prod.mk.injEq] at h; omega
theorem getText_le (l : List UInt8) (most : Int) (v : List UInt8) (k : Nat) (h : Num.getText l most = some (v, k)) : k ≤ l.length := by
  unfold Num.getText at h
  cases hg : Num.getSmall l with
  | none => rw [hg] at h; cases h
  | some x =>
    obtain ⟨n, j⟩ := x
    rw [hg] at h
    simp only [] at h
    have := (getSmall_bd l n j hg).2.1
    split at h
    · cases h
    · simp only [Option.some.injEq, Prod.mk.injEq] at h; omega
theorem getFixed_le (l : List UInt8) (k0 : Int) (v : List UInt8) (k : Nat) (h : Num.getFixed l k0 = some (v, k)) : k ≤ l.length := by
  unfold Num.getFixed at h
  cases hg : l[Num.szN k0]? with
  | none => rw [hg] at h; cases h
  | some b =>
    rw [hg] at h
    simp only [] at h
    have := (List.getElem?_eq_some_iff.1 hg).1
    split at h
    · cases h
    · simp only [Option.some.injEq, Prod.mk.injEq] at h; omega
theorem getTake_le (l : List UInt8) (n : Int) (v : List UInt8) (k : Nat) (h : Num.getTake l n = some (v, k)) : k ≤ l.length := by
  unfold Num.getTake at h
  split at h
  · cases h
  · simp only [Option.some.injEq, Prod.mk.injEq] at h; omega

set_option maxRecDepth 100000 in
set_option maxHeartbeats 400000 in
theorem Cursor_Small_any (g o : Nat) (t : TypeId) (cs : Array Value) (s : List UInt8) (bad : Bool) (w : World)
    (hB : Blk w g t cs) (h0 : cs[o]? = some (.string (bs s))) (h1 : cs[o + 1]? = some (.bool bad)) (hs : s.length ≤ 1099511627776) :
    Calls Tryd.prog 23 #[.pointer (some ⟨g, o, none⟩)] w (CurPost w g o t cs (Num.nxt (s, bad) (Num.getSmall s)) (.int .u64 (if bad then 0 else gval (Num.getSmall s)))) := by
  have hc := Lib.hid (take_u64_any g o t cs s bad 37 #[] (Num.getSmall s) w hB h0 h1
    (fun _ => (num_small_any s w hs).mono fun e w' ⟨he, hw⟩ => ⟨he, hw ▸ Below.refl _ _⟩) (cf_small _) (getSmall_le s))
  clear hB h0 h1
  generalize hv : (if bad then 0 else gval (Num.getSmall s)) = v at hc
  clear hv
  go_enter Tryd.func23, Tryd.ntmps23
  go_wp2_with (go_at_call 36; refine hc.out.mono ?_; rintro e w' ⟨rfl, hp⟩)
  go_ret
  exact ⟨rfl, hp⟩

theorem grown_alloc' (w : World) (ob : Obj) (row : Option Nat) : w.grownBy (w.alloc ob) row := World.grownBy_alloc w ob row

set_option maxRecDepth 100000 in
set_option maxHeartbeats 400000 in
theorem Cursor_Wide_any (g o : Nat) (t : TypeId) (cs : Array Value) (s : List UInt8) (bad : Bool) (w : World)
    (hB : Blk w g t cs) (h0 : cs[o]? = some (.string (bs s))) (h1 : cs[o + 1]? = some (.bool bad)) (hs : s.length ≤ 1099511627776) :
    Calls Tryd.prog 25 #[.pointer (some ⟨g, o, none⟩)] w (CurPost w g o t cs (Num.nxt (s, bad) (Num.getWide s)) (.int .u64 (if bad then 0 else gval (Num.getWide s)))) := by
  have hc := Lib.hid (take_u64_any g o t cs s bad 38 #[] (Num.getWide s) w hB h0 h1
    (fun _ => Wide1_any s w hs) (cf_Wide1 _) (getWide_le s))
  clear hB h0 h1
  generalize hv : (if bad then 0 else gval (Num.getWide s)) = v at hc
  clear hv
  go_enter Tryd.func25, Tryd.ntmps25
  go_wp2_with (go_at_call 36; refine hc.out.mono ?_; rintro e w' ⟨rfl, hp⟩)
  go_ret
  exact ⟨rfl, hp⟩

set_option maxRecDepth 100000 in
set_option maxHeartbeats 400000 in
theorem Cursor_Text_any (g o : Nat) (t : TypeId) (cs : Array Value) (s : List UInt8) (bad : Bool) (most : Int) (w : World)
    (hB : Blk w g t cs) (h0 : cs[o]? = some (.string (bs s))) (h1 : cs[o + 1]? = some (.bool bad)) (hs : s.length ≤ 1099511627776)
    (hm1 : -9223372036854775808 ≤ most) (hm2 : most ≤ 9223372036854775807) :
    Calls Tryd.prog 27 #[.pointer (some ⟨g, o, none⟩), .int .i64 most] w (CurPost w g o t cs (Num.nxt (s, bad) (Num.getText s most)) (.string (bs (if bad then [] else gsval (Num.getText s most))))) := by
  have hc := Lib.hid (take_str_any g o t cs s bad 40 #[.pointer (some ⟨w.heap.size, 0, none⟩)] (Num.getText s most) (w.alloc (.cells #[.int .i64 most] 3)) (hB.alloc _) h0 h1
    (fun _ => Text1_any s most ⟨w.heap.size, 0, none⟩ _ hs hm1 hm2 (cell_new_arr _ _ _ _)) (cf_Text1 _) (getText_le s most))
  clear hB h0 h1
  generalize hv : (if bad then [] else gsval (Num.getText s most)) = v at hc
  clear hv
  go_enter Tryd.func27, Tryd.ntmps27
  go_wp2_with (go_at_call 39; refine hc.out.mono ?_; rintro e w' ⟨rfl, hp1, hp2⟩)
  go_ret
  exact ⟨rfl, hp1, grown_trans' (grown_alloc' _ _ _) hp2⟩

set_option maxRecDepth 100000 in
set_option maxHeartbeats 400000 in
theorem Cursor_Take_any (g o : Nat) (t : TypeId) (cs : Array Value) (s : List UInt8) (bad : Bool) (n : Int) (w : World)
    (hB : Blk w g t cs) (h0 : cs[o]? = some (.string (bs s))) (h1 : cs[o + 1]? = some (.bool bad)) (hs : s.length ≤ 1099511627776)
    (hm1 : -9223372036854775808 ≤ n) (hm2 : n ≤ 9223372036854775807) :
    Calls Tryd.prog 31 #[.pointer (some ⟨g, o, none⟩), .int .i64 n] w (CurPost w g o t cs (Num.nxt (s, bad) (Num.getTake s n)) (.string (bs (if bad then [] else gsval (Num.getTake s n))))) := by
  have hc := Lib.hid (take_str_any g o t cs s bad 43 #[.pointer (some ⟨w.heap.size, 0, none⟩)] (Num.getTake s n) (w.alloc (.cells #[.int .i64 n] 3)) (hB.alloc _) h0 h1
    (fun _ => Take1_any s n ⟨w.heap.size, 0, none⟩ _ hs hm1 hm2 (cell_new_arr _ _ _ _)) (cf_Take1 _) (getTake_le s n))
  clear hB h0 h1
  generalize hv : (if bad then [] else gsval (Num.getTake s n)) = v at hc
  clear hv
  go_enter Tryd.func31, Tryd.ntmps31
  go_wp2_with (go_at_call 39; refine hc.out.mono ?_; rintro e w' ⟨rfl, hp1, hp2⟩)
  go_ret
  exact ⟨rfl, hp1, grown_trans' (grown_alloc' _ _ _) hp2⟩

set_option maxRecDepth 100000 in
set_option maxHeartbeats 400000 in
theorem Cursor_Fixed_any (g o : Nat) (t : TypeId) (cs : Array Value) (s : List UInt8) (bad : Bool) (n : Int) (w : World)
    (hB : Blk w g t cs) (h0 : cs[o]? = some (.string (bs s))) (h1 : cs[o + 1]? = some (.bool bad)) (hs : s.length ≤ 1099511627776)
    (hm1 : -9223372036854775808 ≤ n) (hm2 : n ≤ 9223372036854775807) :
    Calls Tryd.prog 29 #[.pointer (some ⟨g, o, none⟩), .int .i64 n] w (CurPost w g o t cs (Num.nxt (s, bad) (Num.getFixed s n)) (.string (bs (if bad then [] else gsval (Num.getFixed s n))))) := by
  obtain ⟨N, hN⟩ : ∃ N : Nat, Num.szI n = N := ⟨Num.szN n, by unfold Num.szN Num.szI; omega⟩
  have hN' : Num.szN n = N := by unfold Num.szN; omega
  have hc := Lib.hid (take_str_any g o t cs s bad 41 #[.pointer (some ⟨w.heap.size, 0, none⟩)] (Num.getFixed s n) (w.alloc (.cells #[.int .i64 (N : Int)] 3)) (hB.alloc _) h0 h1
    (fun _ => Fixed1_any s n N hN' ⟨w.heap.size, 0, none⟩ _ hs (cell_new_arr _ _ _ _)) (cf_Fixed1 _) (getFixed_le s n))
  have hsz := Lib.hid (fun W => num_size_any n W hm1 hm2)
  rw [hN] at hsz
  clear hB h0 h1 hN hN'
  generalize hv : (if bad then [] else gsval (Num.getFixed s n)) = v at hc
  clear hv
  go_enter Tryd.func29, Tryd.ntmps29
  go_wp2_with (first | (go_at_call 34; refine (hsz.out _).mono ?_; rintro e w' ⟨rfl, rfl⟩) | (go_at_call 39; refine hc.out.mono ?_; rintro e w' ⟨rfl, hp1, hp2⟩))
  go_ret
  exact ⟨rfl, hp1, grown_trans' (grown_alloc' _ _ _) hp2⟩

/-- What Done answers. -/
def doneB (s : List UInt8) (bad : Bool) : Bool := s.isEmpty && !bad

set_option maxRecDepth 100000 in
set_option maxHeartbeats 400000 in
theorem Cursor_Done_any (g o : Nat) (t : TypeId) (cs : Array Value) (s : List UInt8) (bad : Bool) (w : World)
    (hB : Blk w g t cs) (h0 : cs[o]? = some (.string (bs s))) (h1 : cs[o + 1]? = some (.bool bad)) :
    Calls Tryd.prog 33 #[.pointer (some ⟨g, o, none⟩)] w fun e w' => e = .returned (.bool (doneB s bad)) ∧ w = w' := by
  have e0 : w.cell? ⟨g, o, none⟩ = some (.string (bs s)) := (hB.cell o).trans h0
  have e1 : w.cell? ⟨g, o + 1, none⟩ = some (.bool bad) := (hB.cell (o + 1)).trans h1
  have ht := bs_toList s
  clear hB h0 h1
  cases s <;> cases bad
  all_goals go_enter Tryd.func33, Tryd.ntmps33
  all_goals go_wp2
  all_goals go_ret
  all_goals exact ⟨rfl, rfl⟩
end Go.Proofs.YtaeoghbmncpnlaaDoor
