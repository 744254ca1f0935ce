/- The walks of the laws NumTakes and NumBack. -/
import Derived.Test.YtaeoghbmncpnlaaDoorNumL
namespace Go.Proofs.YtaeoghbmncpnlaaDoor
open Go.RowKit
attribute [local go_sem] bs_toList bs_size

theorem Cur.new (w : World) (s : List UInt8) (bad : Bool) : Cur (w.alloc (.cells #[.string (bs s), .bool bad] 32)) w.heap.size s bad := Blk.new _ _ _
theorem Cur.newAt (w : World) (o : Obj) (s : List UInt8) (bad : Bool) : Cur ((w.alloc o).alloc (.cells #[.string (bs s), .bool bad] 32)) (w.heap.size + 1) s bad := by
  have := Blk.new (w.alloc o) 32 #[.string (bs s), .bool bad]
  rwa [World.size_alloc] at this
theorem Cur.alloc {w : World} {g : Nat} {s : List UInt8} {bad : Bool} (h : Cur w g s bad) (o : Obj) : Cur (w.alloc o) g s bad := Blk.alloc h o

set_option maxRecDepth 100000 in
set_option maxHeartbeats 1000000 in
theorem NumTakes_walk (s : List UInt8) (a b : Int) (w : World) (h1 : s.length ≤ maxLen) (h2 : -9223372036854775808 ≤ a) (h3 : a ≤ 9223372036854775807) (h4 : -9223372036854775808 ≤ b) (h5 : b ≤ 9223372036854775807) :
    Calls Tryd.prog 9 #[.string (bs s), .int .i64 a, .int .i64 b] w fun e w' => e = .returned (.bool true) ∧ Below w.heap.size w w' := by
  unfold maxLen at h1
  by_cases hbig : 300 < s.length ∨ a < 0 ∨ b < 0 ∨ 300 < a ∨ 300 < b
  · have hc : (300 < s.length) ∨ (¬ 300 < s.length ∧ a < 0) ∨ (¬ 300 < s.length ∧ ¬ a < 0 ∧ b < 0) ∨ (¬ 300 < s.length ∧ ¬ a < 0 ∧ ¬ b < 0 ∧ 300 < a) ∨ (¬ 300 < s.length ∧ ¬ a < 0 ∧ ¬ b < 0 ∧ ¬ 300 < a ∧ 300 < b) := by omega
    clear hbig
    rcases hc with c1 | ⟨c1, c2⟩ | ⟨c1, c2, c3⟩ | ⟨c1, c2, c3, c4⟩ | ⟨c1, c2, c3, c4, c5⟩
    all_goals
      go_enter Tryd.func9, Tryd.ntmps9
      go_wp2_with (go_at_call 10; refine (works_any _).mono ?_; rintro e w1 ⟨rfl, b1⟩)
      go_ret
      exact ⟨rfl, b1⟩
  · obtain ⟨A, rfl⟩ := Int.eq_ofNat_of_zero_le (show 0 ≤ a by omega)
    obtain ⟨B, rfl⟩ := Int.eq_ofNat_of_zero_le (show 0 ≤ b by omega)
    have c1 : s.length ≤ 300 := by omega
    have c2 : A ≤ 300 := by omega
    have c3 : B ≤ 300 := by omega
    have hs : s.length ≤ 1099511627776 := by omega
    clear hbig h2 h3 h4 h5 h1
    by_cases hab : s.length < A + B
    · by_cases ha : s.length < A
      · go_enter Tryd.func9, Tryd.ntmps9
        go_wp2_with fail
        refine (works_any _).mono ?_; rintro e w1 ⟨rfl, b1⟩
        go_wp2_with fail
        have kx := (Cur.new w1 s false).alloc (.cells #[.string (bs s), .bool false] 32)
        have ky := Cur.newAt w1 (.cells #[.string (bs s), .bool false] 32) s false
        have hbA : Below w.heap.size w ((w1.alloc (.cells #[.string (bs s), .bool false] 32)).alloc (.cells #[.string (bs s), .bool false] 32)) := (b1.alloc b1.size _).alloc (by have := b1.size; simp; omega) _
        have hx := b1.size
        refine (CTake_fail _ s false A _ kx hs (by omega) (by omega) (.inr (by unfold Num.getTake; rw [if_pos (.inr (by omega))]))).mono ?_; rintro e w2 ⟨rfl, kx, g2⟩
        replace ky := ky.grown g2 (by simp)
        have hbB := hbA.grown g2 (by simp; omega) (by intro k hk; cases hk; omega)
        clear hbA g2
        go_wp2_with fail
        refine (CTake_fail _ s true B _ kx hs (by omega) (by omega) (.inl rfl)).mono ?_; rintro e w3 ⟨rfl, kx, g2⟩
        replace ky := ky.grown g2 (by simp)
        have hbC := hbB.grown g2 hbB.size (by intro k hk; cases hk; omega)
        clear hbB g2
        go_wp2_with fail
        refine (CTake_fail _ s false (A + B) _ ky hs (by omega) (by omega) (.inr (by unfold Num.getTake; rw [if_pos (.inr (by omega))]))).mono ?_; rintro e w4 ⟨rfl, ky, g2⟩
        replace kx := kx.grown g2 (by simp)
        have hbD := hbC.grown g2 hbC.size (by intro k hk; cases hk; omega)
        clear hbC g2
        have hx0 := kx.c0
        have hx1 := kx.c1
        have hy0 := ky.c0
        have hy1 := ky.c1
        go_wp2
        go_ret
        exact ⟨rfl, hbD⟩
      · have ha2 : A ≤ s.length := by omega
        clear ha
        go_enter Tryd.func9, Tryd.ntmps9
        go_wp2_with fail
        refine (works_any _).mono ?_; rintro e w1 ⟨rfl, b1⟩
        go_wp2_with fail
        have kx := (Cur.new w1 s false).alloc (.cells #[.string (bs s), .bool false] 32)
        have ky := Cur.newAt w1 (.cells #[.string (bs s), .bool false] 32) s false
        have hbA : Below w.heap.size w ((w1.alloc (.cells #[.string (bs s), .bool false] 32)).alloc (.cells #[.string (bs s), .bool false] 32)) := (b1.alloc b1.size _).alloc (by have := b1.size; simp; omega) _
        have hx := b1.size
        refine (CTake_some _ s A (s.take A) A (s.drop A) _ kx hs (by omega) (by omega) (by unfold Num.getTake; rw [if_neg (by omega), Int.toNat_natCast]) rfl).mono ?_; rintro e w2 ⟨rfl, kx, g2⟩
        replace ky := ky.grown g2 (by simp)
        have hbB := hbA.grown g2 (by simp; omega) (by intro k hk; cases hk; omega)
        clear hbA g2
        go_wp2_with fail
        refine (CTake_fail _ (s.drop A) false B _ kx (by simp; omega) (by omega) (by omega) (.inr (by unfold Num.getTake; rw [if_pos (.inr (by simp; omega))]))).mono ?_; rintro e w3 ⟨rfl, kx, g2⟩
        replace ky := ky.grown g2 (by simp)
        have hbC := hbB.grown g2 hbB.size (by intro k hk; cases hk; omega)
        clear hbB g2
        go_wp2_with fail
        refine (CTake_fail _ s false (A + B) _ ky hs (by omega) (by omega) (.inr (by unfold Num.getTake; rw [if_pos (.inr (by omega))]))).mono ?_; rintro e w4 ⟨rfl, ky, g2⟩
        replace kx := kx.grown g2 (by simp)
        have hbD := hbC.grown g2 hbC.size (by intro k hk; cases hk; omega)
        clear hbC g2
        have hx0 := kx.c0
        have hx1 := kx.c1
        have hy0 := ky.c0
        have hy1 := ky.c1
        go_wp2
        go_ret
        exact ⟨rfl, hbD⟩
    · have hab2 : A + B ≤ s.length := by omega
      clear hab
      go_enter Tryd.func9, Tryd.ntmps9
      go_wp2_with fail
      refine (works_any _).mono ?_; rintro e w1 ⟨rfl, b1⟩
      go_wp2_with fail
      have kx := (Cur.new w1 s false).alloc (.cells #[.string (bs s), .bool false] 32)
      have ky := Cur.newAt w1 (.cells #[.string (bs s), .bool false] 32) s false
      have hbA : Below w.heap.size w ((w1.alloc (.cells #[.string (bs s), .bool false] 32)).alloc (.cells #[.string (bs s), .bool false] 32)) := (b1.alloc b1.size _).alloc (by have := b1.size; simp; omega) _
      have hx := b1.size
      refine (CTake_some _ s A (s.take A) A (s.drop A) _ kx hs (by omega) (by omega) (by unfold Num.getTake; rw [if_neg (by omega), Int.toNat_natCast]) rfl).mono ?_; rintro e w2 ⟨rfl, kx, g2⟩
      replace ky := ky.grown g2 (by simp)
      have hbB := hbA.grown g2 (by simp; omega) (by intro k hk; cases hk; omega)
      clear hbA g2
      go_wp2_with fail
      refine (CTake_some _ (s.drop A) B ((s.drop A).take B) B (s.drop (A + B)) _ kx (by simp; omega) (by omega) (by omega) (by unfold Num.getTake; rw [if_neg (by simp; omega), Int.toNat_natCast]) (by rw [List.drop_drop])).mono ?_; rintro e w3 ⟨rfl, kx, g2⟩
      replace ky := ky.grown g2 (by simp)
      have hbC := hbB.grown g2 hbB.size (by intro k hk; cases hk; omega)
      clear hbB g2
      go_wp2_with fail
      refine (CTake_some _ s (A + B) (s.take (A + B)) (A + B) (s.drop (A + B)) _ ky hs (by omega) (by omega) (by unfold Num.getTake; rw [if_neg (by omega), show ((A : Int) + (B : Int)).toNat = A + B from by omega]) rfl).mono ?_; rintro e w4 ⟨rfl, ky, g2⟩
      replace kx := kx.grown g2 (by simp)
      have hbD := hbC.grown g2 hbC.size (by intro k hk; cases hk; omega)
      clear hbC g2
      have hj : bs (s.take A) ++ bs ((s.drop A).take B) = bs (s.take (A + B)) := by rw [bs_append, List.take_add]
      have hx0 := kx.c0
      have hx1 := kx.c1
      have hy0 := ky.c0
      have hy1 := ky.c1
      go_wp2
      go_ret
      exact ⟨rfl, hbD⟩
end Go.Proofs.YtaeoghbmncpnlaaDoor
