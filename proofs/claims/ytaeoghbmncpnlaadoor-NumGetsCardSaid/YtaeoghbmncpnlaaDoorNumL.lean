/- The walks of laws of num. -/
import Derived.Test.YtaeoghbmncpnlaaDoorNumW
import Derived.Test.YtaeoghbmncpnlaaDoorEnd
namespace Go.Proofs.YtaeoghbmncpnlaaDoor
open Go.RowKit
attribute [local go_sem] bs_toList bs_size

set_option maxRecDepth 100000 in
set_option maxHeartbeats 1000000 in
theorem NumZig_walk (a : Int) (w : World) (h1 : -9223372036854775808 ≤ a) (h2 : a ≤ 9223372036854775807) :
    Calls Tryd.prog 7 #[.int .i64 a] w fun e w' => e = .returned (.bool true) ∧ Below w.heap.size w w' := by
  have cZ := Lib.hid (fun W => num_Zig_any a W h1 h2)
  have hz0 : 0 ≤ Num.zigI a := (Num.zig_bd a h1 h2).1
  have hz1 : Num.zigI a < 18446744073709551616 := (Num.zig_bd a h1 h2).2
  by_cases h : 0 ≤ a
  · have e1 : (Num.zigI a % 2 == 0) = true := by unfold Num.zigI; simp [h]
    have e2 : (Num.zigI a / 2 == a) = true := by unfold Num.zigI; simp [h]
    go_enter Tryd.func7, Tryd.ntmps7
    go_wp2_with (first | (go_at_call 10; refine (works_any _).mono ?_; rintro e w1 ⟨rfl, b1⟩) | (go_at_call 19; refine (cZ.out _).mono ?_; rintro e wz ⟨rfl, rfl⟩))
    go_ret
    exact ⟨rfl, b1⟩
  · have e1 : (Num.zigI a % 2 == 1) = true := by unfold Num.zigI; rw [if_neg h, beq_iff_eq]; omega
    have e2 : (Num.zigI (-(a + 1)) == Num.zigI a - 1) = true := by unfold Num.zigI; rw [if_neg h, if_pos (by omega), beq_iff_eq]; omega
    have hz3 : 1 ≤ Num.zigI a := by unfold Num.zigI; rw [if_neg h]; omega
    have cY := Lib.hid (fun W => num_Zig_any (-(a + 1)) W (by omega) (by omega))
    go_enter Tryd.func7, Tryd.ntmps7
    go_wp2_with fail
    refine (works_any _).mono ?_; rintro e w1 ⟨rfl, b1⟩
    go_wp2_with fail
    refine (cZ.out _).mono ?_; rintro e wz ⟨rfl, rfl⟩
    go_wp2_with fail
    refine (cY.out _).mono ?_; rintro e wz ⟨rfl, rfl⟩
    go_wp2
    go_ret
    exact ⟨rfl, b1⟩

theorem below3 {a b c : World} (h : Below a.heap.size a b) (k : Below b.heap.size b c) : Below a.heap.size a c := h.trans (k.mono h.size)

set_option maxRecDepth 100000 in
set_option maxHeartbeats 1000000 in
theorem NumPuts_walk (n i : Int) (t : List UInt8) (k : Int) (w : World) (h1 : 0 ≤ n) (h2 : n < 18446744073709551616) (h3 : -9223372036854775808 ≤ i) (h4 : i ≤ 9223372036854775807) (h5 : t.length ≤ maxLen) (h6 : -9223372036854775808 ≤ k) (h7 : k ≤ 9223372036854775807) :
    Calls Tryd.prog 3 #[.int .u64 n, .int .i64 i, .string (bs t), .int .i64 k] w fun e w' => e = .returned (.bool true) ∧ Below w.heap.size w w' := by
  unfold maxLen at h5
  by_cases ht : 300 < t.length
  · go_enter Tryd.func3, Tryd.ntmps3
    go_wp2_with (go_at_call 10; refine (works_any _).mono ?_; rintro e w1 ⟨rfl, b1⟩)
    go_ret
    exact ⟨rfl, b1⟩
  · have ht' : t.length ≤ 1099511627776 := by omega
    go_enter Tryd.func3, Tryd.ntmps3
    go_wp2_with (first
      | (go_at_call 10; refine (works_any _).mono ?_; rintro e w1 ⟨rfl, b1⟩)
      | (go_at_call 11; refine (num_Small_any n _ h1 h2).mono ?_; rintro e w2 ⟨rfl, b2⟩)
      | (go_at_call 12; refine (ref_Small_any n _ h1 h2).mono ?_; rintro e w3 ⟨rfl, b3⟩)
      | (go_at_call 13; refine (num_Wide_any n _ h1 h2).mono ?_; rintro e w4 ⟨rfl, b4⟩)
      | (go_at_call 14; refine (ref_Wide_any n _ h1 h2).mono ?_; rintro e w5 ⟨rfl, b5⟩)
      | (go_at_call 15; refine (num_Text_any t _ ht').mono ?_; rintro e w6 ⟨rfl, b6⟩)
      | (go_at_call 16; refine (ref_Text_any t _ ht').mono ?_; rintro e w7 ⟨rfl, b7⟩)
      | (go_at_call 17; refine (num_Fixed_any t k _ ht' h6 h7).mono ?_; rintro e w8 ⟨rfl, b8⟩)
      | (go_at_call 18; refine (ref_Fixed_any t k _ ht' h6 h7).mono ?_; rintro e w9 ⟨rfl, b9⟩)
      | (go_at_call 19; refine (num_Zig_any i _ h3 h4).mono ?_; rintro e wz ⟨rfl, rfl⟩)
      | (go_at_call 20; refine (ref_Zig_any i _ h3 h4).mono ?_; rintro e wz ⟨rfl, rfl⟩)
      | (go_at_call 21; refine (num_Zag_any n _ h1 h2).mono ?_; rintro e wz ⟨rfl, rfl⟩)
      | (go_at_call 22; refine (ref_Zag_any n _ h1 h2).mono ?_; rintro e wz ⟨rfl, rfl⟩))
    go_ret
    exact ⟨rfl, below3 (below3 (below3 (below3 (below3 (below3 (below3 (below3 b1 b2) b3) b4) b5) b6) b7) b8) b9⟩

set_option maxRecDepth 100000 in
set_option maxHeartbeats 1000000 in
theorem NumSizes_walk (a b : Int) (t : List UInt8) (k : Int) (w : World) (h1 : 0 ≤ a) (h2 : a < 18446744073709551616) (h3 : 0 ≤ b) (h4 : b < 18446744073709551616) (h5 : t.length ≤ maxLen) (h6 : -9223372036854775808 ≤ k) (h7 : k ≤ 9223372036854775807) :
    Calls Tryd.prog 8 #[.int .u64 a, .int .u64 b, .string (bs t), .int .i64 k] w fun e w' => e = .returned (.bool true) ∧ Below w.heap.size w w' := by
  unfold maxLen at h5
  by_cases ht : 300 < t.length
  · go_enter Tryd.func8, Tryd.ntmps8
    go_wp2_with (go_at_call 10; refine (works_any _).mono ?_; rintro e w1 ⟨rfl, b1⟩)
    go_ret
    exact ⟨rfl, b1⟩
  · have ht' : t.length ≤ 1099511627776 := by omega
    have ha1 := (Num.small_len a.toNat).1
    have ha2 := (Num.small_len a.toNat).2
    have cSa := Lib.hid (fun W => num_Small_any a W h1 h2)
    have cSb := Lib.hid (fun W => num_Small_any b W h3 h4)
    have hw : (Num.wide a.toNat).length = 8 := Num.wide_len _
    have hf : ((Num.fixed t k).length : Int) = min (max k 0) 255 + 1 := by rw [Num.fixed_len]; unfold Num.szN Num.szI; omega
    have hfl : (Num.fixed t k).length = Num.szN k + 1 := Num.fixed_len t k
    by_cases hab : b < a
    · go_enter Tryd.func8, Tryd.ntmps8
      clear hfl
      go_wp2_with fail
      refine (works_any _).mono ?_; rintro e w1 ⟨rfl, b1⟩
      go_wp2_with fail
      refine (cSa.out _).mono ?_; rintro e w2 ⟨rfl, b2⟩
      go_wp2_with fail
      refine (cSb.out _).mono ?_; rintro e w3 ⟨rfl, b3⟩
      go_wp2_with (first
        | (go_at_call 13; refine (num_Wide_any a _ h1 h2).mono ?_; rintro e w4 ⟨rfl, b4⟩)
        | (go_at_call 17; refine (num_Fixed_any t k _ ht' h6 h7).mono ?_; rintro e w8 ⟨rfl, b8⟩))
      go_ret
      exact ⟨rfl, below3 (below3 (below3 (below3 b1 b2) b3) b4) b8⟩
    · have hm := Num.small_mono a.toNat b.toNat (by omega)
      have hb2 := (Num.small_len b.toNat).2
      go_enter Tryd.func8, Tryd.ntmps8
      clear hfl
      go_wp2_with fail
      refine (works_any _).mono ?_; rintro e w1 ⟨rfl, b1⟩
      go_wp2_with fail
      refine (cSa.out _).mono ?_; rintro e w2 ⟨rfl, b2⟩
      go_wp2_with fail
      refine (cSb.out _).mono ?_; rintro e w3 ⟨rfl, b3⟩
      go_wp2_with (first
        | (go_at_call 13; refine (num_Wide_any a _ h1 h2).mono ?_; rintro e w4 ⟨rfl, b4⟩)
        | (go_at_call 17; refine (num_Fixed_any t k _ ht' h6 h7).mono ?_; rintro e w8 ⟨rfl, b8⟩))
      go_ret
      exact ⟨rfl, below3 (below3 (below3 (below3 b1 b2) b3) b4) b8⟩
end Go.Proofs.YtaeoghbmncpnlaaDoor
