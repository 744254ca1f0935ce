/- The walks of the small functions of num and of its reference that only compute. -/
import Derived.Test.YtgehgjalkponfaaGreatDoorChecked
import Derived.Test.YtgehgjalkponfaaGreatDoorGen
import Derived.Test.YtgehgjalkponfaaGreatDoorNumPlain
namespace Go.Proofs.YtgehgjalkponfaaGreatDoor
open Go.RowKit

theorem ret_int {k : IntKind} {a b : Int} (h : a = b) : Ending.returned (.int k a) = .returned (.int k b) := by rw [h]

theorem not_nat (a : Nat) (h : a < 18446744073709551616) : a ^^^ 18446744073709551615 = 18446744073709551615 - a := by
  have e : (BitVec.ofNat 64 a ^^^ BitVec.allOnes 64).toNat = (~~~ BitVec.ofNat 64 a).toNat := by rw [BitVec.xor_allOnes]
  rw [BitVec.toNat_xor, BitVec.toNat_not, BitVec.toNat_allOnes, BitVec.toNat_ofNat, Nat.mod_eq_of_lt (by simpa using h)] at e
  simpa using e
theorem zig_bits (n : Int) (h1 : -9223372036854775808 ≤ n) (h2 : n ≤ 9223372036854775807) :
    bits BinOp.xor IntKind.u64 (IntKind.u64.wrap (IntKind.u64.wrap n * 2)) (IntKind.u64.wrap (n / 9223372036854775808)) = Num.zigI n := by
  have w (x : Int) : IntKind.u64.wrap x = x % 18446744073709551616 := by simp [IntKind.wrap, IntKind.bits, IntKind.signed]
  rw [u64_xor _ _ (by rw [w]; omega) (by rw [w]; omega) (by rw [w]; omega) (by rw [w]; omega)]
  simp only [w]
  unfold Num.zigI
  by_cases h : 0 ≤ n
  · have e : n / 9223372036854775808 = 0 := by omega
    rw [if_pos h, e]
    simp; omega
  · have e : n / 9223372036854775808 % 18446744073709551616 = 18446744073709551615 := by omega
    rw [if_neg h, e]
    have e2 : (18446744073709551615 : Int).toNat = 18446744073709551615 := rfl
    rw [e2, not_nat _ (by omega)]
    omega

set_option maxHeartbeats 400000 in
theorem num_Zig_any (n : Int) (w : World) (h1 : -9223372036854775808 ≤ n) (h2 : n ≤ 9223372036854775807) :
    Calls Tryz.prog 26 #[.int .i64 n] w fun e w' => e = .returned (.int .u64 (Num.zigI n)) ∧ w = w' := by
  have hb := Lib.hid (zig_bits n h1 h2)
  go_enter Tryz.func26, Tryz.ntmps26
  go_wp2
  go_ret
  exact ⟨ret_int hb.out, rfl⟩

theorem zag_bits (n : Int) (h1 : 0 ≤ n) (h2 : n < 18446744073709551616) :
    bits BinOp.xor IntKind.i64 (n / 2) (wrap64 (-wrap64 (bits BinOp.and IntKind.u64 n 1))) = Num.zagI n := by
  have e1 : bits BinOp.and IntKind.u64 n 1 = n % 2 := by
    rw [u64_and _ _ h1 h2 (by omega) (by omega), show (1 : Int).toNat = 1 from rfl, nat_mask1]; omega
  rw [e1]
  have hx : (BitVec.ofInt 64 (n / 2)).toNat = (n / 2).toNat := by
    rw [BitVec.toNat_ofInt]; simp; omega
  unfold Num.zagI
  by_cases h : n % 2 = 0
  · rw [if_pos h, h]
    have e2 : wrap64 (-wrap64 0) = 0 := by decide +kernel
    rw [e2]
    show IntKind.i64.wrap ((BitVec.ofInt 64 (n / 2) ^^^ BitVec.ofInt 64 0).toNat : Int) = _
    rw [show BitVec.ofInt 64 0 = 0#64 from by decide, BitVec.xor_zero, hx, IntKind.wrap_i64]
    omega
  · have h' : n % 2 = 1 := by omega
    rw [if_neg h, h']
    have e2 : wrap64 (-wrap64 1) = -1 := by decide +kernel
    rw [e2]
    show IntKind.i64.wrap ((BitVec.ofInt 64 (n / 2) ^^^ BitVec.ofInt 64 (-1)).toNat : Int) = _
    rw [show BitVec.ofInt 64 (-1) = BitVec.allOnes 64 from by decide, BitVec.xor_allOnes, BitVec.toNat_not, hx, IntKind.wrap_i64]
    simp
    omega

set_option maxHeartbeats 400000 in
theorem num_Zag_any (n : Int) (w : World) (h1 : 0 ≤ n) (h2 : n < 18446744073709551616) :
    Calls Tryz.prog 64 #[.int .u64 n] w fun e w' => e = .returned (.int .i64 (Num.zagI n)) ∧ w = w' := by
  have hb := Lib.hid (zag_bits n h1 h2)
  go_enter Tryz.func64, Tryz.ntmps64
  go_wp2
  go_ret
  exact ⟨ret_int hb.out, rfl⟩

end Go.Proofs.YtgehgjalkponfaaGreatDoor
