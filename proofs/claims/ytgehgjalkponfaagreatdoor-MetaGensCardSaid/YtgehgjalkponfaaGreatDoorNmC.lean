/- The walks of num.Wide and of the reference's; of Text. -/
import Derived.Test.YtgehgjalkponfaaGreatDoorNmB
namespace Go.Proofs.YtgehgjalkponfaaGreatDoor
open Go.RowKit

theorem wideF_snoc (k n : Nat) : Num.wideF (k + 1) n = Num.wideF k n ++ [UInt8.ofNat (n / 256 ^ k % 256)] := by
  induction k generalizing n with
  | zero => simp [Num.wideF]
  | succ k ih =>
    rw [Num.wideF, ih (n / 256)]
    simp only [Num.wideF, List.cons_append, Nat.div_div_eq_div_mul]
    rw [Nat.pow_succ, Nat.mul_comm 256]

theorem pow8 (n : Int) (h : 0 ≤ n) (k : Nat) : n / 2 ^ (8 * k) % 256 = ((n.toNat / 256 ^ k % 256 : Nat) : Int) := by
  obtain ⟨m, rfl⟩ := Int.eq_ofNat_of_zero_le h
  have e : (2 : Int) ^ (8 * k) = ((256 ^ k : Nat) : Int) := by
    rw [show (256 : Nat) ^ k = 2 ^ (8 * k) from by rw [Nat.pow_mul]]
    simp
  rw [Int.toNat_natCast, e, Int.natCast_emod, Int.natCast_ediv]
  rfl

def WideRel (n : Int) (w : World) (vi : Value) (wr : World) : Prop :=
  ∃ (k : Nat), vi = .int .i64 (k : Nat) ∧ k ≤ 8 ∧ wr = w.alloc (.cells (arrV 8 (Num.wideF k n.toNat)) 101)

set_option maxRecDepth 100000 in
set_option maxHeartbeats 400000 in
theorem num_Wide_any (n : Int) (w : World) (h1 : 0 ≤ n) (_h2 : n < 18446744073709551616) :
    Calls Tryz.prog 49 #[.int .u64 n] w fun e w' => e = .returned (.string (bs (Num.wide n.toNat))) ∧ Below w.heap.size w w' := by
  go_enter Tryz.func49, Tryz.ntmps49
  go_wp2
  go_loopw [5] (fun vi wr => WideRel n w vi wr) (fun vi _ => 10 - (intOf vi).toNat)
  case atStart => exact ⟨0, rfl, by omega, rfl⟩
  case round =>
    obtain ⟨k, rfl, hk8, rfl⟩ := hrel
    by_cases hlt : k < 8
    · have ha : (arrV 8 (Num.wideF k n.toNat))[k]? = some (.int .u8 0) := by
        have := arrV_next 8 (Num.wideF k n.toNat) (by rw [Num.wideF_len]; omega)
        rw [Num.wideF_len] at this; exact this
      have hset : Hid (∀ wr, wr = w.alloc (.cells ((arrV 8 (Num.wideF k n.toNat)).setIfInBounds k (.int .u8 (n / 2 ^ (8 * k) % 256))) 101) → WideRel n w (.int .i64 ((k : Int) + 1)) wr) := by
        rintro wr rfl
        refine ⟨k + 1, rfl, by omega, ?_⟩
        have := arrV_set 8 (Num.wideF k n.toNat) (by rw [Num.wideF_len]; omega) (UInt8.ofNat (n.toNat / 256 ^ k % 256))
        rw [Num.wideF_len] at this
        rw [wideF_snoc, ← this, Num.ofNat_toNat _ (by omega), pow8 n h1 k]
      go_wp2
      go_roundw
      case rel => exact hset.out _ rfl
      case measure => simp [intOf]; omega
    · obtain rfl : k = 8 := by omega
      have hs := fun W => run_sliceAt_all (P := Tryz.prog) 101 5 8 1 Tryz.underlying101 (by kernel_rfl) w.heap.size W
      have hc := run_conv_arr (P := Tryz.prog) 76 9 5 Tryz.underlying76 Tryz.underlying5 Tryz.underlying9 8 8 (Num.wideF 8 n.toNat) 101 w
      rw [Num.wideF_len] at hc
      go_wp2
      go_ret
      exact ⟨rfl, (Below.refl _ _).alloc (Nat.le_refl _) _⟩

def RWideRel (n : Int) (w : World) (vn vb vi : Value) (wr : World) : Prop :=
  ∃ (k : Nat), vi = .int .i64 (k : Nat) ∧ vn = .int .u64 ((n.toNat / 256 ^ k : Nat) : Int) ∧ k ≤ 8 ∧ OwnB wr w.heap.size 5 vb (Num.wideF k n.toNat) ∧ Below w.heap.size w wr

set_option maxRecDepth 100000 in
set_option maxHeartbeats 400000 in
theorem num_Text_any (t : List UInt8) (w : World) (h1 : t.length ≤ 1099511627776) :
    Calls Tryz.prog 52 #[.string (bs t)] w fun e w' => e = .returned (.string (bs (Num.text t))) ∧ Below w.heap.size w w' := by
  have hs := Num.small_len t.length
  have hz := Lib.hid (bs_size t)
  have hz2 := bs_size (Num.small t.length)
  have hz1 : (bs t).size ≤ 1099511627776 := by rw [hz.out]; exact h1
  have hc := Lib.hid (bs_append (Num.small t.length) t)
  have hsz : (bs (Num.small t.length)).size ≤ 10 := by omega
  clear hz2 hs
  go_enter Tryz.func52, Tryz.ntmps52
  go_wp2_with (go_at_call 25; refine (num_Small_any _ _ (by omega) (by omega)).mono ?_; rw [Int.toNat_natCast, hz.out]; rintro e w' ⟨rfl, hb⟩)
  go_ret
  exact ⟨by rw [hc.out]; rfl, hb⟩

end Go.Proofs.YtgehgjalkponfaaGreatDoor
