/- The walks of the closures that take is handed. -/
import Derived.Test.YtgehgjalkponfaaGreatDoorNmG
namespace Go.Proofs.YtgehgjalkponfaaGreatDoor
open Go.RowKit

theorem unw_take_succ (l : List UInt8) (i : Nat) (b : UInt8) (h : l[i]? = some b) : Num.unw (l.take (i + 1)) = Num.unw (l.take i) + b.toNat * 256 ^ i := by
  induction l generalizing i with
  | nil => simp at h
  | cons c r ih =>
    cases i with
    | zero => simp at h; simp [Num.unw, h]
    | succ i =>
      have := ih i (by simpa using h)
      simp only [List.take_succ_cons, Num.unw] at *
      rw [this, Nat.pow_succ, Nat.mul_comm (256 ^ i) 256, ← Nat.mul_assoc, Nat.mul_comm b.toNat 256, Nat.mul_assoc, Nat.mul_add, Nat.add_assoc]
theorem or8 (i acc b : Nat) (hb : b < 256) (ha : acc < 256 ^ i) (hi : i < 8) :
    bits BinOp.or IntKind.u64 (acc : Int) (IntKind.u64.wrap ((b : Int) * 2 ^ (8 * i))) = ((acc + b * 256 ^ i : Nat) : Int) ∧ acc + b * 256 ^ i < 256 ^ (i + 1) := by
  have w (x : Int) : IntKind.u64.wrap x = x % 18446744073709551616 := by simp [IntKind.wrap, IntKind.bits, IntKind.signed]
  have e2 : (2 : Int) ^ (8 * i) = ((256 ^ i : Nat) : Int) := by
    rw [show (256 : Nat) ^ i = 2 ^ (8 * i) from by rw [Nat.pow_mul]]; simp
  have hp : 256 ^ (i + 1) ≤ 256 ^ 8 := Nat.pow_le_pow_right (by omega) (by omega)
  have hb' : b ≤ 255 := by omega
  have hm := Nat.mul_le_mul_right (256 ^ i) hb'
  rw [Nat.pow_succ] at hp
  have e4 : IntKind.u64.wrap ((b : Int) * ((256 ^ i : Nat) : Int)) = ((b * 256 ^ i : Nat) : Int) := by
    rw [w, ← Int.natCast_mul]; omega
  refine ⟨?_, by rw [Nat.pow_succ]; omega⟩
  rw [e2, e4, u64_or_nat _ _ (by omega) (by omega), Nat.or_comm, nat_join (8 * i) (b * 256 ^ i) acc]
  · rw [Nat.add_comm]
  · rw [Nat.pow_mul, show (2 : Nat) ^ 8 = 256 from rfl]; exact Nat.mul_mod_left _ _
  · rw [Nat.pow_mul]; exact ha

def GwRel (l : List UInt8) (vn vi : Value) : Prop := ∃ i : Nat, vi = .int .i64 (i : Int) ∧ vn = .int .u64 ((Num.unw (l.take i) : Nat) : Int) ∧ i ≤ 8

set_option maxRecDepth 100000 in
set_option maxHeartbeats 400000 in
theorem Wide1_any (l : List UInt8) (w : World) (hl : l.length ≤ 1099511627776) :
    Calls Tryz.prog 96 #[.string (bs l)] w fun e w' => e = .returned (.tuple #[.int .u64 (gval (Num.getWide l)), .int .i64 (gcnt (Num.getWide l))]) ∧ Below w.heap.size w w' := by
  have hz := bs_size l
  by_cases h8 : l.length < 8
  · have hn : Hid (Num.getWide l = none) := by show _ = _; unfold Num.getWide; rw [if_pos h8]
    go_enter Tryz.func96, Tryz.ntmps96
    go_wp2
    go_ret2
    exact ⟨by rw [hn.out]; rfl, Below.refl _ _⟩
  · have hn : Hid (Num.getWide l = some (Num.unw (l.take 8), 8)) := by show _ = _; unfold Num.getWide; rw [if_neg h8]
    have h8' : 8 ≤ l.length := by omega
    go_enter Tryz.func96, Tryz.ntmps96
    go_wp2
    go_loop [4, 9] (fun vn vi => GwRel l vn vi) (fun _ vi => 10 - (intOf vi).toNat)
    case atStart => exact ⟨0, rfl, rfl, by omega⟩
    case round =>
      obtain ⟨i, rfl, hvn, hi8⟩ := hrel
      by_cases hlt : i < 8
      · obtain ⟨b, hb⟩ : ∃ b, l[i]? = some b := ⟨l[i]'(by omega), List.getElem?_eq_getElem (by omega)⟩
        have hix := fun k W => run_index_bs (P := Tryz.prog) 9 Tryz.underlying9 l i b hb k W
        have hbl : b.toNat < 256 := UInt8.toNat_lt b
        have hu := unw_take_succ l i b hb
        have hlt' : Num.unw (l.take i) < 256 ^ i := by have := Num.unw_lt (l.take i); rwa [List.length_take_of_le (by omega)] at this
        have ho := or8 i (Num.unw (l.take i)) b.toNat hbl hlt' hlt
        rw [← hu] at ho
        have HR := Lib.hid (show GwRel l (.int .u64 ((Num.unw (l.take (i + 1)) : Nat) : Int)) (.int .i64 ((i : Int) + 1)) from ⟨i + 1, rfl, rfl, by omega⟩)
        generalize Num.unw (l.take (i + 1)) = y at ho HR
        generalize Num.unw (l.take i) = x at hvn ho
        have hor := Lib.hid ho.1
        subst hvn
        clear hb hu hlt' ho hz
        go_wp2
        go_round
        case rel => rw [hor.out]; exact HR.out
        case measure => simp [intOf]; omega
      · obtain rfl : i = 8 := by omega
        subst hvn
        go_wp2
        go_ret2
        exact ⟨by rw [hn.out]; rfl, Below.refl _ _⟩

set_option maxRecDepth 100000 in
set_option maxHeartbeats 400000 in
theorem Take1_any (l : List UInt8) (n : Int) (p : Addr) (w : World) (_hl : l.length ≤ 1099511627776) (hn1 : -9223372036854775808 ≤ n) (hn2 : n ≤ 9223372036854775807) (hp : w.cell? p = some (.int .i64 n)) :
    Calls Tryz.prog 95 #[.string (bs l), .pointer (some p)] w fun e w' => e = .returned (.tuple #[.string (bs (gsval (Num.getTake l n))), .int .i64 (gcnt (Num.getTake l n))]) ∧ Below w.heap.size w w' := by
  have hz := bs_size l
  by_cases h0 : n < 0
  · have hn : Hid (Num.getTake l n = none) := by show _ = _; unfold Num.getTake; rw [if_pos (.inl h0)]
    go_enter Tryz.func95, Tryz.ntmps95
    go_wp2
    go_ret2
    exact ⟨by rw [hn.out]; rfl, Below.refl _ _⟩
  · by_cases h1 : (l.length : Int) < n
    · have hn : Hid (Num.getTake l n = none) := by show _ = _; unfold Num.getTake; rw [if_pos (.inr h1)]
      go_enter Tryz.func95, Tryz.ntmps95
      go_wp2
      go_ret2
      exact ⟨by rw [hn.out]; rfl, Below.refl _ _⟩
    · obtain ⟨m, rfl⟩ := Int.eq_ofNat_of_zero_le (show 0 ≤ n by omega)
      have hn : Hid (Num.getTake l m = some (l.take m, m)) := by show _ = _; unfold Num.getTake; rw [if_neg (by omega)]; rfl
      have hx := Lib.hid (bs_extract l 0 m)
      have h0' : (0 : Int) ≤ (m : Int) := by omega
      have h1' : (m : Int) ≤ (l.length : Int) := by omega
      go_enter Tryz.func95, Tryz.ntmps95
      go_wp2
      go_quiet (fail)
      go_wp2
      go_ret2
      exact ⟨by rw [hn.out, hx.out]; rfl, (below_drewN (Below.refl _ _) _)⟩

theorem getSmall_bd (l : List UInt8) (n k : Nat) (h : Num.getSmall l = some (n, k)) : n < 18446744073709551616 ∧ k ≤ l.length ∧ k ≤ 10 ∧ 1 ≤ k := by
  obtain ⟨h1, h2, h3⟩ := Num.getSmall_only l n k h
  have := Num.small_len n
  refine ⟨h1, ?_, by omega, by omega⟩
  have := congrArg List.length h3
  simp at this; omega

end Go.Proofs.YtgehgjalkponfaaGreatDoor
