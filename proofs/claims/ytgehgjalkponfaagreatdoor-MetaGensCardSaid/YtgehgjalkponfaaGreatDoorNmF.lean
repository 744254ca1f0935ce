/- The walks of what a cursor takes: num.small, and the closures. -/
import Derived.Test.YtgehgjalkponfaaGreatDoorNmD
namespace Go.Proofs.YtgehgjalkponfaaGreatDoor
open Go.RowKit

def gval : Option (Nat × Nat) → Int | none => 0 | some (n, _) => n
def gcnt {α : Type} : Option (α × Nat) → Int | none => -1 | some (_, k) => k

/-- s[i] of a text that is a list. -/
theorem run_index_bs {P : Program} (t : TypeId) (h : P.underlying t = some .string) (l : List UInt8) (i : Nat) (b : UInt8) (hb : l[i]? = some b) (k : IntKind) (W : World) :
    (Instr.index t (.string (bs l)) (.int k (i : Int))).run P W = .ok (.int .u8 (b.toNat : Int)) W := by
  obtain ⟨hi, hb⟩ := List.getElem?_eq_some_iff.1 hb
  rw [run_index_string W t (bs l) k i h, dif_pos ⟨by omega, by rw [bs_size]; omega⟩]
  congr 3
  rw [bs_getElem]
  simp only [Int.toNat_natCast]
  rw [hb]

def GsRel (l : List UInt8) (vn vi : Value) : Prop :=
  ∃ (i acc : Nat), vi = .int .i64 (i : Int) ∧ vn = .int .u64 (acc : Int) ∧ i ≤ l.length ∧ i ≤ 10 ∧ acc < 128 ^ i ∧ acc < 18446744073709551616 ∧ Num.getSmall l = Num.gsF (10 - i) i acc (l.drop i)

theorem or7_bd (i b : Nat) (hi : i < 10) (h : i = 9 → b % 128 ≤ 1) : b % 128 * 128 ^ i < 18446744073709551616 := by
  rcases Nat.lt_or_ge i 9 with h9 | h9
  · have h1 : 128 ^ (i + 1) ≤ 128 ^ 9 := Nat.pow_le_pow_right (by omega) (by omega)
    have h2 : b % 128 ≤ 127 := by omega
    have h3 := Nat.mul_le_mul_right (128 ^ i) h2
    rw [Num.p128] at h1
    omega
  · obtain rfl : i = 9 := by omega
    have := h rfl
    have h3 := Nat.mul_le_mul_right (128 ^ 9) this
    omega
theorem or7 (i acc b : Nat) (hb : b < 256) (ha : acc < 128 ^ i) (hd : b % 128 * 128 ^ i < 18446744073709551616) (ha2 : acc < 18446744073709551616) :
    bits BinOp.or IntKind.u64 (acc : Int) (IntKind.u64.wrap (IntKind.u64.wrap (bits BinOp.andNot IntKind.u8 (b : Int) 128) * 2 ^ (7 * i))) = ((acc + b % 128 * 128 ^ i : Nat) : Int) := by
  have w (x : Int) : IntKind.u64.wrap x = x % 18446744073709551616 := by simp [IntKind.wrap, IntKind.bits, IntKind.signed]
  have e1 : bits BinOp.andNot IntKind.u8 (b : Int) 128 = ((b % 128 : Nat) : Int) := by
    rw [u8_andNot _ _ (by omega) (by omega) (by omega) (by omega)]
    simp only [Int.toNat_natCast]
    rw [show 255 - (128 : Int).toNat = 127 from rfl, nat_mask7]
  have e2 : (2 : Int) ^ (7 * i) = ((128 ^ i : Nat) : Int) := by
    rw [show (128 : Nat) ^ i = 2 ^ (7 * i) from by rw [Nat.pow_mul]]; simp
  have e3 : IntKind.u64.wrap (((b % 128 : Nat) : Int)) = ((b % 128 : Nat) : Int) := by rw [w]; omega
  have e4 : IntKind.u64.wrap (((b % 128 : Nat) : Int) * ((128 ^ i : Nat) : Int)) = ((b % 128 * 128 ^ i : Nat) : Int) := by
    rw [w, ← Int.natCast_mul]; omega
  rw [e1, e3, e2, e4, u64_or_nat _ _ ha2 hd, Nat.or_comm, nat_join (7 * i) (b % 128 * 128 ^ i) acc]
  · rw [Nat.add_comm]
  · rw [Nat.pow_mul, show (2 : Nat) ^ 7 = 128 from rfl]; exact Nat.mul_mod_left _ _
  · rw [Nat.pow_mul]; exact ha

set_option maxRecDepth 100000 in
set_option maxHeartbeats 400000 in
theorem num_small_any (l : List UInt8) (w : World) (hl : l.length ≤ 1099511627776) :
    Calls Tryz.prog 93 #[.string (bs l)] w fun e w' => e = .returned (.tuple #[.int .u64 (gval (Num.getSmall l)), .int .i64 (gcnt (Num.getSmall l))]) ∧ w = w' := by
  have hz := bs_size l
  go_enter Tryz.func93, Tryz.ntmps93
  go_wp2
  go_loop [4, 10] (fun vn vi => GsRel l vn vi) (fun _ vi => 10 - (intOf vi).toNat)
  case atStart => exact ⟨0, 0, rfl, rfl, by omega, by omega, by omega, by omega, rfl⟩
  case round =>
    obtain ⟨i, acc, rfl, rfl, hi, hi10, hacc, hacc2, hg⟩ := hrel
    have hm0 : (min (l.length : Int) 10) = ((min l.length 10 : Nat) : Int) := by omega
    by_cases hlt : i < min l.length 10
    · obtain ⟨b, hb⟩ : ∃ b, l[i]? = some b := ⟨l[i]'(by omega), List.getElem?_eq_getElem (by omega)⟩
      have hix := fun k W => run_index_bs (P := Tryz.prog) 9 Tryz.underlying9 l i b hb k W
      have hdrop : l.drop i = b :: l.drop (i + 1) := by
        rw [List.drop_eq_getElem_cons (by omega)]
        rw [List.getElem?_eq_getElem (by omega)] at hb
        simp at hb; rw [hb]
      have hbl : b.toNat < 256 := UInt8.toNat_lt b
      have e10 : 10 - i = (9 - i) + 1 := by omega
      rw [hdrop, e10, Num.gsF] at hg
      have hltI : (i : Int) < min (l.length : Int) 10 := by omega
      clear hb hdrop hm0 hz
      by_cases hbad : (i = 9 ∧ 1 < b.toNat) ∨ (0 < i ∧ b.toNat = 0)
      · rw [if_pos hbad] at hg
        have HG := Lib.hid hg
        have hcase : (((i : Int) == 9) = true ∧ (1 : Int) < (b.toNat : Int)) ∨ (((i : Int) == 9) = true ∧ ¬ (1 : Int) < (b.toNat : Int) ∧ (0 : Int) < (i : Int) ∧ ((b.toNat : Int) == 0) = true) ∨ (((i : Int) == 9) = false ∧ (0 : Int) < (i : Int) ∧ ((b.toNat : Int) == 0) = true) := by
          simp only [beq_eq_false_iff_ne, beq_iff_eq, ne_eq]; omega
        clear hg hbad e10
        rcases hcase with ⟨c1, c2⟩ | ⟨c1, c2, c3, c4⟩ | ⟨c1, c2, c3⟩
        all_goals go_wp2
        all_goals go_ret2
        all_goals exact ⟨by rw [HG.out]; rfl, rfl⟩
      · rw [if_neg hbad] at hg
        have HG := Lib.hid hg
        clear hg e10
        have hcase : (((i : Int) == 9) = false ∧ ¬ (0 : Int) < (i : Int)) ∨ (((i : Int) == 9) = false ∧ (0 : Int) < (i : Int) ∧ ((b.toNat : Int) == 0) = false) ∨ (((i : Int) == 9) = true ∧ ¬ (1 : Int) < (b.toNat : Int) ∧ (0 : Int) < (i : Int) ∧ ((b.toNat : Int) == 0) = false) := by
          simp only [beq_eq_false_iff_ne, beq_iff_eq, ne_eq]; omega
        have hd9 : b.toNat % 128 * 128 ^ i < 18446744073709551616 := or7_bd i b.toNat (by omega) (by omega)
        have hor := Lib.hid (or7 i acc b.toNat hbl hacc hd9 hacc2)
        have h9 : i = 9 → b.toNat ≤ 1 := by omega
        clear hbad
        by_cases h128 : b.toNat < 128
        · have hfin : Hid (Num.getSmall l = some (acc + b.toNat % 128 * 128 ^ i, i + 1)) := by
            show _ = _; rw [HG.out, if_pos h128, Nat.mod_eq_of_lt h128]
          clear hd9 HG h9
          rcases hcase with ⟨c1, c2⟩ | ⟨c1, c2, c3⟩ | ⟨c1, c2, c3, c4⟩
          all_goals go_wp2
          all_goals go_ret2
          all_goals exact ⟨by rw [hfin.out, gval, gcnt, ← hor.out]; rfl, rfl⟩
        · have hi8 : i + 1 ≤ 9 := by omega
          have hfin : Hid (Num.getSmall l = Num.gsF (10 - (i + 1)) (i + 1) (acc + b.toNat % 128 * 128 ^ i) (l.drop (i + 1))) := by
            show _ = _; rw [HG.out, if_neg h128, show b.toNat % 128 = b.toNat - 128 from by omega, show 10 - (i + 1) = 9 - i from by omega]
          have hacc' : acc + b.toNat % 128 * 128 ^ i < 128 ^ (i + 1) := by
            have : b.toNat % 128 ≤ 127 := by omega
            have := Nat.mul_le_mul_right (128 ^ i) this
            rw [Num.p128]; omega
          have hacc2' : acc + b.toNat % 128 * 128 ^ i < 18446744073709551616 := by
            have : 128 ^ (i + 1) ≤ 128 ^ 9 := Nat.pow_le_pow_right (by omega) hi8
            omega
          have HR := Lib.hid (show GsRel l (.int .u64 ((acc + b.toNat % 128 * 128 ^ i : Nat) : Int)) (.int .i64 ((i : Int) + 1)) from
            ⟨i + 1, _, rfl, rfl, by omega, by omega, hacc', hacc2', hfin.out⟩)
          clear hd9 HG hfin hacc' hacc2' h9
          rcases hcase with ⟨c1, c2⟩ | ⟨c1, c2, c3⟩ | ⟨c1, c2, c3, c4⟩
          all_goals go_wp2
          all_goals go_round
          all_goals first | (rw [hor.out]; exact HR.out) | (simp [intOf]; omega)
    · have hnone : Hid (Num.getSmall l = none) := by
        show _ = _
        rw [hg]
        rcases Nat.lt_or_ge i 10 with h | h
        · rw [List.drop_of_length_le (by omega), show 10 - i = (9 - i) + 1 from by omega]; rfl
        · rw [show 10 - i = 0 from by omega]; rfl
      have hge : min (l.length : Int) 10 ≤ (i : Int) := by omega
      clear hg hm0
      go_wp2
      go_ret2
      exact ⟨by rw [hnone.out]; rfl, rfl⟩
end Go.Proofs.YtgehgjalkponfaaGreatDoor
