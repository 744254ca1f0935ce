/- The walks of what the reference takes. -/
import Derived.Test.YtaeoghbmncpnlaaDoorNumJ
namespace Go.Proofs.YtaeoghbmncpnlaaDoor
open Go.RowKit

/-- What the reference's GetSmall, GetWide answer. -/
def refN (l : List UInt8) : Option (Nat × Nat) → Value
  | none => .tuple #[.int .u64 0, .string (bs l), .bool false]
  | some (n, k) => .tuple #[.int .u64 (n : Int), .string (bs (l.drop k)), .bool true]
def refS (l : List UInt8) : Option (List UInt8 × Nat) → Value
  | none => .tuple #[.string ⟨#[]⟩, .string (bs l), .bool false]
  | some (t, k) => .tuple #[.string (bs t), .string (bs (l.drop k)), .bool true]

def RGwRel (l : List UInt8) (vn vi : Value) : Prop := ∃ i : Nat, vi = .int .i64 ((i : Int) - 1) ∧ vn = .int .u64 ((Num.unw ((l.take 8).drop i) : Nat) : Int) ∧ i ≤ 8

set_option maxRecDepth 100000 in
set_option maxHeartbeats 400000 in
theorem ref_GetWide_any (l : List UInt8) (w : World) (hl : l.length ≤ 1099511627776) :
    Calls Tryd.prog 26 #[.string (bs l)] w fun e w' => e = .returned (refN l (Num.getWide l)) ∧ Below w.heap.size w w' := by
  have hz := bs_size l
  by_cases h8 : l.length < 8
  · have hn : Hid (Num.getWide l = none) := by show _ = _; unfold Num.getWide; rw [if_pos h8]
    go_enter Tryd.func26, Tryd.ntmps26
    go_wp2
    go_ret3
    exact ⟨by rw [hn.out]; rfl, Below.refl _ _⟩
  · have hn : Hid (Num.getWide l = some (Num.unw (l.take 8), 8)) := by show _ = _; unfold Num.getWide; rw [if_neg h8]
    have h8' : 8 ≤ l.length := by omega
    go_enter Tryd.func26, Tryd.ntmps26
    go_wp2
    go_loop [5, 6] (fun vn vi => RGwRel l vn vi) (fun _ vi => (intOf vi + 1).toNat)
    case atStart => exact ⟨8, rfl, by simp [Num.unw], by omega⟩
    case round =>
      obtain ⟨i, rfl, hvn, hi8⟩ := hrel
      cases i with
      | zero =>
        have hx : (bs l).extract 8 l.length = bs (l.drop 8) := by rw [bs_extract, List.take_of_length_le (by simp)]
        have hv : Hid (Num.unw ((l.take 8).drop 0) = Num.unw (l.take 8)) := rfl
        subst hvn
        go_wp2
        go_quiet (fail)
        go_wp2
        go_ret3
        exact ⟨by rw [hn.out]; rfl, below_drewN (Below.refl _ _) _⟩
      | succ i =>
        obtain ⟨b, hb⟩ : ∃ b, l[i]? = some b := ⟨l[i]'(by omega), List.getElem?_eq_getElem (by omega)⟩
        have hix := fun k W => run_index_bs (P := Tryd.prog) 9 Tryd.underlying9 l i b hb k W
        have hbl : b.toNat < 256 := UInt8.toNat_lt b
        have hu : Num.unw ((l.take 8).drop i) = b.toNat + 256 * Num.unw ((l.take 8).drop (i + 1)) := by
          have hlen : i < (l.take 8).length := by simp; omega
          rw [List.drop_eq_getElem_cons hlen]
          have : (l.take 8)[i] = b := by
            rw [List.getElem_take]
            rw [List.getElem?_eq_getElem (by omega)] at hb
            simpa using hb
          rw [this]; rfl
        have hlt' : Num.unw ((l.take 8).drop (i + 1)) < 256 ^ (7 - i) := by
          have := Num.unw_lt ((l.take 8).drop (i + 1))
          rwa [List.length_drop, List.length_take_of_le (by omega), show 8 - (i + 1) = 7 - i from by omega] at this
        have hp : 256 ^ (7 - i) ≤ 256 ^ 7 := Nat.pow_le_pow_right (by omega) (by omega)
        have HR := Lib.hid (show RGwRel l (.int .u64 ((Num.unw ((l.take 8).drop i) : Nat) : Int)) (.int .i64 ((i : Int) - 1)) from ⟨i, rfl, rfl, by omega⟩)
        have hx : ((i + 1 : Nat) : Int) - 1 = (i : Int) := by omega
        rw [hx]
        have hb2 : ((Num.unw ((l.take 8).drop (i + 1)) : Nat) : Int) ≤ 72057594037927935 := by omega
        have hb1 : 0 ≤ ((Num.unw ((l.take 8).drop (i + 1)) : Nat) : Int) := by omega
        have hy : Hid (((Num.unw ((l.take 8).drop i) : Nat) : Int) = ((Num.unw ((l.take 8).drop (i + 1)) : Nat) : Int) * 256 + (b.toNat : Int)) := by show _ = _; omega
        generalize ((Num.unw ((l.take 8).drop i) : Nat) : Int) = y at HR hy
        generalize ((Num.unw ((l.take 8).drop (i + 1)) : Nat) : Int) = x at hvn hb2 hb1 hy
        subst hvn
        clear hb hu hlt' hp hz hx
        go_wp2
        go_round
        case rel => rw [← hy.out]; exact HR.out
        case measure => simp [intOf]

set_option maxRecDepth 100000 in
set_option maxHeartbeats 400000 in
theorem ref_GetTake_any (l : List UInt8) (n : Int) (w : World) (_hl : l.length ≤ 1099511627776) (hn1 : -9223372036854775808 ≤ n) (hn2 : n ≤ 9223372036854775807) :
    Calls Tryd.prog 32 #[.string (bs l), .int .i64 n] w fun e w' => e = .returned (refS l (Num.getTake l n)) ∧ Below w.heap.size w w' := by
  have hz := bs_size l
  by_cases h0 : n < 0
  · have hn : Hid (Num.getTake l n = none) := by show _ = _; unfold Num.getTake; rw [if_pos (.inl h0)]
    go_enter Tryd.func32, Tryd.ntmps32
    go_wp2
    go_ret3
    exact ⟨by rw [hn.out]; rfl, Below.refl _ _⟩
  · by_cases h1 : (l.length : Int) < n
    · have hn : Hid (Num.getTake l n = none) := by show _ = _; unfold Num.getTake; rw [if_pos (.inr h1)]
      go_enter Tryd.func32, Tryd.ntmps32
      go_wp2
      go_ret3
      exact ⟨by rw [hn.out]; rfl, Below.refl _ _⟩
    · obtain ⟨m, rfl⟩ := Int.eq_ofNat_of_zero_le (show 0 ≤ n by omega)
      have hn : Hid (Num.getTake l m = some (l.take m, m)) := by show _ = _; unfold Num.getTake; rw [if_neg (by omega)]; rfl
      have hx : (bs l).extract 0 m = bs (l.take m) := by rw [bs_extract]; simp
      have hx2 : (bs l).extract m l.length = bs (l.drop m) := by rw [bs_extract, List.take_of_length_le (by simp)]
      have h0' : (0 : Int) ≤ (m : Int) := by omega
      have h1' : (m : Int) ≤ (l.length : Int) := by omega
      go_enter Tryd.func32, Tryd.ntmps32
      go_wp2
      go_quiet (fail)
      go_wp2
      go_ret3
      exact ⟨by rw [hn.out]; rfl, (below_drewN (Below.refl _ _) _)⟩
end Go.Proofs.YtaeoghbmncpnlaaDoor
