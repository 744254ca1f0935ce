/- A cursor's numbers, in plain words; shared by the layers that read by one. (The templates of layer 10 have these too: NmsC, WalC, RtA, RtB.) -/
import Derived.Test.YtgehgjalkponfaaGreatDoorFrmB
namespace Go.Proofs.YtgehgjalkponfaaGreatDoor
open Go.RowKit
attribute [local go_sem] bs_toList bs_size

abbrev CS := List UInt8 × Bool
def sV (c : CS) : Int := if c.2 then 0 else gval (Num.getSmall c.1)
def sN (c : CS) : CS := Num.nxt c (Num.getSmall c.1)
def wV (c : CS) : Int := if c.2 then 0 else gval (Num.getWide c.1)
def wN (c : CS) : CS := Num.nxt c (Num.getWide c.1)
theorem CSm (g : Nat) (c : CS) (w : World) (hB : Cur w g c.1 c.2) (hs : c.1.length ≤ 1099511627776) :
    Calls Tryz.prog 59 #[.pointer (some ⟨g, 0, none⟩)] w fun e w' => e = .returned (.int .u64 (sV c)) ∧ Cur w' g (sN c).1 (sN c).2 ∧ w.grownBy w' (some g) := CSmall g c.1 c.2 w hB hs
theorem CWd (g : Nat) (c : CS) (w : World) (hB : Cur w g c.1 c.2) (hs : c.1.length ≤ 1099511627776) :
    Calls Tryz.prog 63 #[.pointer (some ⟨g, 0, none⟩)] w fun e w' => e = .returned (.int .u64 (wV c)) ∧ Cur w' g (wN c).1 (wN c).2 ∧ w.grownBy w' (some g) := CWide g c.1 c.2 w hB hs
theorem nxt_len {α : Type} (c : CS) (g : Option (α × Nat)) : (Num.nxt c g).1.length ≤ c.1.length := by
  unfold Num.nxt
  split
  · exact Nat.le_refl _
  · cases g with
    | none => exact Nat.le_refl _
    | some x => simp
theorem sN_len (c : CS) : (sN c).1.length ≤ c.1.length := nxt_len c _
theorem wN_len (c : CS) : (wN c).1.length ≤ c.1.length := nxt_len c _
theorem sV_nat (c : CS) : ∃ n : Nat, sV c = n ∧ n < 18446744073709551616 := by
  unfold sV
  split
  · exact ⟨0, rfl, by omega⟩
  · cases h : Num.getSmall c.1 with
    | none => exact ⟨0, rfl, by omega⟩
    | some x =>
      obtain ⟨n, k⟩ := x
      exact ⟨n, rfl, (Num.getSmall_only _ _ _ h).1⟩
theorem wV_nat (c : CS) : ∃ n : Nat, wV c = n ∧ n < 18446744073709551616 := by
  unfold wV
  split
  · exact ⟨0, rfl, by omega⟩
  · cases h : Num.getWide c.1 with
    | none => exact ⟨0, rfl, by omega⟩
    | some x =>
      obtain ⟨n, k⟩ := x
      exact ⟨n, rfl, (Num.getWide_only _ _ _ h).1⟩
theorem sV_small (n : Nat) (r : List UInt8) (h : n < 18446744073709551616) : sV (Num.small n ++ r, false) = n := by
  unfold sV
  rw [if_neg (by simp), Num.getSmall_small n h r]
  rfl
theorem sN_small (n : Nat) (r : List UInt8) (h : n < 18446744073709551616) : sN (Num.small n ++ r, false) = (r, false) := by
  unfold sN
  rw [Num.getSmall_small n h r]
  simp [Num.nxt]
theorem wV_wide (n : Nat) (r : List UInt8) (h : n < 18446744073709551616) : wV (Num.wide n ++ r, false) = n := by
  unfold wV
  rw [if_neg (by simp), Num.getWide_wide n h r]
  rfl
theorem wN_wide (n : Nat) (r : List UInt8) (h : n < 18446744073709551616) : wN (Num.wide n ++ r, false) = (r, false) := by
  unfold wN
  rw [Num.getWide_wide n h r]
  have : (Num.wide n).length = 8 := Num.wide_len n
  simp [Num.nxt, this]
def u64N (t : Int) : Nat := (t % 18446744073709551616).toNat
theorem u64N_wrap (t : Int) : IntKind.u64.wrap t = (u64N t : Int) := by
  simp only [IntKind.wrap, IntKind.bits, IntKind.signed, u64N]
  simp
  omega
theorem u64N_lt (t : Int) : u64N t < 18446744073709551616 := by unfold u64N; omega

theorem frameGet_put (b r : List UInt8) (m : Nat) (h : b.length ≤ m) (hm : m ≤ 1000000) : frameGet (framePut b ++ r) m = (b, r, 0) := by
  have e : framePut b = Num.small b.length ++ (b ++ tailB (Num.text b)) := by
    unfold framePut checkedB Num.text
    rw [List.append_assoc]
  have hk := Num.small_len b.length
  unfold frameGet
  have hg : Num.getSmall (framePut b ++ r) = some (b.length, (Num.small b.length).length) := by
    rw [e, List.append_assoc]
    exact Num.getSmall_small _ (by omega) _
  rw [hg]
  simp only
  have hd : (framePut b ++ r).drop (Num.small b.length).length = b ++ (tailB (Num.text b) ++ r) := by
    rw [e, List.append_assoc, List.drop_left' rfl, List.append_assoc]
  have hl : (framePut b).length = (Num.small b.length).length + b.length + 4 := by
    unfold framePut
    rw [checkedB_len, Num.text_len]
  rw [if_neg (by omega), hd, if_neg (by simp [tailB_len]), List.take_append_of_le_length (by omega), List.take_of_length_le (by omega)]
  rw [show goodB (framePut b) = some (Num.text b) from goodB_tail _, if_pos (by rfl), List.take_left' rfl, List.drop_left' hl]
end Go.Proofs.YtgehgjalkponfaaGreatDoor
