/- The check of bytes: Of, Tail, Good. -/
import Derived.Test.YtgehgjalkponfaaGreatDoorCrcA
namespace Go.Proofs.YtgehgjalkponfaaGreatDoor
open Go.RowKit
attribute [local go_sem] bs_toList bs_size

theorem crcOn_lt (c : Nat) (l : List UInt8) : crcOn c l < 4294967296 := by
  unfold crcOn
  omega
/-- The check as bytes. -/
def tailB (l : List UInt8) : List UInt8 := Num.wideF 4 (crcOn 0 l)
theorem tailB_len (l : List UInt8) : (tailB l).length = 4 := Num.wideF_len 4 _
/-- Bytes without their check, if it is right. -/
def goodB (s : List UInt8) : Option (List UInt8) := if s.length < 4 then none else if tailB (s.take (s.length - 4)) = s.drop (s.length - 4) then some (s.take (s.length - 4)) else none
theorem goodB_tail (b : List UInt8) : goodB (b ++ tailB b) = some b := by
  unfold goodB
  have h : (b ++ tailB b).length - 4 = b.length := by simp [tailB_len]
  rw [if_neg (by simp [tailB_len]), h, List.take_left' rfl, List.drop_left' rfl, if_pos rfl]
theorem goodB_some {s b : List UInt8} (h : goodB s = some b) : s = b ++ tailB b := by
  unfold goodB at h
  split at h
  · cases h
  split at h
  · obtain rfl := Option.some.inj h
    rename_i e
    rw [e, List.take_append_drop]
  · cases h

set_option maxRecDepth 100000 in
theorem Of_any (l : List UInt8) (hl : l.length ≤ 1099511627776) (w : World) :
    Calls Tryz.prog 110 #[.string (bs l)] w fun e w' => e = .returned (.int .u32 (crcOn 0 l : Int)) ∧ Below w.heap.size w w' := by
  have q := Lib.hid (show Calls Tryz.prog 130 #[.int .u32 0, .string (bs l)] w _ from On_any 0 l (by omega) hl w)
  go_enter Tryz.func110, Tryz.ntmps110
  go_wp2_with fail
  refine q.out.mono ?_
  rintro e w1 ⟨rfl, hb⟩
  go_wp2
  go_ret
  exact ⟨rfl, hb⟩

def TailRel (n : Int) (w1 : World) (vi : Value) (wr : World) : Prop :=
  ∃ (k : Nat), vi = .int .i64 (k : Nat) ∧ k ≤ 4 ∧ wr = w1.alloc (.cells (arrV 4 (Num.wideF k n.toNat)) 135)

set_option maxRecDepth 100000 in
set_option maxHeartbeats 400000 in
theorem Tail_any (l : List UInt8) (hl : l.length ≤ 1099511627776) (w : World) :
    Calls Tryz.prog 79 #[.string (bs l)] w fun e w' => e = .returned (.string (bs (tailB l))) ∧ Below w.heap.size w w' := by
  have q := Lib.hid (Of_any l hl w)
  have HT := Lib.hid (show tailB l = Num.wideF 4 (crcOn 0 l) from rfl)
  go_enter Tryz.func79, Tryz.ntmps79
  go_wp2_with fail
  refine q.out.mono ?_
  rintro e w1 ⟨rfl, hb⟩
  have h1 : (0 : Int) ≤ (crcOn 0 l : Int) := by omega
  have HT2 := Lib.hid (show tailB l = Num.wideF 4 (crcOn 0 l : Int).toNat from HT.out)
  generalize hn : ((crcOn 0 l : Nat) : Int) = n at *
  go_wp2_with fail
  go_loopw [8] (fun vi wr => TailRel n w1 vi wr) (fun vi _ => 10 - (intOf vi).toNat)
  case atStart => exact ⟨0, rfl, by omega, rfl⟩
  obtain ⟨k, rfl, hk8, rfl⟩ := hrel
  by_cases hlt : k < 4
  · have ha : (arrV 4 (Num.wideF k n.toNat))[k]? = some (.int .u8 0) := by
      have := arrV_next 4 (Num.wideF k n.toNat) (by rw [Num.wideF_len]; omega)
      rw [Num.wideF_len] at this; exact this
    have hset : Hid (∀ wr, wr = w1.alloc (.cells ((arrV 4 (Num.wideF k n.toNat)).setIfInBounds k (.int .u8 (n / 2 ^ (8 * k) % 256))) 135) → TailRel n w1 (.int .i64 ((k : Int) + 1)) wr) := by
      rintro wr rfl
      refine ⟨k + 1, rfl, by omega, ?_⟩
      have := arrV_set 4 (Num.wideF k n.toNat) (by rw [Num.wideF_len]; omega) (UInt8.ofNat (n.toNat / 256 ^ k % 256))
      rw [Num.wideF_len] at this
      rw [wideF_snoc, ← this, Num.ofNat_toNat _ (by omega), pow8 n h1 k]
    go_wp2_with fail
    go_roundw
    case rel => exact hset.out _ rfl
    case measure => simp [intOf]; omega
  · obtain rfl : k = 4 := by omega
    have hs := fun W => run_sliceAt_all (P := Tryz.prog) 135 5 4 1 Tryz.underlying135 (by kernel_rfl) w1.heap.size W
    have hc := run_conv_arr (P := Tryz.prog) 76 9 5 Tryz.underlying76 Tryz.underlying5 Tryz.underlying9 4 4 (Num.wideF 4 n.toNat) 135 w1
    rw [Num.wideF_len] at hc
    go_wp2
    go_ret
    exact ⟨by rw [HT2.out]; rfl, hb.alloc hb.size _⟩

def goodV (s : List UInt8) : Value := match goodB s with
  | none => .tuple #[.string ⟨#[]⟩, .bool false]
  | some b => .tuple #[.string (bs b), .bool true]
set_option maxRecDepth 100000 in
set_option maxHeartbeats 400000 in
theorem Good_any (s : List UInt8) (hl : s.length ≤ 1099511627776) (w : World) :
    Calls Tryz.prog 58 #[.string (bs s)] w fun e w' => e = .returned (goodV s) ∧ Below w.heap.size w w' := by
  by_cases h4 : s.length < 4
  · have HG := Lib.hid (show goodV s = .tuple #[.string ⟨#[]⟩, .bool false] by unfold goodV goodB; rw [if_pos h4])
    go_enter Tryz.func58, Tryz.ntmps58
    go_wp2
    go_ret2
    exact ⟨by rw [HG.out]; rfl, Below.refl _ _⟩
  · have hw : IntKind.i64.wrap ((s.length : Int) - 4) = ((s.length - 4 : Nat) : Int) := by simp [IntKind.wrap, IntKind.bits, IntKind.signed]; omega
    have he1 : (bs s).extract 0 (s.length - 4) = bs (s.take (s.length - 4)) := by
      rw [bs_extract, List.drop_zero, Nat.sub_zero]
    have he2 : (bs s).extract (s.length - 4) s.length = bs (s.drop (s.length - 4)) := by
      rw [bs_extract, List.take_of_length_le (by simp)]
    have HG1 := Lib.hid (show tailB (s.take (s.length - 4)) = s.drop (s.length - 4) → goodV s = .tuple #[.string (bs (s.take (s.length - 4))), .bool true] from fun e => by unfold goodV goodB; rw [if_neg h4, if_pos e])
    have HG0 := Lib.hid (show tailB (s.take (s.length - 4)) ≠ s.drop (s.length - 4) → goodV s = .tuple #[.string ⟨#[]⟩, .bool false] from fun e => by unfold goodV goodB; rw [if_neg h4, if_neg e])
    have q := Lib.hid (fun W => Tail_any (s.take (s.length - 4)) (by simp; omega) W)
    have h0' : (0 : Int) ≤ ((s.length - 4 : Nat) : Int) := by omega
    have h1' : ((s.length - 4 : Nat) : Int) ≤ (s.length : Int) := by omega
    generalize s.take (s.length - 4) = b at *
    generalize s.drop (s.length - 4) = t at *
    generalize s.length - 4 = k at *
    go_enter Tryz.func58, Tryz.ntmps58
    go_wp2_with fail
    go_quiet (fail)
    go_wp2_with fail
    refine (q.out _).mono ?_
    rintro e w1 ⟨rfl, hb1⟩
    have hb : Below w.heap.size w w1 := (below_drewN (Below.refl _ w) _).trans hb1
    clear hb1
    by_cases ht : tailB b = t
    · have hq : (tailB b == t) = true := by simpa using ht
      generalize tailB b = tb at *
      have HG := Lib.hid (HG1.out ht)
      clear ht
      go_wp2
      go_ret2
      exact ⟨by rw [HG.out]; rfl, hb⟩
    · have hq : (tailB b == t) = false := by simpa using ht
      generalize tailB b = tb at *
      have HG := Lib.hid (HG0.out ht)
      clear ht
      go_wp2
      go_ret2
      exact ⟨by rw [HG.out]; rfl, hb⟩
end Go.Proofs.YtgehgjalkponfaaGreatDoor
