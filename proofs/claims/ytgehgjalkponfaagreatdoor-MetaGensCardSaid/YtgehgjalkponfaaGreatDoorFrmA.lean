/- Frames: what is put. -/
import Derived.Test.YtgehgjalkponfaaGreatDoorCrcB
import Derived.Test.YtgehgjalkponfaaGreatDoorNmV
import Derived.Test.YtgehgjalkponfaaGreatDoorNumPlainB
import Derived.Test.YtgehgjalkponfaaGreatDoorGrow
namespace Go.Proofs.YtgehgjalkponfaaGreatDoor
open Go.RowKit
attribute [local go_sem] bs_toList bs_size

def checkedB (b : List UInt8) : List UInt8 := b ++ tailB b
theorem checkedB_len (b : List UInt8) : (checkedB b).length = b.length + 4 := by unfold checkedB; rw [List.length_append, tailB_len]
def framePut (b : List UInt8) : List UInt8 := checkedB (Num.text b)
def headB (magic : List UInt8) (gen flags : Nat) : List UInt8 := checkedB (magic ++ [UInt8.ofNat gen, UInt8.ofNat flags])
/-- May it be the beginning of a number? -/
def unendedB (s : List UInt8) : Bool := s.all (fun b => decide (128 ≤ b.toNat)) && decide (s.length < 10)

set_option maxRecDepth 100000 in
theorem checked_any (b : List UInt8) (hl : b.length ≤ 1099511627776) (w : World) :
    Calls Tryz.prog 51 #[.string (bs b)] w fun e w' => e = .returned (.string (bs (checkedB b))) ∧ Below w.heap.size w w' := by
  have q := Lib.hid (Tail_any b hl w)
  have HC := Lib.hid (show checkedB b = b ++ tailB b from rfl)
  have htl := tailB_len b
  have hadd : ∀ W, (Op.stringOp .add (bs b) (bs (tailB b))).run Tryz.prog W = .ok (.string (bs (checkedB b))) W := fun W => run_add_bs (P := Tryz.prog) b (tailB b) (by omega) W
  generalize checkedB b = c at *
  generalize tailB b = t at *
  go_enter Tryz.func51, Tryz.ntmps51
  go_wp2_with fail
  refine q.out.mono ?_
  rintro e w1 ⟨rfl, hb⟩
  go_wp2
  go_ret
  exact ⟨rfl, hb⟩

set_option maxRecDepth 100000 in
theorem framePut_any (b : List UInt8) (hl : b.length ≤ 1048576) (w : World) :
    Calls Tryz.prog 28 #[.string (bs b)] w fun e w' => e = .returned (.string (bs (framePut b))) ∧ Below w.heap.size w w' := by
  have q := Lib.hid (num_Text_any b w (by omega))
  have ht : (Num.text b).length ≤ 1099511627776 := by rw [Num.text_len]; have := Num.small_len b.length; omega
  have q2 := Lib.hid (fun W => checked_any (Num.text b) ht W)
  have HP := Lib.hid (show framePut b = checkedB (Num.text b) from rfl)
  generalize checkedB (Num.text b) = c at *
  generalize Num.text b = t at *
  go_enter Tryz.func28, Tryz.ntmps28
  go_wp2_with fail
  refine q.out.mono ?_
  rintro e w1 ⟨rfl, hb⟩
  go_wp2_with fail
  refine (q2.out _).mono ?_
  rintro e w2 ⟨rfl, hb2⟩
  go_wp2
  go_ret
  exact ⟨by rw [HP.out]; rfl, hb.trans (hb2.mono hb.size)⟩

set_option maxRecDepth 100000 in
theorem unended_any (s : List UInt8) (hl : s.length ≤ 1099511627776) (w : World) :
    Calls Tryz.prog 60 #[.string (bs s)] w fun e w' => e = .returned (.bool (unendedB s)) ∧ w = w' := by
  go_enter Tryz.func60, Tryz.ntmps60
  go_wp2_with fail
  go_loop [6] (fun vi => ∃ i : Nat, i ≤ s.length ∧ vi = .int .i64 (i : Int) ∧ (s.take i).all (fun b => decide (128 ≤ b.toNat)) = true) (fun vi => s.length - (intOf vi).toNat)
  case atStart => exact ⟨0, Nat.zero_le _, rfl, rfl⟩
  obtain ⟨i, hi, rfl, hall⟩ := hrel
  rcases (show i < s.length ∨ i = s.length by omega) with hil | rfl
  · have hb := List.getElem?_eq_getElem hil
    have HN := Lib.hid (show (s.take (i + 1)).all (fun b => decide (128 ≤ b.toNat)) = ((s.take i).all (fun b => decide (128 ≤ b.toNat)) && decide (128 ≤ s[i].toNat)) by rw [List.take_succ_eq_append_getElem hil, List.all_append]; simp)
    rw [hall] at HN
    have HW := Lib.hid (show s[i].toNat < 128 → unendedB s = false from fun h => by
      unfold unendedB
      have : s.all (fun b => decide (128 ≤ b.toNat)) = false := by
        rw [List.all_eq_false]
        exact ⟨s[i], List.getElem_mem hil, by simpa using h⟩
      rw [this]
      rfl)
    generalize s[i] = b at *
    have hidx := fun W => run_index_bs (P := Tryz.prog) 9 Tryz.underlying9 s i b hb .i64 W
    have hbl := b.toNat_lt
    generalize b.toNat = n at *
    clear hall
    by_cases h : n < 128
    · have hd : (n : Int) / 128 = 0 := by omega
      have hun := HW.out h
      go_wp2
      go_ret
      exact ⟨rfl, rfl⟩
    · have hd : (n : Int) / 128 = 1 := by omega
      have hd2 : decide (128 ≤ n) = true := by simp; omega
      rw [hd2] at HN
      go_wp2_with fail
      go_round
      case rel => exact ⟨i + 1, by omega, by go_num, by rw [HN.out]; rfl⟩
      case measure => simp [intOf]; omega
  · have HU := Lib.hid (show unendedB s = decide (s.length < 10) by unfold unendedB; rw [List.take_length] at hall; rw [hall]; rfl)
    clear hall
    go_wp2
    go_ret
    refine ⟨?_, rfl⟩
    rw [HU.out]
    simp
    omega

theorem one_alloc (w : World) (o : Obj) : Below w.heap.size w (w.alloc o) := (Below.refl _ w).alloc (Nat.le_refl _) o
theorem two_conv (w : World) (a b : Nat) (ha : (UInt8.ofNat a).toNat = a) (hb : (UInt8.ofNat b).toNat = b) :
    (convert 76 9 (.slice (some ⟨w.heap.size, 0, none⟩) 2 2)).run Tryz.prog (w.alloc (.cells #[.int .u8 (a : Int), .int .u8 (b : Int)] 5)) = .ok (.string (bs [UInt8.ofNat a, UInt8.ofNat b])) (w.alloc (.cells #[.int .u8 (a : Int), .int .u8 (b : Int)] 5)) :=
  run_conv_cells 76 9 5 Tryz.underlying76 Tryz.underlying5 Tryz.underlying9 w.heap.size 0 2 [UInt8.ofNat a, UInt8.ofNat b] _ fun i h => by
    rw [Nat.zero_add, World.cell?_alloc_new]
    rcases (show i = 0 ∨ i = 1 by simp at h; omega) with rfl | rfl
    · simp [ha]
    · simp [hb]
set_option maxRecDepth 100000 in
set_option maxHeartbeats 1000000 in
theorem Head_any (magic : List UInt8) (gen flags : Nat) (hg : gen < 256) (hf : flags < 256) (hl : magic.length ≤ 1048576) (w : World) :
    Calls Tryz.prog 27 #[.string (bs magic), .int .i64 (gen : Int), .int .i64 (flags : Int)] w fun e w' => e = .returned (.string (bs (headB magic gen flags))) ∧ Below w.heap.size w w' := by
  have q := Lib.hid (fun W => checked_any (magic ++ [UInt8.ofNat gen, UInt8.ofNat flags]) (by simp; omega) W)
  have HH := Lib.hid (show headB magic gen flags = checkedB (magic ++ [UInt8.ofNat gen, UInt8.ofNat flags]) from rfl)
  have hadd : ∀ W, (Op.stringOp .add (bs magic) (bs [UInt8.ofNat gen, UInt8.ofNat flags])).run Tryz.prog W = .ok (.string (bs (magic ++ [UInt8.ofNat gen, UInt8.ofNat flags]))) W := fun W => run_add_bs (P := Tryz.prog) magic [UInt8.ofNat gen, UInt8.ofNat flags] (by simp; omega) W
  have hgm : (gen : Int) % 256 = gen := by omega
  have hfm : (flags : Int) % 256 = flags := by omega
  have hgn : (UInt8.ofNat gen).toNat = gen := Num.ofNat_toNat gen hg
  have hfn : (UInt8.ofNat flags).toNat = flags := Num.ofNat_toNat flags hf
  have hcv := two_conv w gen flags hgn hfn
  generalize [UInt8.ofNat gen, UInt8.ofNat flags] = gf at *
  generalize magic ++ gf = mgf at *
  go_enter Tryz.func27, Tryz.ntmps27
  go_wp2_with fail
  refine (q.out _).mono ?_
  rintro e w2 ⟨rfl, hb2⟩
  go_wp2
  go_ret
  exact ⟨by rw [HH.out]; rfl, (one_alloc w _).trans (hb2.mono (by simp))⟩
end Go.Proofs.YtgehgjalkponfaaGreatDoor
