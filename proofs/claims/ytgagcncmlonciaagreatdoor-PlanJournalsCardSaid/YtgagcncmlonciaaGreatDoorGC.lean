/- The check of bytes: plain words, and its table. The check of bytes: Of, Tail, Good. A region that draws its order: one walk in the order of its text, over any class of turns of the world. Each slot bears a relation, so an operation may make new memory whose place depends on the order. The last operation, to which all others lead, may turn the world as it likes. A region that draws its order: an operation that is not waited for. Worlds that have grown, for regions that draw their order. Frames: what is put. Frames: what is got; what a file begins with. A cursor's numbers, in plain words; shared by the layers that read by one. (The templates of layer 10 have these too: NmsC, WalC, RtA, RtB.) -/
import Derived.Test.YtgagcncmlonciaaGreatDoorGB
import Derived.Laws.Tables
import Derived.Laws.CopyOwn
import Derived.WalkKit
import Derived.BigQuiet
import Derived.Test.YtgagcncmlonciaaGreatDoorGA
namespace Go.Proofs.YtgagcncmlonciaaGreatDoor
open Go.RowKit
attribute [local go_sem] bs_toList bs_size

def halfStep (c : Nat) : Nat := if c % 2 = 1 then (c / 2) ^^^ 2197175160 else c / 2
def halfN : Nat → Nat → Nat
  | 0, c => c
  | k + 1, c => halfStep (halfN k c)
def half (i : Nat) : Nat := halfN 4 i
theorem halfStep_lt {c : Nat} (h : c < 4294967296) : halfStep c < 4294967296 := by
  unfold halfStep
  split
  · exact Nat.xor_lt_two_pow (n := 32) (by omega) (by omega)
  · omega
theorem halfN_lt {c : Nat} (h : c < 4294967296) : ∀ k, halfN k c < 4294967296
  | 0 => h
  | k + 1 => halfStep_lt (halfN_lt h k)
/-- The first k are done. -/
def arr16 (k : Nat) : Array Value := ((List.range 16).map fun i => Value.int .u32 ((if i < k then half i else 0 : Nat) : Int)).toArray
theorem arr16_at (k i : Nat) (h : i < 16) : (arr16 k)[i]? = some (.int .u32 ((if i < k then half i else 0 : Nat) : Int)) := by
  unfold arr16
  rw [List.getElem?_toArray, List.getElem?_map, List.getElem?_range h]
  rfl
theorem arr16_set (k : Nat) (h : k < 16) : (arr16 k).setIfInBounds k (.int .u32 (half k : Int)) = arr16 (k + 1) := by
  unfold arr16
  rw [List.setIfInBounds_toArray]
  congr 1
  apply List.ext_getElem?
  intro i
  rw [List.getElem?_set]
  by_cases e : k = i
  · subst e
    simp [h]
  · rw [if_neg e]
    simp only [List.getElem?_map]
    by_cases hi : i < 16
    · rw [List.getElem?_range hi]
      have : (i < k + 1) = (i < k) := by
        apply propext
        omega
      simp [this]
    · rw [List.getElem?_eq_none (by simpa using hi)]
      rfl

set_option maxRecDepth 100000 in
set_option maxHeartbeats 1000000 in
theorem halves_any (w : World) : Calls Tryz.prog 213 #[] w fun e w' => e = .returned (.agg (arr16 16)) ∧ Below w.heap.size w w' := by
  have h1 : ∀ c : Nat, c < 4294967296 → bits BinOp.and IntKind.u32 (c : Int) 1 = ((c % 2 : Nat) : Int) := fun c h => by
    have := u32_and_nat c 1 h (by omega)
    rw [nat_mask1] at this
    exact this
  have h2 : ∀ c : Nat, c < 4294967296 → bits BinOp.xor IntKind.u32 ((c : Int) / 2) 2197175160 = (((c / 2) ^^^ 2197175160 : Nat) : Int) := fun c h => u32_xor_nat (c / 2) 2197175160 (by omega) (by omega)
  have H1 := Lib.hid h1
  have H2 := Lib.hid h2
  clear h1 h2
  go_enter Tryz.func213, Tryz.ntmps213
  go_wp2
  go_loopw [5] (fun vi wr => ∃ k : Nat, vi = .int .i64 (k : Nat) ∧ k ≤ 16 ∧ wr = (w.alloc (.cells (arr16 0) 316)).alloc (.cells (arr16 k) 316)) (fun vi _ => 20 - (intOf vi).toNat)
  case atStart => exact ⟨0, rfl, by omega, rfl⟩
  obtain ⟨k, rfl, hk, rfl⟩ := hrel
  by_cases hlt : k < 16
  · have HS := Lib.hid (arr16_set k hlt)
    have ha := arr16_at k k hlt
    go_wp2_with fail
    go_loopw [3, 10] (fun vc vi wr => ∃ j : Nat, vi = .int .i64 (j : Nat) ∧ j ≤ 4 ∧ vc = .int .u32 (halfN j k : Int) ∧ wr = (w.alloc (.cells (arr16 0) 316)).alloc (.cells (arr16 k) 316)) (fun _ vi _ => 20 - (intOf vi).toNat)
    case atStart => exact ⟨0, rfl, by omega, by simp [halfN], rfl⟩
    obtain ⟨j, rfl, hj, rfl, rfl⟩ := hrel
    have hlt2 := halfN_lt (c := k) (by omega) j
    have HN := Lib.hid (show halfN (j + 1) k = halfStep (halfN j k) from rfl)
    have HF := Lib.hid (show half k = halfN 4 k from rfl)
    rcases (show j < 4 ∨ j = 4 by omega) with hj4 | rfl
    · generalize halfN j k = c at *
      have e1 := H1.out c hlt2
      have e2 := H2.out c hlt2
      by_cases hc : c % 2 = 1
      · have hs : halfStep c = (c / 2) ^^^ 2197175160 := by
          unfold halfStep
          rw [if_pos hc]
        rw [hs] at HN
        go_wp2_with fail
        go_roundw
        case rel => exact ⟨j + 1, by go_num, by omega, by rw [HN.out], trivial⟩
        case measure => simp [intOf]; omega
      · have hs : halfStep c = c / 2 := by
          unfold halfStep
          rw [if_neg hc]
        rw [hs] at HN
        go_wp2_with fail
        go_roundw
        case rel => exact ⟨j + 1, by go_num, by omega, by rw [HN.out]; simp, trivial⟩
        case measure => simp [intOf]; omega
    · generalize halfN 4 k = c at *
      go_wp2_with fail
      go_roundw
      case rel => exact ⟨k + 1, by go_num, by omega, by rw [← HS.out, HF.out]⟩
      case measure => simp [intOf]; omega
  · obtain rfl : k = 16 := by omega
    go_wp2_with (first | refine wpList_load_row rfl _ _ rfl (w.heap.size + 1) rfl 316 (arr16 16) (0, 0) _ (heap_alloc2_new _ _ _) Tryz.underlying316 rfl (by kernel_rfl) ?_ | refine wpList_store_row rfl _ _ _ rfl w.heap.size (arr16 16) rfl rfl 316 (arr16 0) (heap_alloc2_old _ _ _) (by kernel_rfl) (by kernel_rfl) (by kernel_rfl) ?_)
    refine bodyPost_ret (results_cell_row rfl _ _ w.heap.size 316 (arr16 16) (0, 0) _ rfl (setRow_heap _ _ (arr16 0) _ _ _ (heap_alloc2_old _ _ _)) Tryz.underlying316 rfl (by kernel_rfl)) rfl ?_
    exact ⟨rfl, below_setRow (((Below.refl _ _).alloc (Nat.le_refl _) _).alloc (by simp) _) (Nat.le_refl _) _⟩

/-- One byte more. -/
def nibble (c : Nat) : Nat := half (c % 16) ^^^ (c / 16)
def crcByte (c : Nat) (b : UInt8) : Nat := nibble (nibble (c ^^^ b.toNat))
def crcFold (c : Nat) (l : List UInt8) : Nat := l.foldl crcByte c
def crcOn (c : Nat) (l : List UInt8) : Nat := 4294967295 - crcFold (4294967295 - c) l
theorem half_lt {c : Nat} (h : c < 4294967296) : half c < 4294967296 := halfN_lt h 4
theorem nibble_lt {c : Nat} (h : c < 4294967296) : nibble c < 4294967296 := Nat.xor_lt_two_pow (n := 32) (half_lt (by omega)) (by omega)
theorem crcByte_lt {c : Nat} (h : c < 4294967296) (b : UInt8) : crcByte c b < 4294967296 :=
  nibble_lt (nibble_lt (Nat.xor_lt_two_pow (n := 32) h (by have := b.toNat_lt; omega)))
theorem crcFold_lt {c : Nat} (h : c < 4294967296) : ∀ l, crcFold c l < 4294967296
  | [] => h
  | b :: l => crcFold_lt (crcByte_lt h b) l
theorem crcFold_next {c : Nat} {l : List UInt8} {i : Nat} {b : UInt8} (h : l[i]? = some b) : crcFold c (l.take (i + 1)) = crcByte (crcFold c (l.take i)) b := by
  obtain ⟨hi, rfl⟩ := List.getElem?_eq_some_iff.1 h
  unfold crcFold
  rw [List.take_succ_eq_append_getElem hi, List.foldl_append]
  rfl

theorem not32 (c : Nat) (h : c < 4294967296) : bits BinOp.xor IntKind.u32 IntKind.u32.max (c : Int) = ((4294967295 - c : Nat) : Int) := by
  have e : (BitVec.ofNat 32 c ^^^ BitVec.allOnes 32).toNat = (~~~ BitVec.ofNat 32 c).toNat := by rw [BitVec.xor_allOnes]
  rw [BitVec.toNat_xor, BitVec.toNat_not, BitVec.toNat_allOnes, BitVec.toNat_ofNat, Nat.mod_eq_of_lt (by simpa using h)] at e
  have e2 : c ^^^ 4294967295 = 4294967295 - c := by simpa using e
  have := u32_xor_nat 4294967295 c (by omega) h
  rw [Nat.xor_comm, e2] at this
  exact this
theorem and15 (c : Nat) (h : c < 4294967296) : bits BinOp.and IntKind.u32 (c : Int) 15 = ((c % 16 : Nat) : Int) := by
  have := u32_and_nat c 15 h (by omega)
  rw [show c &&& 15 = c % 16 from Nat.and_two_pow_sub_one_eq_mod c 4] at this
  exact this
theorem xor_div (a c : Nat) (ha : a < 4294967296) (hc : c < 4294967296) : bits BinOp.xor IntKind.u32 (a : Int) ((c : Int) / 16) = ((a ^^^ (c / 16) : Nat) : Int) := u32_xor_nat a (c / 16) ha (by omega)

set_option maxRecDepth 100000 in
set_option maxHeartbeats 1000000 in
theorem On_any (c : Nat) (l : List UInt8) (hc : c < 4294967296) (hl : l.length ≤ 1099511627776) (w : World) :
    Calls Tryz.prog 169 #[.int .u32 (c : Int), .string (bs l)] w fun e w' => e = .returned (.int .u32 (crcOn c l : Int)) ∧ Below w.heap.size w w' := by
  have q := Lib.hid (halves_any w)
  have hn := not32 c hc
  go_enter Tryz.func169, Tryz.ntmps169
  go_wp2_with fail
  refine q.out.mono ?_
  rintro e w1 ⟨rfl, hb⟩
  go_wp2_with (refine wpList_store_row rfl _ _ _ rfl w1.heap.size (arr16 16) rfl rfl 316 (arr16 0) (heap_alloc_new _ _) (by kernel_rfl) (by kernel_rfl) (by kernel_rfl) ?_)
  generalize hg : w1.heap.size = g
  generalize hW : World.setRow _ g (arr16 16) = W2
  have HC := Lib.hid (fun (i : Nat) (hi : i < 16) => show W2.cell? ⟨g, i, none⟩ = some (.int .u32 (half i : Int)) by
    rw [← hW, ← hg]
    exact (cell_setRow_same _ _ _ (arr16 0) _ _ _ (heap_alloc_new _ _)).trans ((arr16_at 16 i hi).trans (by rw [if_pos hi])))
  have HB := Lib.hid (show Below w.heap.size w W2 by
    rw [← hW, ← hg]
    exact below_setRow (hb.alloc hb.size _) hb.size _)
  clear hW hb hg
  have hc1 : 4294967295 - c < 4294967296 := by omega
  go_loop [0, 12] (fun vc vi => ∃ i : Nat, i ≤ l.length ∧ vi = .int .i64 (i : Int) ∧ vc = .int .u32 (crcFold (4294967295 - c) (l.take i) : Int)) (fun _ vi => l.length - (intOf vi).toNat)
  case atStart => exact ⟨0, Nat.zero_le _, rfl, rfl⟩
  obtain ⟨i, hi, rfl, rfl⟩ := hrel
  have hlt := crcFold_lt hc1 (l.take i)
  rcases (show i < l.length ∨ i = l.length by omega) with hil | rfl
  · have hb := List.getElem?_eq_getElem hil
    have HN := Lib.hid (crcFold_next (c := 4294967295 - c) hb)
    generalize l[i] = b at *
    have hidx := fun W => run_index_bs (P := Tryz.prog) 9 Tryz.underlying9 l i b hb .i64 W
    generalize crcFold (4294967295 - c) (l.take i) = d at *
    have hbl := b.toNat_lt
    have e0 : bits BinOp.xor IntKind.u32 (d : Int) (b.toNat : Int) = ((d ^^^ b.toNat : Nat) : Int) := u32_xor_nat d b.toNat hlt (by omega)
    have hx : d ^^^ b.toNat < 4294967296 := Nat.xor_lt_two_pow (n := 32) hlt (by omega)
    have HD := Lib.hid (show crcByte d b = nibble (nibble (d ^^^ b.toNat)) from rfl)
    generalize d ^^^ b.toNat = x at *
    have e1 := and15 x hx
    have e2 := HC.out (x % 16) (by omega)
    have e3 := xor_div (half (x % 16)) x (half_lt (by omega)) hx
    have hy : nibble x < 4294967296 := nibble_lt hx
    have HY := Lib.hid (show nibble x = half (x % 16) ^^^ (x / 16) from rfl)
    rw [← HY.out] at e3
    generalize nibble x = y at *
    have e4 := and15 y hy
    have e5 := HC.out (y % 16) (by omega)
    have e6 := xor_div (half (y % 16)) y (half_lt (by omega)) hy
    have HZ := Lib.hid (show nibble y = half (y % 16) ^^^ (y / 16) from rfl)
    rw [← HZ.out] at e6
    have hz : nibble y < 4294967296 := nibble_lt hy
    generalize nibble y = z at *
    generalize half (x % 16) = hx16 at *
    generalize half (y % 16) = hy16 at *
    go_wp2_with fail
    go_round
    case rel => exact ⟨i + 1, by omega, by go_num, by rw [HN.out, HD.out]⟩
    case measure => simp [intOf]; omega
  · have HO := Lib.hid (show crcOn c l = 4294967295 - crcFold (4294967295 - c) (l.take l.length) by rw [List.take_length]; rfl)
    have e1 := not32 _ hlt
    rw [← HO.out] at e1
    generalize crcFold (4294967295 - c) (l.take l.length) = d at *
    go_wp2
    go_ret
    exact ⟨rfl, HB.out⟩
end Go.Proofs.YtgagcncmlonciaaGreatDoor
namespace Go.Proofs.YtgagcncmlonciaaGreatDoor
open Go.RowKit
attribute [local go_sem] bs_toList bs_size

theorem crcOn_lt (c : Nat) (l : List UInt8) : crcOn c l < 4294967296 := by
  unfold crcOn
  omega
/-- The check as bytes. -/
def tailB (l : List UInt8) : List UInt8 := Num.wideF 4 (crcOn 0 l)
theorem tailB_len (l : List UInt8) : (tailB l).length = 4 := Num.wideF_len 4 _
/-- Bytes without their check, if it is right. -/
def goodB (s : List UInt8) : Option (List UInt8) := if s.length < 4 then none else if tailB (s.take (s.length - 4)) = s.drop (s.length - 4) then some (s.take (s.length - 4)) else none
theorem goodB_tail (b : List UInt8) : goodB (b ++ tailB b) = some b := by
  unfold goodB
  have h : (b ++ tailB b).length - 4 = b.length := by simp [tailB_len]
  rw [if_neg (by simp [tailB_len]), h, List.take_left' rfl, List.drop_left' rfl, if_pos rfl]
theorem goodB_some {s b : List UInt8} (h : goodB s = some b) : s = b ++ tailB b := by
  unfold goodB at h
  split at h
  · cases h
  split at h
  · obtain rfl := Option.some.inj h
    rename_i e
    rw [e, List.take_append_drop]
  · cases h

set_option maxRecDepth 100000 in
theorem Of_any (l : List UInt8) (hl : l.length ≤ 1099511627776) (w : World) :
    Calls Tryz.prog 108 #[.string (bs l)] w fun e w' => e = .returned (.int .u32 (crcOn 0 l : Int)) ∧ Below w.heap.size w w' := by
  have q := Lib.hid (show Calls Tryz.prog 169 #[.int .u32 0, .string (bs l)] w _ from On_any 0 l (by omega) hl w)
  go_enter Tryz.func108, Tryz.ntmps108
  go_wp2_with fail
  refine q.out.mono ?_
  rintro e w1 ⟨rfl, hb⟩
  go_wp2
  go_ret
  exact ⟨rfl, hb⟩

def TailRel (n : Int) (w1 : World) (vi : Value) (wr : World) : Prop :=
  ∃ (k : Nat), vi = .int .i64 (k : Nat) ∧ k ≤ 4 ∧ wr = w1.alloc (.cells (arrV 4 (Num.wideF k n.toNat)) 197)

set_option maxRecDepth 100000 in
set_option maxHeartbeats 400000 in
theorem Tail_any (l : List UInt8) (hl : l.length ≤ 1099511627776) (w : World) :
    Calls Tryz.prog 60 #[.string (bs l)] w fun e w' => e = .returned (.string (bs (tailB l))) ∧ Below w.heap.size w w' := by
  have q := Lib.hid (Of_any l hl w)
  have HT := Lib.hid (show tailB l = Num.wideF 4 (crcOn 0 l) from rfl)
  go_enter Tryz.func60, Tryz.ntmps60
  go_wp2_with fail
  refine q.out.mono ?_
  rintro e w1 ⟨rfl, hb⟩
  have h1 : (0 : Int) ≤ (crcOn 0 l : Int) := by omega
  have HT2 := Lib.hid (show tailB l = Num.wideF 4 (crcOn 0 l : Int).toNat from HT.out)
  generalize hn : ((crcOn 0 l : Nat) : Int) = n at *
  go_wp2_with fail
  go_loopw [8] (fun vi wr => TailRel n w1 vi wr) (fun vi _ => 10 - (intOf vi).toNat)
  case atStart => exact ⟨0, rfl, by omega, rfl⟩
  obtain ⟨k, rfl, hk8, rfl⟩ := hrel
  by_cases hlt : k < 4
  · have ha : (arrV 4 (Num.wideF k n.toNat))[k]? = some (.int .u8 0) := by
      have := arrV_next 4 (Num.wideF k n.toNat) (by rw [Num.wideF_len]; omega)
      rw [Num.wideF_len] at this; exact this
    have hset : Hid (∀ wr, wr = w1.alloc (.cells ((arrV 4 (Num.wideF k n.toNat)).setIfInBounds k (.int .u8 (n / 2 ^ (8 * k) % 256))) 197) → TailRel n w1 (.int .i64 ((k : Int) + 1)) wr) := by
      rintro wr rfl
      refine ⟨k + 1, rfl, by omega, ?_⟩
      have := arrV_set 4 (Num.wideF k n.toNat) (by rw [Num.wideF_len]; omega) (UInt8.ofNat (n.toNat / 256 ^ k % 256))
      rw [Num.wideF_len] at this
      rw [wideF_snoc, ← this, Num.ofNat_toNat _ (by omega), pow8 n h1 k]
    go_wp2_with fail
    go_roundw
    case rel => exact hset.out _ rfl
    case measure => simp [intOf]; omega
  · obtain rfl : k = 4 := by omega
    have hs := fun W => run_sliceAt_all (P := Tryz.prog) 197 5 4 1 Tryz.underlying197 (by kernel_rfl) w1.heap.size W
    have hc := run_conv_arr (P := Tryz.prog) 93 9 5 Tryz.underlying93 Tryz.underlying5 Tryz.underlying9 4 4 (Num.wideF 4 n.toNat) 197 w1
    rw [Num.wideF_len] at hc
    go_wp2
    go_ret
    exact ⟨by rw [HT2.out]; rfl, hb.alloc hb.size _⟩

def goodV (s : List UInt8) : Value := match goodB s with
  | none => .tuple #[.string ⟨#[]⟩, .bool false]
  | some b => .tuple #[.string (bs b), .bool true]
set_option maxRecDepth 100000 in
set_option maxHeartbeats 400000 in
theorem Good_any (s : List UInt8) (hl : s.length ≤ 1099511627776) (w : World) :
    Calls Tryz.prog 28 #[.string (bs s)] w fun e w' => e = .returned (goodV s) ∧ Below w.heap.size w w' := by
  by_cases h4 : s.length < 4
  · have HG := Lib.hid (show goodV s = .tuple #[.string ⟨#[]⟩, .bool false] by unfold goodV goodB; rw [if_pos h4])
    go_enter Tryz.func28, Tryz.ntmps28
    go_wp2
    go_ret2
    exact ⟨by rw [HG.out]; rfl, Below.refl _ _⟩
  · have hw : IntKind.i64.wrap ((s.length : Int) - 4) = ((s.length - 4 : Nat) : Int) := by simp [IntKind.wrap, IntKind.bits, IntKind.signed]; omega
    have he1 : (bs s).extract 0 (s.length - 4) = bs (s.take (s.length - 4)) := by
      rw [bs_extract, List.drop_zero, Nat.sub_zero]
    have he2 : (bs s).extract (s.length - 4) s.length = bs (s.drop (s.length - 4)) := by
      rw [bs_extract, List.take_of_length_le (by simp)]
    have HG1 := Lib.hid (show tailB (s.take (s.length - 4)) = s.drop (s.length - 4) → goodV s = .tuple #[.string (bs (s.take (s.length - 4))), .bool true] from fun e => by unfold goodV goodB; rw [if_neg h4, if_pos e])
    have HG0 := Lib.hid (show tailB (s.take (s.length - 4)) ≠ s.drop (s.length - 4) → goodV s = .tuple #[.string ⟨#[]⟩, .bool false] from fun e => by unfold goodV goodB; rw [if_neg h4, if_neg e])
    have q := Lib.hid (fun W => Tail_any (s.take (s.length - 4)) (by simp; omega) W)
    have h0' : (0 : Int) ≤ ((s.length - 4 : Nat) : Int) := by omega
    have h1' : ((s.length - 4 : Nat) : Int) ≤ (s.length : Int) := by omega
    generalize s.take (s.length - 4) = b at *
    generalize s.drop (s.length - 4) = t at *
    generalize s.length - 4 = k at *
    go_enter Tryz.func28, Tryz.ntmps28
    go_wp2_with fail
    go_quiet (fail)
    go_wp2_with fail
    refine (q.out _).mono ?_
    rintro e w1 ⟨rfl, hb1⟩
    have hb : Below w.heap.size w w1 := (below_drewN (Below.refl _ w) _).trans hb1
    clear hb1
    by_cases ht : tailB b = t
    · have hq : (tailB b == t) = true := by simpa using ht
      generalize tailB b = tb at *
      have HG := Lib.hid (HG1.out ht)
      clear ht
      go_wp2
      go_ret2
      exact ⟨by rw [HG.out]; rfl, hb⟩
    · have hq : (tailB b == t) = false := by simpa using ht
      generalize tailB b = tb at *
      have HG := Lib.hid (HG0.out ht)
      clear ht
      go_wp2
      go_ret2
      exact ⟨by rw [HG.out]; rfl, hb⟩
end Go.Proofs.YtgagcncmlonciaaGreatDoor
namespace Go.Proofs.YtgagcncmlonciaaGreatDoor
open Go.RowKit

/-- How a world may turn while the region runs: a class of turns that holds none, and two behind one another, and a draw. -/
class Turns (R : World → World → Prop) : Prop where
  refl : ∀ w, R w w
  trans : ∀ {a b c}, R a b → R b c → R a c
  drew : ∀ w : World, R w { w with drawn := w.drawn + 1 }

/-- The worlds that w may have turned to. -/
def RW (R : World → World → Prop) (w : World) : Type := { w' : World // R w w' }
def RW.w {R : World → World → Prop} {w : World} (x : RW R w) : World := x.1
theorem RW.is {R : World → World → Prop} {w : World} (x : RW R w) : R w x.w := x.2
instance {R : World → World → Prop} [Turns R] {w : World} : Nonempty (RW R w) := ⟨⟨w, Turns.refl w⟩⟩

/-- What a slot may hold, in a world. -/
abbrev Held := Value → World → Prop
def Held.keeps (R : World → World → Prop) (r : Held) : Prop := ∀ x w w', r x w → R w w' → r x w'

/-- An operation, seen from any frame whose slots hold what they should. -/
def Serves (R : World → World → Prop) (P : Program) (ops : Array Oper) (w0 : World) (o : Oper) (s : Tmp → Held) (r : Held) : Prop :=
  ∀ c w, R w0 w → (∀ t ∈ o.looksAt ops, s t (c.eval (.tmp t)) w) →
    (Region.wanted o (yielded ops c.tmps) = false ∧ r undef w) ∨
    (Region.wanted o (yielded ops c.tmps) = true ∧ ∀ Q Q', (∀ x w', R w w' → r x w' → Q (c.put o.dst x) w') → o.wp P c w Q Q')

def slotsBy (ops : Array Oper) (r : Nat → Held) (s : Tmp → Held) : Nat → Tmp → Held
  | 0 => s
  | k + 1 => fun t => if (ops[k]?).bind (·.dst) = some t then r k else slotsBy ops r s k t

/-- The region's form: each slot is written once; what is looked at is written by an operation that is waited for, or that waits. -/
def Formed (ops : Array Oper) (n : Nat) : Prop :=
  ∀ i o, ops[i]? = some o → (∀ e ∈ o.after, Region.binds .any e = true → e.on < i) ∧ (∀ t, o.dst = some t → t < n) ∧
    ∀ j p t, ops[j]? = some p → j ≠ i → p.dst = some t → o.dst ≠ some t ∧ (t ∈ o.looksAt ops →
      (j < i ∧ ∃ e ∈ o.after, Region.binds .any e = true ∧ e.on = j) ∨ (i < j ∧ ∃ e ∈ p.after, Region.binds .any e = true ∧ e.on = i))

def formedB (ops : Array Oper) (n : Nat) : Bool :=
  (List.range ops.size).all fun i => match ops[i]? with
    | none => true
    | some o => o.after.toList.all (fun e => !Region.binds .any e || decide (e.on < i)) && (match o.dst with | none => true | some t => decide (t < n)) &&
      (List.range ops.size).all fun j => decide (j = i) || match ops[j]? with
        | none => true
        | some p => match p.dst with
          | none => true
          | some t => decide (o.dst ≠ some t) && (!(o.looksAt ops).contains t ||
              (decide (j < i) && o.after.toList.any fun e => Region.binds .any e && decide (e.on = j)) || (decide (i < j) && p.after.toList.any fun e => Region.binds .any e && decide (e.on = i)))

theorem lt_of_some {ops : Array Oper} {i : Nat} {o : Oper} (h : ops[i]? = some o) : i < ops.size := by
  rcases Nat.lt_or_ge i ops.size with hlt | hge
  · exact hlt
  · rw [Array.getElem?_eq_none hge] at h; cases h

theorem formed_of {ops : Array Oper} {n : Nat} (h : formedB ops n = true) : Formed ops n := by
  intro i o ho
  unfold formedB at h
  rw [List.all_eq_true] at h
  have hi := h i (List.mem_range.2 (lt_of_some ho))
  rw [ho] at hi
  simp only [Bool.and_eq_true] at hi
  obtain ⟨⟨h1, h2⟩, h3⟩ := hi
  refine ⟨fun e he hb => ?_, fun t ht => ?_, fun j p t hp hne ht => ?_⟩
  · rw [List.all_eq_true] at h1
    have := h1 e (Array.mem_toList_iff.2 he)
    rw [hb] at this
    simpa using this
  · rw [ht] at h2
    simpa using h2
  · rw [List.all_eq_true] at h3
    have := h3 j (List.mem_range.2 (lt_of_some hp))
    rw [hp] at this
    simp only [ht, hne, decide_false, Bool.false_or, Bool.and_eq_true, Bool.or_eq_true, decide_eq_true_eq] at this
    obtain ⟨k1, k2⟩ := this
    refine ⟨k1, fun hm => ?_⟩
    rcases k2 with (k2 | k2) | k2
    · have : (o.looksAt ops).contains t = true := List.contains_iff_mem.2 hm
      rw [this] at k2
      cases k2
    · obtain ⟨k3, k4⟩ := k2
      rw [List.any_eq_true] at k4
      obtain ⟨e, he, hb⟩ := k4
      simp only [Bool.and_eq_true, decide_eq_true_eq] at hb
      exact .inl ⟨k3, e, Array.mem_toList_iff.1 he, hb.1, hb.2⟩
    · obtain ⟨k3, k4⟩ := k2
      rw [List.any_eq_true] at k4
      obtain ⟨e, he, hb⟩ := k4
      simp only [Bool.and_eq_true, decide_eq_true_eq] at hb
      exact .inr ⟨k3, e, Array.mem_toList_iff.1 he, hb.1, hb.2⟩

section
variable {R : World → World → Prop} {P : Program} {ops : Array Oper} {n : Nat} {r : Nat → Held} {s : Tmp → Held} {w0 : World} {a : Act}

theorem slotsBy_of (hF : Formed ops n) {k j : Nat} {p : Oper} {t : Tmp} (hj : j < k) (hp : ops[j]? = some p) (ht : p.dst = some t) : slotsBy ops r s k t = r j := by
  induction k with
  | zero => omega
  | succ k ih =>
    unfold slotsBy
    by_cases hjk : j = k
    · subst hjk; rw [hp]; simp [ht]
    · have hlt : j < k := by omega
      rw [if_neg, ih hlt]
      intro h
      cases hq : ops[k]? with
      | none => rw [hq] at h; cases h
      | some q =>
        rw [hq] at h
        exact ((hF j p hp).2.2 k q t hq (by omega) h).1 ht

theorem slotsBy_none {k : Nat} {t : Tmp} (h : ∀ j, j < k → (ops[j]?).bind (·.dst) ≠ some t) : slotsBy ops r s k t = s t := by
  induction k with
  | zero => rfl
  | succ k ih =>
    unfold slotsBy
    rw [if_neg (h k (by omega))]
    exact ih fun j hj => h j (by omega)

/-- What holds of the frame while some of the operations have come up. -/
structure Along (R : World → World → Prop) (ops : Array Oper) (r : Nat → Held) (w0 : World) (a : Act) (listed : Array Bool) (c : Act) (w : World) : Prop where
  size : listed.size = ops.size
  deps : ∀ j p, ops[j]? = some p → listed.getD j false = true → ∀ e ∈ p.after, Region.binds .any e = true → listed.getD e.on false = true
  done : ∀ j p t, ops[j]? = some p → listed.getD j false = true → p.dst = some t → r j (c.eval (.tmp t)) w
  rest : ∀ t, (∀ j p, ops[j]? = some p → listed.getD j false = true → p.dst ≠ some t) → c.eval (.tmp t) = a.eval (.tmp t)
  frame : c.tmps.size = a.tmps.size
  defers : c.defers = a.defers
  below : R w0 w

theorem eval_put_same {c : Act} {t : Tmp} {x : Value} (h : t < c.tmps.size) : (c.put (some t) x).eval (.tmp t) = x := by
  simp [Act.eval, Act.put, h]
theorem eval_put_ne {c : Act} {t u : Tmp} {x : Value} (h : u ≠ t) : (c.put (some u) x).eval (.tmp t) = c.eval (.tmp t) := by
  simp [Act.eval, Act.put, Array.getElem?_setIfInBounds_ne h]

theorem put_size {c : Act} {d : Option Tmp} {x : Value} : (c.put d x).tmps.size = c.tmps.size := by
  cases d <;> simp [Act.put]
theorem put_defers' {c : Act} {d : Option Tmp} {x : Value} : (c.put d x).defers = c.defers := by
  cases d <;> rfl

theorem getD_lt {l : Array Bool} {i : Nat} (h : l.getD i false = true) : i < l.size := by
  rcases Nat.lt_or_ge i l.size with hlt | hge
  · exact hlt
  · simp [hge] at h

theorem getD_set_self {l : Array Bool} {i : Nat} (h : i < l.size) : (l.setIfInBounds i true).getD i false = true := by
  simp [h]

theorem Along.step [Turns R] (hF : Formed ops n) (hn : a.tmps.size = n) (hk : ∀ k, (r k).keeps R) {listed : Array Bool} {c : Act} {w w' : World} {i : Nat} {o : Oper} {x : Value} (h : Along R ops r w0 a listed c w)
    (ho : ops[i]? = some o) (hi : i ∈ Region.ready .any ops listed) (hw : R w w') (hr : r i x w') : Along R ops r w0 a (listed.setIfInBounds i true) (c.put o.dst x) w' := by
  obtain ⟨hun, o', ho', hall⟩ := mem_ready.1 hi
  obtain rfl : o = o' := by rw [ho] at ho'; exact Option.some.inj ho'
  have hil : i < listed.size := by rw [h.size]; exact lt_of_some ho
  have hset : ∀ j, (listed.setIfInBounds i true).getD j false = true → j = i ∨ listed.getD j false = true := fun j hj => by
    by_cases hij : i = j
    · exact .inl hij.symm
    · rw [getD_set_ne false hij] at hj; exact .inr hj
  refine ⟨by simp [h.size], fun j p hp hj e he hb => ?_, fun j p t hp hj ht => ?_, fun t ht => ?_, by rw [put_size, h.frame], by rw [put_defers', h.defers], Turns.trans h.below hw⟩
  · rcases hset j hj with rfl | hj
    · rw [hp] at ho; cases ho
      exact getD_set_true (hall e he hb)
    · exact getD_set_true (h.deps j p hp hj e he hb)
  · by_cases hji : j = i
    · subst hji
      rw [hp] at ho; cases ho
      rw [ht, eval_put_same (by rw [h.frame, hn]; exact (hF _ _ hp).2.1 t ht)]
      exact hr
    · rcases hset j hj with rfl | hj
      · exact absurd rfl hji
      · have hne : o.dst ≠ some t := ((hF i o ho).2.2 j p t hp hji ht).1
        have : (c.put o.dst x).eval (.tmp t) = c.eval (.tmp t) := by
          cases hd : o.dst with
          | none => rfl
          | some u => exact eval_put_ne (fun e => hne (by rw [hd, e]))
        rw [this]
        exact hk j _ _ _ (h.done j p t hp hj ht) hw
  · have hne : o.dst ≠ some t := ht i o ho (getD_set_self hil)
    have : (c.put o.dst x).eval (.tmp t) = c.eval (.tmp t) := by
      cases hd : o.dst with
      | none => rfl
      | some u => exact eval_put_ne (fun e => hne (by rw [hd, e]))
    rw [this]
    exact h.rest t fun j p hp hj => ht j p hp (getD_set_true hj)

theorem Along.looks (hF : Formed ops n) {listed : Array Bool} {c : Act} {w : World} {i : Nat} {o : Oper} (h : Along R ops r w0 a listed c w) (ho : ops[i]? = some o) (hi : i ∈ Region.ready .any ops listed)
    (t : Tmp) (ht : t ∈ o.looksAt ops) : slotsBy ops r (fun t x _ => x = a.eval (.tmp t)) i t (c.eval (.tmp t)) w := by
  obtain ⟨hun, o', ho', hall⟩ := mem_ready.1 hi
  obtain rfl : o = o' := by rw [ho] at ho'; exact Option.some.inj ho'
  have hil : i < listed.size := by rw [h.size]; exact lt_of_some ho
  have hunf : listed.getD i false ≠ true := by
    intro hh
    have : listed.getD i true = true := by simp [hil] at hh ⊢; exact hh
    rw [hun] at this; cases this
  by_cases hex : ∃ j, j < i ∧ ∃ p, ops[j]? = some p ∧ p.dst = some t
  · obtain ⟨j, hji, p, hp, hd⟩ := hex
    rw [slotsBy_of hF hji hp hd]
    rcases ((hF i o ho).2.2 j p t hp (by omega) hd).2 ht with ⟨_, e, he, hb, rfl⟩ | ⟨hlt, _⟩
    · exact h.done _ p t hp (hall e he hb) hd
    · omega
  · rw [slotsBy_none fun j hj hd => hex ⟨j, hj, by
      cases hp : ops[j]? with
      | none => rw [hp] at hd; cases hd
      | some p => rw [hp] at hd; exact ⟨p, rfl, hd⟩⟩]
    refine h.rest t fun j p hp hj hd => ?_
    have hne : j ≠ i := fun e => hunf (e ▸ hj)
    rcases ((hF i o ho).2.2 j p t hp hne hd).2 ht with ⟨hlt, _⟩ | ⟨_, e, he, hb, rfl⟩
    · exact hex ⟨j, hlt, p, hp, hd⟩
    · exact hunf (h.deps j p hp hj e he hb)

theorem all_listed (hF : Formed ops n) {listed : Array Bool} (hs : listed.size = ops.size) (h : Region.ready .any ops listed = []) : ∀ i, i < ops.size → listed.getD i false = true := by
  intro i
  induction i using Nat.strongRecOn with
  | _ i ih =>
    intro hi
    rcases Bool.eq_false_or_eq_true (listed.getD i false) with ht | hf
    · exact ht
    · exfalso
      have hmem : i ∈ Region.ready .any ops listed := by
        refine mem_ready.2 ⟨?_, ops[i], Array.getElem?_eq_getElem hi, fun e he hb => ?_⟩
        · have hil : i < listed.size := by omega
          simp [hil] at hf ⊢; exact hf
        · have := (hF i _ (Array.getElem?_eq_getElem hi)).1 e he hb
          exact ih _ this (by omega)
      rw [h] at hmem
      cases hmem

theorem count_set {l : Array Bool} {i : Nat} (h : i < l.size) (hf : l.getD i true = false) : (l.setIfInBounds i true).toList.count false + 1 = l.toList.count false := by
  have hl : i < l.toList.length := by simpa using h
  have hx : l.toList[i] = false := by simp [h] at hf; simpa using hf
  rw [Array.toList_setIfInBounds, List.count_set hl, hx]
  have : 0 < l.toList.count false := List.count_pos_iff.2 (hx ▸ List.getElem_mem hl)
  show ((l.toList.count false - 1) + 0) + 1 = _
  omega

theorem replicate_getD (n j : Nat) : (Array.replicate n false).getD j false = false := by
  rw [Array.getD_eq_getD_getElem?, Array.getElem?_replicate]
  split <;> rfl

theorem wpAny_along [Turns R] (hF : Formed ops n) (hn : a.tmps.size = n) (hk : ∀ k, (r k).keeps R) (hS : ∀ i o, ops[i]? = some o → Serves R P ops w0 o (slotsBy ops r (fun t x _ => x = a.eval (.tmp t)) i) (r i))
    {Q : Exit → Act → World → Prop}
    (hQ : ∀ c w, R w0 w → c.tmps.size = a.tmps.size → c.defers = a.defers → (∀ t, slotsBy ops r (fun t x _ => x = a.eval (.tmp t)) ops.size t (c.eval (.tmp t)) w) → Q .normal c w) :
    ∀ (fuel : Nat) (listed : Array Bool) (c : Act) (w : World), listed.toList.count false ≤ fuel → Along R ops r w0 a listed c w → wpAny P .any ops Q fuel listed c w := by
  have hend : ∀ (listed : Array Bool) (c : Act) (w : World), Along R ops r w0 a listed c w → Region.ready .any ops listed = [] → Q .normal c w := fun listed c w h h0 => by
    have hall := all_listed hF h.size h0
    refine hQ c w h.below h.frame h.defers fun t => ?_
    by_cases hex : ∃ (j : Nat) (p : Oper), ops[j]? = some p ∧ p.dst = some t
    · obtain ⟨j, p, hp, hd⟩ := hex
      rw [slotsBy_of hF (lt_of_some hp) hp hd]
      exact h.done j p t hp (hall j (lt_of_some hp)) hd
    · rw [slotsBy_none fun j hj hd => hex ⟨j, by
        cases hp : ops[j]? with
        | none => rw [hp] at hd; cases hd
        | some p => rw [hp] at hd; exact ⟨p, rfl, hd⟩⟩]
      exact h.rest t fun j p hp _ hd => hex ⟨j, p, hp, hd⟩
  intro fuel
  induction fuel with
  | zero =>
    intro listed c w hc h
    have h0 : Region.ready .any ops listed = [] := by
      cases hr : Region.ready .any ops listed with
      | nil => rfl
      | cons i l =>
        have hi : i ∈ Region.ready .any ops listed := by rw [hr]; exact List.mem_cons_self
        obtain ⟨hun, o, ho, _⟩ := mem_ready.1 hi
        have hil : i < listed.size := by rw [h.size]; exact lt_of_some ho
        have := count_set hil hun
        omega
    exact ⟨h0, hend _ _ _ h h0⟩
  | succ fuel ih =>
    intro listed c w hc h
    refine ⟨hend _ _ _ h, fun i hi => ?_⟩
    obtain ⟨hun, o, ho, _⟩ := mem_ready.1 hi
    have hil : i < listed.size := by rw [h.size]; exact lt_of_some ho
    have hcnt := count_set hil hun
    unfold wpOp
    rw [ho]
    simp only []
    rcases hS i o ho c w h.below (h.looks hF ho hi) with ⟨h1, h2⟩ | ⟨h1, h2⟩
    · rw [h1]
      exact ih _ _ _ (by omega) (h.step hF hn hk ho hi (Turns.refl w) h2)
    · rw [h1]
      exact .inl (h2 _ _ fun x w' hb hr => ih _ _ _ (by omega) (h.step hF hn hk ho hi hb hr))
end

/-- The walk: one operation behind another, in the order of the text. -/
def wpLex (R : World → World → Prop) (P : Program) (ops : Array Oper) (w0 : World) (Fin : (Tmp → Held) → Prop) : List Oper → (Tmp → Held) → Prop
  | [], s => Fin s
  | o :: rest, s => ∃ r : Held, r.keeps R ∧ Serves R P ops w0 o s r ∧ wpLex R P ops w0 Fin rest (fun t => if o.dst = some t then r else s t)

theorem wpLex_get {R : World → World → Prop} {P : Program} {ops : Array Oper} {w0 : World} {Fin : (Tmp → Held) → Prop} : ∀ (l : List Oper) (k : Nat) (r : Nat → Held) (s0 : Tmp → Held), (∀ j, l[j]? = ops[k + j]?) →
    (∀ j, j < k → (r j).keeps R) → (∀ j o, j < k → ops[j]? = some o → Serves R P ops w0 o (slotsBy ops r s0 j) (r j)) → wpLex R P ops w0 Fin l (slotsBy ops r s0 k) →
    ∃ r' : Nat → Held, (∀ j, (r' j).keeps R) ∧ (∀ j o, ops[j]? = some o → Serves R P ops w0 o (slotsBy ops r' s0 j) (r' j)) ∧ Fin (slotsBy ops r' s0 (k + l.length))
  | [], k, r, s0, hl, h1, h2, h => by
    have hs : ∀ m, m ≤ k → slotsBy ops (fun j => if j < k then r j else fun _ _ => True) s0 m = slotsBy ops r s0 m := by
      intro m
      induction m with
      | zero => intro _; rfl
      | succ m ih =>
        intro hm
        funext t
        unfold slotsBy
        rw [ih (by omega), if_pos (show m < k by omega)]
    have hsz : ∀ j o, ops[j]? = some o → j < k := fun j o ho => by
      rcases Nat.lt_or_ge j k with hlt | hge
      · exact hlt
      · have := hl (j - k)
        rw [show k + (j - k) = j by omega, ho] at this
        cases this
    refine ⟨fun j => if j < k then r j else fun _ _ => True, fun j => ?_, fun j o ho => ?_, ?_⟩
    · by_cases hj : j < k
      · simp only [hj, if_true]; exact h1 j hj
      · simp only [hj, if_false]; exact fun _ _ _ _ _ => trivial
    · have hj := hsz j o ho
      simp only [hj, if_true]
      rw [hs j (by omega)]
      exact h2 j o hj ho
    · rw [List.length_nil, Nat.add_zero, hs k (Nat.le_refl _)]
      exact h
  | o :: rest, k, r, s0, hl, h1, h2, h => by
    obtain ⟨q, hq, hsv, hrest⟩ := h
    have ho : ops[k]? = some o := by simpa using (hl 0).symm
    have hs : ∀ m, m ≤ k → slotsBy ops (fun j => if j = k then q else r j) s0 m = slotsBy ops r s0 m := by
      intro m
      induction m with
      | zero => intro _; rfl
      | succ m ih =>
        intro hm
        funext t
        unfold slotsBy
        rw [ih (by omega), if_neg (show m ≠ k by omega)]
    have := wpLex_get rest (k + 1) (fun j => if j = k then q else r j) s0 (fun j => by have := hl (j + 1); simpa [Nat.add_assoc, Nat.add_comm 1 j] using this)
      (fun j hj => by
        by_cases hjk : j = k
        · simp only [hjk, if_true]; exact hq
        · simp only [hjk, if_false]; exact h1 j (by omega))
      (fun j p hj hp => by
        rw [hs j (by omega)]
        by_cases hjk : j = k
        · subst hjk
          simp only [if_true]
          rw [hp] at ho; cases ho
          exact hsv
        · simp only [hjk, if_false]; exact h2 j p (by omega) hp)
      (by
        have : slotsBy ops (fun j => if j = k then q else r j) s0 (k + 1) = fun t => if o.dst = some t then q else slotsBy ops r s0 k t := by
          funext t
          show (if (ops[k]?).bind (·.dst) = some t then _ else _) = _
          rw [hs k (Nat.le_refl _), ho]
          simp
        rw [this]
        exact hrest)
    rwa [show k + 1 + rest.length = k + (o :: rest).length by simp; omega] at this

/-- The region. -/
theorem wp_region_lex {R : World → World → Prop} [Turns R] {P : Program} {id : Nat} {Q : Exit → Act → World → Prop} {a : Act} {w : World} {l : List Oper} (hm : P.follows .mixedOrders = true) (hB : formedB l.toArray a.tmps.size = true)
    (h : wpLex R P l.toArray w (fun s => ∀ c w', R w w' → c.tmps.size = a.tmps.size → c.defers = a.defers → (∀ t, s t (c.eval (.tmp t)) w') → Q .normal c w') l (fun t x _ => x = a.eval (.tmp t))) :
    (Code.region id l.toArray true).wp P Q a w := by
  obtain ⟨r, h1, h2, h3⟩ := wpLex_get (ops := l.toArray) l 0 (fun _ _ _ => True) (fun t x _ => x = a.eval (.tmp t)) (fun j => by simp) (fun j hj => by omega) (fun j _ hj => by omega) h
  refine wp_region_any hm ?_
  have hF := formed_of hB
  refine wpAny_along hF rfl h1 h2 (fun c w' hb hs hd ht => h3 c w' hb hs hd (by simpa using ht)) _ _ _ _ ?_ ⟨by simp, fun j p hp hj => ?_, fun j p t hp hj => ?_, fun _ _ => rfl, rfl, rfl, Turns.drew w⟩
  · rw [Array.toList_replicate]; exact Nat.le_trans List.count_le_length (by simp)
  · rw [replicate_getD] at hj; cases hj
  · rw [replicate_getD] at hj; cases hj

/-! ### The last operation, to which all others lead -/

def ledB (ops : Array Oper) (m : Nat) : Bool :=
  decide (ops.size = m + 1) && (List.range m).all fun j => (List.range ops.size).any fun k => decide (j < k) && match ops[k]? with
    | none => false
    | some p => p.after.toList.any fun e => Region.binds .any e && decide (e.on = j)

theorem led_of {ops : Array Oper} {m : Nat} (h : ledB ops m = true) : ops.size = m + 1 ∧ ∀ j, j < m → ∃ k p, j < k ∧ ops[k]? = some p ∧ ∃ e ∈ p.after, Region.binds .any e = true ∧ e.on = j := by
  unfold ledB at h
  rw [Bool.and_eq_true, decide_eq_true_eq, List.all_eq_true] at h
  refine ⟨h.1, fun j hj => ?_⟩
  have := h.2 j (List.mem_range.2 hj)
  rw [List.any_eq_true] at this
  obtain ⟨k, hk, hb⟩ := this
  rw [Bool.and_eq_true, decide_eq_true_eq] at hb
  obtain ⟨h1, h2⟩ := hb
  cases hp : ops[k]? with
  | none => rw [hp] at h2; cases h2
  | some p =>
    rw [hp] at h2
    simp only [List.any_eq_true, Bool.and_eq_true, decide_eq_true_eq] at h2
    obtain ⟨e, he, hb⟩ := h2
    exact ⟨k, p, h1, hp, e, Array.mem_toList_iff.1 he, hb.1, hb.2⟩

section
variable {R : World → World → Prop} {P : Program} {ops : Array Oper} {n m : Nat} {r : Nat → Held} {w0 : World} {a : Act}

/-- Where the last one may come up all others have. -/
theorem led_all (hsz : ops.size = m + 1) (hl : ∀ j, j < m → ∃ k p, j < k ∧ ops[k]? = some p ∧ ∃ e ∈ p.after, Region.binds .any e = true ∧ e.on = j) {listed : Array Bool} {c : Act} {w : World} (h : Along R ops r w0 a listed c w)
    (hm : m ∈ Region.ready .any ops listed) : ∀ d j, j + d + 1 = m → listed.getD j false = true := by
  intro d
  induction d using Nat.strongRecOn with
  | _ d ih =>
    intro j hj
    obtain ⟨k, p, hjk, hp, e, he, hb, rfl⟩ := hl j (by omega)
    have hk : k < ops.size := lt_of_some hp
    by_cases hkm : k = m
    · subst hkm
      obtain ⟨_, o, ho, hall⟩ := mem_ready.1 hm
      rw [hp] at ho; cases ho
      exact hall e he hb
    · exact h.deps k p hp (ih (m - 1 - k) (by omega) k (by omega)) e he hb

theorem wpAny_led [Turns R] (hF : Formed ops n) (hn : a.tmps.size = n) (hk : ∀ k, (r k).keeps R) (hsz : ops.size = m + 1) (hl : ∀ j, j < m → ∃ k p, j < k ∧ ops[k]? = some p ∧ ∃ e ∈ p.after, Region.binds .any e = true ∧ e.on = j)
    (hS : ∀ i o, i < m → ops[i]? = some o → Serves R P ops w0 o (slotsBy ops r (fun t x _ => x = a.eval (.tmp t)) i) (r i)) {Q : Exit → Act → World → Prop}
    (hQ : ∀ c w, R w0 w → c.tmps.size = a.tmps.size → c.defers = a.defers → (∀ t, slotsBy ops r (fun t x _ => x = a.eval (.tmp t)) m t (c.eval (.tmp t)) w) → wpOp P ops Q m (Q .normal) c w) :
    ∀ (fuel : Nat) (listed : Array Bool) (c : Act) (w : World), listed.toList.count false ≤ fuel → Along R ops r w0 a listed c w → listed.getD m true = false → wpAny P .any ops Q fuel listed c w := by
  have hnot : ∀ (listed : Array Bool) (c : Act) (w : World), Along R ops r w0 a listed c w → listed.getD m true = false → Region.ready .any ops listed ≠ [] := fun listed c w h hm h0 => by
    have := all_listed hF h.size h0 m (by omega)
    have hlt := getD_lt this
    simp [hlt] at this hm
    rw [hm] at this; cases this
  intro fuel
  induction fuel with
  | zero =>
    intro listed c w hc h hm
    exfalso
    have hml : m < listed.size := by rw [h.size]; omega
    have := count_set hml hm
    omega
  | succ fuel ih =>
    intro listed c w hc h hm
    refine ⟨fun h0 => absurd h0 (hnot _ _ _ h hm), fun i hi => ?_⟩
    obtain ⟨hun, o, ho, _⟩ := mem_ready.1 hi
    have hil : i < listed.size := by rw [h.size]; exact lt_of_some ho
    have hcnt := count_set hil hun
    by_cases him : i = m
    · subst him
      have hall := led_all hsz hl h hi
      have hfit : ∀ t, slotsBy ops r (fun t x _ => x = a.eval (.tmp t)) i t (c.eval (.tmp t)) w := fun t => by
        by_cases hex : ∃ (j : Nat) (p : Oper), j < i ∧ ops[j]? = some p ∧ p.dst = some t
        · obtain ⟨j, p, hji, hp, hd⟩ := hex
          rw [slotsBy_of hF hji hp hd]
          exact h.done j p t hp (hall (i - 1 - j) j (by omega)) hd
        · rw [slotsBy_none fun j hj hd => hex ⟨j, by
            cases hp : ops[j]? with
            | none => rw [hp] at hd; cases hd
            | some p => rw [hp] at hd; exact ⟨p, hj, rfl, hd⟩⟩]
          refine h.rest t fun j p hp hj hd => hex ⟨j, p, ?_, hp, hd⟩
          have hjs := lt_of_some hp
          have hne : j ≠ i := fun e => by
            subst e
            simp [hil] at hun hj
            rw [hun] at hj; cases hj
          omega
      refine wpOp_mono (fun c' w' hq => ?_) (hQ c w h.below h.frame h.defers hfit)
      have hempty : Region.ready .any ops (listed.setIfInBounds i true) = [] := by
        cases hr : Region.ready .any ops (listed.setIfInBounds i true) with
        | nil => rfl
        | cons k l =>
          exfalso
          have hk' : k ∈ Region.ready .any ops (listed.setIfInBounds i true) := by rw [hr]; exact List.mem_cons_self
          obtain ⟨hku, p, hp, _⟩ := mem_ready.1 hk'
          have hks := lt_of_some hp
          have hkl : (listed.setIfInBounds i true).getD k false = true := by
            by_cases hki : k = i
            · subst hki; exact getD_set_self hil
            · exact getD_set_true (hall (i - 1 - k) k (by omega))
          have hlt := getD_lt hkl
          rw [Array.size_setIfInBounds] at hlt
          simp [hlt] at hku hkl
          rw [hku] at hkl; cases hkl
      cases fuel with
      | zero => exact ⟨hempty, hq⟩
      | succ fuel => exact ⟨fun _ => hq, fun k hk => by rw [hempty] at hk; cases hk⟩
    · have hlt : i < m := by have := lt_of_some ho; omega
      have hm' : (listed.setIfInBounds i true).getD m true = false := by rw [getD_set_ne true him]; exact hm
      unfold wpOp
      rw [ho]
      simp only []
      rcases hS i o hlt ho c w h.below (h.looks hF ho hi) with ⟨h1, h2⟩ | ⟨h1, h2⟩
      · rw [h1]
        exact ih _ _ _ (by omega) (h.step hF hn hk ho hi (Turns.refl w) h2) hm'
      · rw [h1]
        exact .inl (h2 _ _ fun x w' hb hr => ih _ _ _ (by omega) (h.step hF hn hk ho hi hb hr) hm')
end

/-! ### The rules of the walk: the frame is written out; some slots are hidden behind a relation -/

def heldBy : List (Tmp × Held) → Tmp → Option Held
  | [], _ => none
  | (k, r) :: H, t => if k = t then some r else heldBy H t

def fits (H : List (Tmp × Held)) (a : Act) : Tmp → Held := fun t => match heldBy H t with
  | some r => r
  | none => fun x _ => x = a.eval (.tmp t)

/-- The walk at a frame. -/
def lexAt (R : World → World → Prop) (P : Program) (ops : Array Oper) (w0 : World) (n : Nat) (ds : List Deferred) (F : Act → World → Prop) (l : List Oper) (H : List (Tmp × Held)) (a : Act) : Prop :=
  wpLex R P ops w0 (fun s => ∀ c w', R w0 w' → c.tmps.size = n → c.defers = ds → (∀ t, s t (c.eval (.tmp t)) w') → F c w') l (fits H a)

theorem wp_region_at {R : World → World → Prop} [Turns R] {P : Program} {id : Nat} {Q : Exit → Act → World → Prop} {a : Act} {w : World} {l : List Oper} (hm : P.follows .mixedOrders = true) (hB : formedB l.toArray a.tmps.size = true)
    (h : lexAt R P l.toArray w a.tmps.size a.defers (Q .normal) l [] a) : (Code.region id l.toArray true).wp P Q a w := wp_region_lex hm hB h

def hideAll : List (Tmp × Held) → Act → World → (Act → Prop) → Prop
  | [], a, _, F => F a
  | (k, r) :: H, a, w, F => ∀ x, r x w → hideAll H (a.put (some k) x) w F

def apartB : List (Tmp × Held) → Bool
  | [] => true
  | (k, _) :: H => (heldBy H k).isNone && apartB H

theorem hideAll_use : ∀ (H : List (Tmp × Held)) (a : Act) (w : World) (F : Act → Prop), apartB H = true → hideAll H a w F → ∀ c : Act, c.tmps.size = a.tmps.size → c.defers = a.defers → (∀ t, fits H a t (c.eval (.tmp t)) w) → F c
  | [], a, w, F, _, h, c, h1, h2, h3 => by
    have : c = a := by
      cases c; cases a
      simp only at h1 h2
      subst h2
      congr 1
      apply Array.ext h1
      intro i hi hj
      have := h3 i
      unfold fits heldBy at this
      simpa [Act.eval, hi, hj] using this
    exact this ▸ h
  | (k, r) :: H, a, w, F, hap, h, c, h1, h2, h3 => by
    unfold apartB at hap
    rw [Bool.and_eq_true] at hap
    have hr : r (c.eval (.tmp k)) w := by
      have := h3 k
      unfold fits heldBy at this
      simpa using this
    refine hideAll_use H _ w F hap.2 (h (c.eval (.tmp k)) hr) c (by rw [put_size]; exact h1) (by rw [put_defers']; exact h2) fun t => ?_
    by_cases hk : k = t
    · subst hk
      unfold fits
      cases hh : heldBy H k with
      | some q => rw [hh] at hap; cases hap.1
      | none =>
        simp only []
        rcases Nat.lt_or_ge k a.tmps.size with hlt | hge
        · rw [eval_put_same hlt]
        · have e1 : c.eval (.tmp k) = undef := by simp [Act.eval, show c.tmps.size ≤ k by omega]
          have e2 : ∀ x, (a.put (some k) x).eval (.tmp k) = undef := fun x => by simp [Act.eval, Act.put, hge]
          rw [e2]; exact e1
    · have := h3 t
      unfold fits at this ⊢
      rw [show heldBy ((k, r) :: H) t = if k = t then some r else heldBy H t from rfl, if_neg hk] at this
      rw [eval_put_ne hk]
      exact this

/-- A region whose last operation all others lead to. -/
theorem wp_region_led {R : World → World → Prop} [Turns R] {P : Program} {id : Nat} {Q : Exit → Act → World → Prop} {a : Act} {w : World} {l : List Oper} {oL : Oper} (hm : P.follows .mixedOrders = true) (hB : formedB l.toArray a.tmps.size = true)
    (hL : l.getLast? = some oL) (hD : ledB l.toArray (l.length - 1) = true) (h : lexAt R P l.toArray w a.tmps.size a.defers (fun c w' => wpList P l.toArray Q [oL] c w') l.dropLast [] a) : (Code.region id l.toArray true).wp P Q a w := by
  have hF := formed_of hB
  obtain ⟨hsz, hl⟩ := led_of hD
  have hlen : l.length = (l.length - 1) + 1 := by simpa using hsz
  have hget : ∀ j, j < l.length - 1 → l.dropLast[j]? = l.toArray[j]? := fun j hj => by
    rw [List.getElem?_dropLast]; simp [hj]
  -- the walk over the list without its last
  have key : ∀ (rest : List Oper) (k : Nat) (r : Nat → Held), k + rest.length = l.length - 1 → (∀ j, j < rest.length → rest[j]? = l.toArray[k + j]?) →
      (∀ j, j < k → (r j).keeps R) → (∀ j o, j < k → l.toArray[j]? = some o → Serves R P l.toArray w o (slotsBy l.toArray r (fun t x _ => x = a.eval (.tmp t)) j) (r j)) →
      wpLex R P l.toArray w (fun s => ∀ c w', R w w' → c.tmps.size = a.tmps.size → c.defers = a.defers → (∀ t, s t (c.eval (.tmp t)) w') → wpList P l.toArray Q [oL] c w') rest (slotsBy l.toArray r (fun t x _ => x = a.eval (.tmp t)) k) →
      ∃ r' : Nat → Held, (∀ j, (r' j).keeps R) ∧ (∀ j o, j < l.length - 1 → l.toArray[j]? = some o → Serves R P l.toArray w o (slotsBy l.toArray r' (fun t x _ => x = a.eval (.tmp t)) j) (r' j)) ∧
        ∀ c w', R w w' → c.tmps.size = a.tmps.size → c.defers = a.defers → (∀ t, slotsBy l.toArray r' (fun t x _ => x = a.eval (.tmp t)) (l.length - 1) t (c.eval (.tmp t)) w') → wpList P l.toArray Q [oL] c w' := by
    intro rest
    induction rest with
    | nil =>
      intro k r hk _ h1 h2 h3
      have hk' : k = l.length - 1 := by simpa using hk
      have hs : ∀ q, q ≤ k → slotsBy l.toArray (fun j => if j < k then r j else fun _ _ => True) (fun t x _ => x = a.eval (.tmp t)) q = slotsBy l.toArray r (fun t x _ => x = a.eval (.tmp t)) q := by
        intro q
        induction q with
        | zero => intro _; rfl
        | succ q ih =>
          intro hq
          funext t
          unfold slotsBy
          rw [ih (by omega), if_pos (show q < k by omega)]
      refine ⟨fun j => if j < k then r j else fun _ _ => True, fun j => ?_, fun j o hj ho => ?_, ?_⟩
      · by_cases hj : j < k
        · simp only [hj, if_true]; exact h1 j hj
        · simp only [hj, if_false]; exact fun _ _ _ _ _ => trivial
      · have hj' : j < k := by omega
        simp only [hj', if_true]
        rw [hs j (by omega)]
        exact h2 j o hj' ho
      · rw [← hk', hs k (Nat.le_refl _)]
        exact h3
    | cons o rest ih =>
      intro k r hk hl' h1 h2 h3
      obtain ⟨q, hq, hsv, hrest⟩ := h3
      have ho : l.toArray[k]? = some o := by simpa using (hl' 0 (by simp)).symm
      have hs : ∀ m, m ≤ k → slotsBy l.toArray (fun j => if j = k then q else r j) (fun t x _ => x = a.eval (.tmp t)) m = slotsBy l.toArray r (fun t x _ => x = a.eval (.tmp t)) m := by
        intro m
        induction m with
        | zero => intro _; rfl
        | succ m ih =>
          intro hm
          funext t
          unfold slotsBy
          rw [ih (by omega), if_neg (show m ≠ k by omega)]
      refine ih (k + 1) (fun j => if j = k then q else r j) (by simp at hk; omega) (fun j hj => ?_) (fun j hj => ?_) (fun j p hj hp => ?_) ?_
      · have := hl' (j + 1) (by simp; omega)
        rw [show k + 1 + j = k + (j + 1) by omega, ← this]
        simp
      · by_cases hjk : j = k
        · simp only [hjk, if_true]; exact hq
        · simp only [hjk, if_false]; exact h1 j (by omega)
      · rw [hs j (by omega)]
        by_cases hjk : j = k
        · subst hjk
          simp only [if_true]
          rw [hp] at ho; cases ho
          exact hsv
        · simp only [hjk, if_false]; exact h2 j p (by omega) hp
      · have : slotsBy l.toArray (fun j => if j = k then q else r j) (fun t x _ => x = a.eval (.tmp t)) (k + 1) = fun t => if o.dst = some t then q else slotsBy l.toArray r (fun t x _ => x = a.eval (.tmp t)) k t := by
          funext t
          show (if (l.toArray[k]?).bind (·.dst) = some t then _ else _) = _
          rw [hs k (Nat.le_refl _), ho]
          simp
        rw [this]
        exact hrest
  obtain ⟨r, h1, h2, h3⟩ := key l.dropLast 0 (fun _ _ _ => True) (by simp) (fun j hj => by rw [Nat.zero_add]; exact hget j (by simpa using hj)) (fun j hj => by omega) (fun j _ hj => by omega) h
  refine wp_region_any hm ?_
  have hlast : l.toArray[l.length - 1]? = some oL := by rw [← hL, List.getLast?_eq_getElem?]; simp
  refine wpAny_led hF rfl h1 hsz hl h2 (fun c w' hb hs hd ht => ?_) _ _ _ _ ?_ ⟨by simp, fun j p hp hj => ?_, fun j p t hp hj => ?_, fun _ _ => rfl, rfl, rfl, Turns.drew w⟩ ?_
  · have := h3 c w' hb hs hd ht
    unfold wpOp
    rw [hlast]
    exact this
  · rw [Array.toList_replicate]; exact Nat.le_trans List.count_le_length (by simp)
  · rw [replicate_getD] at hj; cases hj
  · rw [replicate_getD] at hj; cases hj
  · rw [Array.getD_eq_getD_getElem?, Array.getElem?_replicate, if_pos (by rw [List.size_toArray]; omega)]; rfl

section
variable {R : World → World → Prop} {P : Program} {ops : Array Oper} {w0 : World} {n : Nat} {ds : List Deferred} {F : Act → World → Prop} {rest : List Oper} {H : List (Tmp × Held)} {a : Act} {o : Oper}

theorem lex_nil (h1 : a.tmps.size = n) (h2 : a.defers = ds) (h0 : apartB H = true) (h : ∀ w', R w0 w' → hideAll H a w' (fun c => F c w')) : lexAt R P ops w0 n ds F [] H a := by
  intro c w' hb hs hd ht
  exact hideAll_use H a w' _ h0 (h w' hb) c (hs.trans h1.symm) (hd.trans h2.symm) ht

/-- No hidden slot is looked at, and none is written; what is written lies in the frame. -/
def looksFree (ops : Array Oper) (H : List (Tmp × Held)) (o : Oper) : Bool := (o.looksAt ops).all fun t => (heldBy H t).isNone
def writesFree (H : List (Tmp × Held)) (a : Act) : Option Tmp → Bool
  | none => true
  | some d => decide (d < a.tmps.size) && (heldBy H d).isNone

theorem eval_of_fits (hl : looksFree ops H o = true) {c : Act} {w : World} (h : ∀ t ∈ o.looksAt ops, fits H a t (c.eval (.tmp t)) w) : ∀ t ∈ o.looksAt ops, c.eval (.tmp t) = a.eval (.tmp t) := fun t ht => by
  have h1 := h t ht
  have h2 := List.all_eq_true.1 hl t ht
  unfold fits at h1
  cases hh : heldBy H t with
  | none => rw [hh] at h1; exact h1
  | some r => rw [hh] at h2; cases h2

theorem exec_of_fits (hs : ∀ cs b, o.op ≠ .select cs b) {c : Act} (h : ∀ t ∈ o.looksAt ops, c.eval (.tmp t) = a.eval (.tmp t)) : execOp c.eval o = execOp a.eval o :=
  execOp_congr o hs fun x hx => by
    cases x with
    | tmp t => exact h t (List.mem_append_left _ (List.mem_filterMap.2 ⟨.tmp t, by simpa using hx, rfl⟩))
    | _ => rfl

theorem wanted_of_fits {c : Act} (h : ∀ g b t, o.guard = some (g, b) → (ops[g]?).bind (·.dst) = some t → c.eval (.tmp t) = a.eval (.tmp t)) : Region.wanted o (yielded ops c.tmps) = Region.wanted o (yielded ops a.tmps) := by
  unfold Region.wanted
  cases hg : o.guard with
  | none => rfl
  | some gb =>
    obtain ⟨g, b⟩ := gb
    have : yielded ops c.tmps g = yielded ops a.tmps g := by
      unfold yielded
      cases ht : (ops[g]?).bind (·.dst) with
      | none => rfl
      | some t =>
        have he := h g b t hg ht
        simp only [Act.eval, Array.getD_eq_getD_getElem?] at he
        simp only [Option.bind_some]
        cases h1 : c.tmps[t]? <;> cases h2 : a.tmps[t]? <;> rw [h1, h2] at he <;> simp only [Option.getD_none, Option.getD_some] at he
        · rw [← he]; rfl
        · rw [he]; rfl
        · rw [he]
    simp only [this]

theorem guard_looks {g : Nat} {b : Bool} {t : Tmp} (hg : o.guard = some (g, b)) (ht : (ops[g]?).bind (·.dst) = some t) : t ∈ o.looksAt ops := by
  unfold Oper.looksAt
  rw [hg]
  exact List.mem_append_right _ (by simp [ht])

theorem fits_put (hw : writesFree H a o.dst = true) (v : Value) : (fun t => if o.dst = some t then (fun x _ => x = v : Held) else fits H a t) = fits H (a.put o.dst v) := by
  funext t
  cases hd : o.dst with
  | none => simp [Act.put]
  | some d =>
    rw [hd] at hw
    simp only [writesFree, Bool.and_eq_true, decide_eq_true_eq] at hw
    by_cases hdt : d = t
    · subst hdt
      rw [if_pos rfl]
      unfold fits
      cases hh : heldBy H d with
      | some r => rw [hh] at hw; cases hw.2
      | none => simp only []; rw [eval_put_same hw.1]
    · rw [if_neg (fun e => hdt (Option.some.inj e))]
      unfold fits
      rw [eval_put_ne hdt]

/-- Whether an operation is one that only reckons. -/
def plainOp : Op → Bool
  | .move _ | .assign _ | .pick _ _ _ | .load _ _ | .binOp _ _ _ _ _ | .unOp _ _ _ | .convert _ _ _ | .fieldAddr _ _ _ | .field _ _ _ | .indexAddr _ _ _ | .index _ _ _ | .extract _ _ | .makeFunc _ _ _ | .makeInterface _ _ | .nilCheck _ => true
  | _ => false

theorem run_wrap {s : Sem Value} {w w' : World} {f : FuncId} {args : Array Value} : (do pure (Next.value (← s)) : Sem Next).run P w ≠ .ok (.enter f args) w' := by
  intro h
  rw [Sem.run_bind] at h
  cases hs : s.run P w <;> rw [hs] at h <;> simp [go_sem] at h

theorem run_last {α : Type} {s : Sem α} {g : α → Next} {w w' : World} {f : FuncId} {args : Array Value} (hg : ∀ a f args, g a ≠ .enter f args) : (do let x ← s; pure (g x) : Sem Next).run P w ≠ .ok (.enter f args) w' := by
  intro h
  rw [Sem.run_bind] at h
  cases hs : s.run P w <;> rw [hs] at h
  · simp only [Result.andThen, Sem.run_pure, Result.ok.injEq] at h
    exact hg _ _ _ h.1
  · simp [Result.andThen] at h

theorem plain_not_enter (h : plainOp o.op = true) (e : Operand → Value) (w w' : World) (f : FuncId) (args : Array Value) : (execOp e o).run P w ≠ .ok (.enter f args) w' := by
  obtain ⟨dst, op, type, pos, after, guard⟩ := o
  cases op <;> simp only [plainOp, Bool.false_eq_true] at h <;> simp only [execOp] <;> first | exact run_wrap | skip
  · intro h; simp [go_sem] at h
  · intro h; simp [go_sem] at h
  · intro h
    rw [Sem.run_bind] at h
    generalize (asBool _).run P w = q at h
    cases q <;> simp [go_sem] at h
  · split
    · intro h; simp [go_sem] at h
    · intro h; simp [go_sem] at h
    · intro h; simp [go_sem] at h
    · split
      · intro h; simp [go_sem] at h
      · exact fun h => by
          simp only [Sem.run_bind] at h
          generalize Sem.run P _ w = q at h
          cases q with
          | halt _ _ => simp [go_sem] at h
          | ok v w1 =>
            simp only [Result.andThen] at h
            generalize Sem.run P (nilAhead _ _ _ _) w1 = q at h
            cases q with
            | halt _ _ => simp at h
            | ok b w2 =>
              simp only [] at h
              split at h <;> simp [go_sem] at h
      · intro h; simp [go_sem] at h
    · intro h; simp [go_sem] at h

theorem lex_skip (hw : Region.wanted o (yielded ops a.tmps) = false) (hl : looksFree ops H o = true) (hd : writesFree H a o.dst = true) (h : lexAt R P ops w0 n ds F rest H (a.put o.dst undef)) : lexAt R P ops w0 n ds F (o :: rest) H a := by
  refine ⟨fun x _ => x = undef, fun _ _ _ h _ => h, fun c w hb hs => .inl ⟨?_, rfl⟩, ?_⟩
  · rw [wanted_of_fits fun g b t hg ht => eval_of_fits hl hs t (guard_looks hg ht)]; exact hw
  · rw [fits_put hd]; exact h

theorem lex_plain [Turns R] (hw : Region.wanted o (yielded ops a.tmps) = true) (hp : plainOp o.op = true) (hl : looksFree ops H o = true) (hd : writesFree H a o.dst = true)
    (h : o.quiet P a (fun w' => ∃ x : RW R w0, w' = x.w) (fun a' => lexAt R P ops w0 n ds F rest H a')) : lexAt R P ops w0 n ds F (o :: rest) H a := by
  obtain ⟨v, h1, h2⟩ := h
  refine ⟨fun x _ => x = v, fun _ _ _ h _ => h, fun c w hb hs => .inr ?_, by rw [fits_put hd]; exact h2⟩
  have he := eval_of_fits hl hs
  refine ⟨by rw [wanted_of_fits fun g b t hg ht => he t (guard_looks hg ht)]; exact hw, fun K Q' hK => ?_⟩
  have h3 := h1 w ⟨⟨w, hb⟩, rfl⟩
  have hne : ∀ w' f args, (execOp a.eval o).run P w ≠ .ok (.enter f args) w' := fun w' f args => plain_not_enter hp a.eval w w' f args
  unfold Oper.quietAt at h3
  unfold Oper.wp
  rw [exec_of_fits (fun cs b e => by rw [e] at hp; cases hp) he]
  generalize (execOp a.eval o).run P w = res at *
  cases res with
  | ok m w' =>
    cases m <;> simp only [Oper.quietUpon] at h3 <;> simp only [Oper.upon]
    case value u =>
      obtain ⟨rfl, rfl⟩ := h3
      exact hK _ _ (Turns.refl _) rfl
    case skip =>
      obtain ⟨rfl, rfl⟩ := h3
      exact hK _ _ (Turns.refl _) rfl
    case enter f args => exact absurd rfl (hne _ _ _)
  | halt x w' => simp only [Oper.quietUpon] at h3

/-- A call whose callee may make new memory. -/
theorem lex_call {f : FuncId} {args : Array Value} {v : Value} (hw : Region.wanted o (yielded ops a.tmps) = true) (hns : ∀ cs b, o.op ≠ .select cs b) (hl : looksFree ops H o = true) (hd : writesFree H a o.dst = true)
    (hr : ∀ w, (execOp a.eval o).run P w = .ok (.enter f args) w) (hc : ∀ w, R w0 w → Calls P f args w fun e w' => e = .returned v ∧ R w w')
    (h : lexAt R P ops w0 n ds F rest H (a.put o.dst v)) : lexAt R P ops w0 n ds F (o :: rest) H a := by
  refine ⟨fun x _ => x = v, fun _ _ _ h _ => h, fun c w hb hs => .inr ?_, by rw [fits_put hd]; exact h⟩
  have he := eval_of_fits hl hs
  refine ⟨by rw [wanted_of_fits fun g b t hg ht => he t (guard_looks hg ht)]; exact hw, fun K Q' hK => ?_⟩
  unfold Oper.wp
  rw [exec_of_fits hns he, hr]
  exact (hc w hb).mono fun e w' ⟨h1, h2⟩ => by subst h1; exact hK _ _ h2 rfl

/-- One plain operation, by the cheap step of the library's quiet walk. -/
theorem lex_one [Turns R] (hp : plainOp o.op = true) (hl : looksFree ops H o = true) (hd : writesFree H a o.dst = true)
    (h : ∀ K : Act → Prop, (∀ a', lexAt R P ops w0 n ds F rest H a' → K a') → wpQuiet P ops (fun w' => ∃ x : RW R w0, w' = x.w) K [o] a) : lexAt R P ops w0 n ds F (o :: rest) H a := by
  have h' := h _ fun _ h => h
  unfold wpQuiet at h'
  by_cases hw : Region.wanted o (yielded ops a.tmps) = true
  · rw [if_pos hw] at h'; exact lex_plain hw hp hl hd h'
  · rw [if_neg hw] at h'; exact lex_skip (by simpa using hw) hl hd h'

/-- A value is laid into its slot: by the same step. -/
theorem lex_put [Turns R] {dst : Option Tmp} {v : Value} {type : TypeId} {pos : String}
    (h : ∀ K : Act → Prop, (∀ a', lexAt R P ops w0 n ds F rest H a' → K a') → wpQuiet P ops (fun w' => ∃ x : RW R w0, w' = x.w) K [⟨dst, .move (.const v), type, pos, #[], none⟩] a) : lexAt R P ops w0 n ds F rest H (a.put dst v) := by
  have h' := h _ fun _ h => h
  unfold wpQuiet at h'
  rw [if_pos (by rfl)] at h'
  obtain ⟨u, h1, h2⟩ := h'
  have h3 := h1 w0 ⟨⟨w0, Turns.refl w0⟩, rfl⟩
  obtain rfl : u = v := by
    have : Oper.quietUpon P (fun w' => ∃ x : RW R w0, w' = x.w) w0 u (.ok (.value v) w0) := h3
    exact this.2.symm
  exact h2

/-- An operation that makes memory: its slot is hidden. -/
theorem lex_make {d : Tmp} {r : Held} (hk : r.keeps R) (hw : Region.wanted o (yielded ops a.tmps) = true) (hns : ∀ cs b, o.op ≠ .select cs b) (hl : looksFree ops H o = true) (hd : o.dst = some d)
    (hr : ∀ w, R w0 w → ∃ x w', (execOp a.eval o).run P w = .ok (.value x) w' ∧ R w w' ∧ r x w') (h : lexAt R P ops w0 n ds F rest ((d, r) :: H) a) : lexAt R P ops w0 n ds F (o :: rest) H a := by
  refine ⟨r, hk, fun c w hb hs => .inr ?_, ?_⟩
  · have he := eval_of_fits hl hs
    refine ⟨by rw [wanted_of_fits fun g b t hg ht => he t (guard_looks hg ht)]; exact hw, fun K Q' hK => ?_⟩
    obtain ⟨x, w', h1, h2, h3⟩ := hr w hb
    unfold Oper.wp
    rw [exec_of_fits hns he, h1]
    exact hK _ _ h2 h3
  · have : (fun t => if o.dst = some t then r else fits H a t) = fits ((d, r) :: H) a := by
      funext t
      rw [hd]
      unfold fits
      rw [show heldBy ((d, r) :: H) t = if d = t then some r else heldBy H t from rfl]
      by_cases hdt : d = t
      · simp [hdt]
      · simp [hdt]
    rw [this]
    exact h

/-- A call whose answer is hidden behind a relation. -/
theorem lex_callh {f : FuncId} {args : Array Value} {d : Tmp} {r : Held} (hk : r.keeps R) (hw : Region.wanted o (yielded ops a.tmps) = true) (hns : ∀ cs b, o.op ≠ .select cs b) (hl : looksFree ops H o = true) (hd : o.dst = some d)
    (hr : ∀ w, (execOp a.eval o).run P w = .ok (.enter f args) w) (hc : ∀ w, R w0 w → Calls P f args w fun e w' => ∃ x, e = .returned x ∧ R w w' ∧ r x w')
    (h : lexAt R P ops w0 n ds F rest ((d, r) :: H) a) : lexAt R P ops w0 n ds F (o :: rest) H a := by
  refine ⟨r, hk, fun c w hb hs => .inr ?_, ?_⟩
  · have he := eval_of_fits hl hs
    refine ⟨by rw [wanted_of_fits fun g b t hg ht => he t (guard_looks hg ht)]; exact hw, fun K Q' hK => ?_⟩
    unfold Oper.wp
    rw [exec_of_fits hns he, hr]
    exact (hc w hb).mono fun e w' ⟨x, h1, h2, h3⟩ => by subst h1; exact hK _ _ h2 h3
  · have : (fun t => if o.dst = some t then r else fits H a t) = fits ((d, r) :: H) a := by
      funext t
      rw [hd]
      unfold fits
      rw [show heldBy ((d, r) :: H) t = if d = t then some r else heldBy H t from rfl]
      by_cases hdt : d = t
      · simp [hdt]
      · simp [hdt]
    rw [this]
    exact h

/-- An operation that only reads, by its run. -/
theorem lex_val [Turns R] {v : Value} (hw : Region.wanted o (yielded ops a.tmps) = true) (hns : ∀ cs b, o.op ≠ .select cs b) (hl : looksFree ops H o = true) (hd : writesFree H a o.dst = true)
    (hr : ∀ w, R w0 w → (execOp a.eval o).run P w = .ok (.value v) w) (h : lexAt R P ops w0 n ds F rest H (a.put o.dst v)) : lexAt R P ops w0 n ds F (o :: rest) H a := by
  refine ⟨fun x _ => x = v, fun _ _ _ h _ => h, fun c w hb hs => .inr ?_, by rw [fits_put hd]; exact h⟩
  have he := eval_of_fits hl hs
  refine ⟨by rw [wanted_of_fits fun g b t hg ht => he t (guard_looks hg ht)]; exact hw, fun K Q' hK => ?_⟩
  unfold Oper.wp
  rw [exec_of_fits hns he, hr w hb]
  exact hK _ _ (Turns.refl _) rfl

/-- Any operation, by a proof of its own; its slot is hidden. -/
theorem lex_any {d : Tmp} {r : Held} (hk : r.keeps R) (hs : Serves R P ops w0 o (fits H a) r) (hd : o.dst = some d) (h : lexAt R P ops w0 n ds F rest ((d, r) :: H) a) : lexAt R P ops w0 n ds F (o :: rest) H a := by
  refine ⟨r, hk, hs, ?_⟩
  have : (fun t => if o.dst = some t then r else fits H a t) = fits ((d, r) :: H) a := by
    funext t
    rw [hd]
    unfold fits
    rw [show heldBy ((d, r) :: H) t = if d = t then some r else heldBy H t from rfl]
    by_cases hdt : d = t
    · simp [hdt]
    · simp [hdt]
  rw [this]
  exact h

/-- What is turned out of a hidden slot. -/
theorem lex_turn [Turns R] {d : Tmp} {r : Held} {v : Value} {s t : TypeId} (hw : Region.wanted o (yielded ops a.tmps) = true) (hop : o.op = .convert s t (.tmp d)) (hh : heldBy H d = some r)
    (hl : (match o.guard with | none => true | some (g, _) => match (ops[g]?).bind (·.dst) with | none => true | some t => (heldBy H t).isNone) = true) (hd : writesFree H a o.dst = true)
    (hr : ∀ x w, r x w → (convert s t x).run P w = .ok v w) (h : lexAt R P ops w0 n ds F rest H (a.put o.dst v)) : lexAt R P ops w0 n ds F (o :: rest) H a := by
  refine ⟨fun x _ => x = v, fun _ _ _ h _ => h, fun c w hb hs => .inr ?_, by rw [fits_put hd]; exact h⟩
  refine ⟨?_, fun K Q' hK => ?_⟩
  · rw [wanted_of_fits (a := a) fun g b u hg hu => ?_]
    · exact hw
    · rw [hg] at hl
      simp only [hu] at hl
      have := hs u (guard_looks hg hu)
      unfold fits at this
      cases hh : heldBy H u with
      | none => rw [hh] at this; exact this
      | some q => rw [hh] at hl; cases hl
  · have h1 := hs d (List.mem_append_left _ (by rw [hop]; simp [Op.operands]))
    unfold fits at h1
    rw [hh] at h1
    have h2 := hr _ _ h1
    unfold Oper.wp execOp
    rw [hop]
    simp only []
    have : (do pure (Next.value (← convert s t (c.eval (.tmp d)))) : Sem Next).run P w = .ok (.value v) w := by rw [Sem.run_bind, h2]; rfl
    rw [this]
    exact hK _ _ (Turns.refl _) rfl
end

section
variable {R : World → World → Prop} {P : Program} {ops : Array Oper} {w0 : World} {n : Nat} {ds : List Deferred} {F : Act → World → Prop} {rest : List Oper} {H : List (Tmp × Held)} {a : Act} {o : Oper}
/-- The steps, their plain premises found by themselves. -/
theorem lx1 [Turns R] (h : ∀ K : Act → Prop, (∀ a', lexAt R P ops w0 n ds F rest H a' → K a') → wpQuiet P ops (fun w' => ∃ x : RW R w0, w' = x.w) K [o] a) (hp : plainOp o.op = true := by kernel_rfl) (hl : looksFree ops H o = true := by kernel_rfl) (hd : writesFree H a o.dst = true := by kernel_rfl) : lexAt R P ops w0 n ds F (o :: rest) H a := lex_one hp hl hd h
theorem lxn (h : ∀ w', R w0 w' → hideAll H a w' (fun c => F c w')) (h1 : a.tmps.size = n := by kernel_rfl) (h2 : a.defers = ds := by kernel_rfl) (h0 : apartB H = true := by kernel_rfl) : lexAt R P ops w0 n ds F [] H a := lex_nil h1 h2 h0 h
theorem lxc [Turns R] {f : FuncId} {args : Array Value} {v : Value} (hc : ∀ w, R w0 w → Calls P f args w fun e w' => e = .returned v ∧ R w w') (h : ∀ K : Act → Prop, (∀ a', lexAt R P ops w0 n ds F rest H a' → K a') → wpQuiet P ops (fun w' => ∃ x : RW R w0, w' = x.w) K [⟨o.dst, .move (.const v), 0, "", #[], none⟩] a)
    (hw : Region.wanted o (yielded ops a.tmps) = true := by kernel_rfl) (hns : ∀ cs b, o.op ≠ .select cs b := by intro _ _ h; cases h) (hl : looksFree ops H o = true := by kernel_rfl) (hd : writesFree H a o.dst = true := by kernel_rfl) (hr : ∀ w, (execOp a.eval o).run P w = .ok (.enter f args) w := by intro _; go_simp) : lexAt R P ops w0 n ds F (o :: rest) H a :=
  lex_call hw hns hl hd hr hc (lex_put h)
theorem lxv [Turns R] {v : Value} (hr : ∀ w, R w0 w → (execOp a.eval o).run P w = .ok (.value v) w) (h : ∀ K : Act → Prop, (∀ a', lexAt R P ops w0 n ds F rest H a' → K a') → wpQuiet P ops (fun w' => ∃ x : RW R w0, w' = x.w) K [⟨o.dst, .move (.const v), 0, "", #[], none⟩] a)
    (hw : Region.wanted o (yielded ops a.tmps) = true := by kernel_rfl) (hns : ∀ cs b, o.op ≠ .select cs b := by intro _ _ h; cases h) (hl : looksFree ops H o = true := by kernel_rfl) (hd : writesFree H a o.dst = true := by kernel_rfl) : lexAt R P ops w0 n ds F (o :: rest) H a :=
  lex_val hw hns hl hd hr (lex_put h)
end

end Go.Proofs.YtgagcncmlonciaaGreatDoor
namespace Go.Proofs.YtgagcncmlonciaaGreatDoor
open Go.RowKit
section
variable {R : World → World → Prop} {P : Program} {ops : Array Oper} {w0 : World} {n : Nat} {ds : List Deferred} {F : Act → World → Prop} {rest : List Oper} {H : List (Tmp × Held)} {a : Act} {o : Oper}
/-- An operation that is not waited for. -/
theorem lex_none (hw : Region.wanted o (yielded ops a.tmps) = false) (hl : looksFree ops H o = true) (hd : writesFree H a o.dst = true)
    (h : ∀ K : Act → Prop, (∀ a', lexAt R P ops w0 n ds F rest H a' → K a') → wpQuiet P ops (fun w' => ∃ x : RW R w0, w' = x.w) K [o] a) : lexAt R P ops w0 n ds F (o :: rest) H a := by
  have h' := h _ fun _ h => h
  unfold wpQuiet at h'
  rw [if_neg (by simp [hw])] at h'
  exact lex_skip hw hl hd h'

theorem lx0 (h : ∀ K : Act → Prop, (∀ a', lexAt R P ops w0 n ds F rest H a' → K a') → wpQuiet P ops (fun w' => ∃ x : RW R w0, w' = x.w) K [o] a) (hw : Region.wanted o (yielded ops a.tmps) = false := by kernel_rfl) (hl : looksFree ops H o = true := by kernel_rfl) (hd : writesFree H a o.dst = true := by kernel_rfl) : lexAt R P ops w0 n ds F (o :: rest) H a := lex_none hw hl hd h
end
end Go.Proofs.YtgagcncmlonciaaGreatDoor
namespace Go.Proofs.YtgagcncmlonciaaGreatDoor
open Go.RowKit

def GrowR (a b : World) : Prop := Below a.heap.size a b
instance : Turns GrowR := ⟨fun w => Below.refl _ w, fun h k => Below.trans h (Below.mono k h.size), fun w => (Below.refl _ w).drew⟩
theorem grow_cell {w : World} {p : Addr} {v : Value} (h : w.cell? p = some v) : ∀ x : RW GrowR w, x.w.cell? p = some v := fun x => (Below.cell (show Below w.heap.size w x.w from x.is) (World.block_lt_of_cell? _ _ h)).trans h
/-- A slice of just these bytes. -/
def rowOf (l : List UInt8) : Held := fun x w => ∃ g, x = .slice (some ⟨g, 0, none⟩) l.length l.length ∧ ∀ i (h : i < l.length), w.cell? ⟨g, 0 + i, none⟩ = some (.int .u8 (l[i].toNat : Int))
theorem rowOf_keeps (l : List UInt8) : (rowOf l).keeps GrowR := fun _ _ _ ⟨g, h1, h2⟩ hb => ⟨g, h1, fun i h => (Below.cell hb (World.block_lt_of_cell? _ _ (h2 i h))).trans (h2 i h)⟩
theorem make_bytes {P : Program} {o : Oper} {a : Act} {w0 : World} (e : TypeId) (l : List UInt8)
    (h : ∀ w : World, (execOp a.eval o).run P w = .ok (.value (.slice (some ⟨w.heap.size, 0, none⟩) l.length l.length)) (w.alloc (.cells (l.map fun b => Value.int .u8 (b.toNat : Int)).toArray e))) :
    ∀ w, GrowR w0 w → ∃ x w', (execOp a.eval o).run P w = .ok (.value x) w' ∧ GrowR w w' ∧ rowOf l x w' := fun w _ =>
  ⟨_, _, h w, (Below.refl _ w).alloc (Nat.le_refl _) _, w.heap.size, rfl, fun i hi => by
    rw [Nat.zero_add, World.cell?_alloc_new]
    simp [hi]⟩
theorem turn_bytes {P : Program} (src dst e : TypeId) (hs : P.underlying src = some (.slice e)) (he : P.underlying e = some (.int .u8)) (hd : P.underlying dst = some .string) (l : List UInt8) :
    ∀ x w, rowOf l x w → (convert src dst x).run P w = .ok (.string (bs l)) w := fun x w ⟨g, h1, h2⟩ => by
  subst h1
  exact run_conv_cells src dst e hs he hd g 0 l.length l w h2
end Go.Proofs.YtgagcncmlonciaaGreatDoor
namespace Go.Proofs.YtgagcncmlonciaaGreatDoor
open Go.RowKit
attribute [local go_sem] bs_toList bs_size

def checkedB (b : List UInt8) : List UInt8 := b ++ tailB b
theorem checkedB_len (b : List UInt8) : (checkedB b).length = b.length + 4 := by unfold checkedB; rw [List.length_append, tailB_len]
def framePut (b : List UInt8) : List UInt8 := checkedB (Num.text b)
def headB (magic : List UInt8) (gen flags : Nat) : List UInt8 := checkedB (magic ++ [UInt8.ofNat gen, UInt8.ofNat flags])
/-- May it be the beginning of a number? -/
def unendedB (s : List UInt8) : Bool := s.all (fun b => decide (128 ≤ b.toNat)) && decide (s.length < 10)

set_option maxRecDepth 100000 in
theorem checked_any (b : List UInt8) (hl : b.length ≤ 1099511627776) (w : World) :
    Calls Tryz.prog 29 #[.string (bs b)] w fun e w' => e = .returned (.string (bs (checkedB b))) ∧ Below w.heap.size w w' := by
  have q := Lib.hid (Tail_any b hl w)
  have HC := Lib.hid (show checkedB b = b ++ tailB b from rfl)
  have htl := tailB_len b
  have hadd : ∀ W, (Op.stringOp .add (bs b) (bs (tailB b))).run Tryz.prog W = .ok (.string (bs (checkedB b))) W := fun W => run_add_bs (P := Tryz.prog) b (tailB b) (by omega) W
  generalize checkedB b = c at *
  generalize tailB b = t at *
  go_enter Tryz.func29, Tryz.ntmps29
  go_wp2_with fail
  refine q.out.mono ?_
  rintro e w1 ⟨rfl, hb⟩
  go_wp2
  go_ret
  exact ⟨rfl, hb⟩

set_option maxRecDepth 100000 in
theorem framePut_any (b : List UInt8) (hl : b.length ≤ 1048576) (w : World) :
    Calls Tryz.prog 85 #[.string (bs b)] w fun e w' => e = .returned (.string (bs (framePut b))) ∧ Below w.heap.size w w' := by
  have q := Lib.hid (num_Text_any b w (by omega))
  have ht : (Num.text b).length ≤ 1099511627776 := by rw [Num.text_len]; have := Num.small_len b.length; omega
  have q2 := Lib.hid (fun W => checked_any (Num.text b) ht W)
  have HP := Lib.hid (show framePut b = checkedB (Num.text b) from rfl)
  generalize checkedB (Num.text b) = c at *
  generalize Num.text b = t at *
  go_enter Tryz.func85, Tryz.ntmps85
  go_wp2_with fail
  refine q.out.mono ?_
  rintro e w1 ⟨rfl, hb⟩
  go_wp2_with fail
  refine (q2.out _).mono ?_
  rintro e w2 ⟨rfl, hb2⟩
  go_wp2
  go_ret
  exact ⟨by rw [HP.out]; rfl, hb.trans (hb2.mono hb.size)⟩

set_option maxRecDepth 100000 in
theorem unended_any (s : List UInt8) (hl : s.length ≤ 1099511627776) (w : World) :
    Calls Tryz.prog 110 #[.string (bs s)] w fun e w' => e = .returned (.bool (unendedB s)) ∧ w = w' := by
  go_enter Tryz.func110, Tryz.ntmps110
  go_wp2_with fail
  go_loop [6] (fun vi => ∃ i : Nat, i ≤ s.length ∧ vi = .int .i64 (i : Int) ∧ (s.take i).all (fun b => decide (128 ≤ b.toNat)) = true) (fun vi => s.length - (intOf vi).toNat)
  case atStart => exact ⟨0, Nat.zero_le _, rfl, rfl⟩
  obtain ⟨i, hi, rfl, hall⟩ := hrel
  rcases (show i < s.length ∨ i = s.length by omega) with hil | rfl
  · have hb := List.getElem?_eq_getElem hil
    have HN := Lib.hid (show (s.take (i + 1)).all (fun b => decide (128 ≤ b.toNat)) = ((s.take i).all (fun b => decide (128 ≤ b.toNat)) && decide (128 ≤ s[i].toNat)) by rw [List.take_succ_eq_append_getElem hil, List.all_append]; simp)
    rw [hall] at HN
    have HW := Lib.hid (show s[i].toNat < 128 → unendedB s = false from fun h => by
      unfold unendedB
      have : s.all (fun b => decide (128 ≤ b.toNat)) = false := by
        rw [List.all_eq_false]
        exact ⟨s[i], List.getElem_mem hil, by simpa using h⟩
      rw [this]
      rfl)
    generalize s[i] = b at *
    have hidx := fun W => run_index_bs (P := Tryz.prog) 9 Tryz.underlying9 s i b hb .i64 W
    have hbl := b.toNat_lt
    generalize b.toNat = n at *
    clear hall
    by_cases h : n < 128
    · have hd : (n : Int) / 128 = 0 := by omega
      have hun := HW.out h
      go_wp2
      go_ret
      exact ⟨rfl, rfl⟩
    · have hd : (n : Int) / 128 = 1 := by omega
      have hd2 : decide (128 ≤ n) = true := by simp; omega
      rw [hd2] at HN
      go_wp2_with fail
      go_round
      case rel => exact ⟨i + 1, by omega, by go_num, by rw [HN.out]; rfl⟩
      case measure => simp [intOf]; omega
  · have HU := Lib.hid (show unendedB s = decide (s.length < 10) by unfold unendedB; rw [List.take_length] at hall; rw [hall]; rfl)
    clear hall
    go_wp2
    go_ret
    refine ⟨?_, rfl⟩
    rw [HU.out]
    simp
    omega

theorem one_alloc (w : World) (o : Obj) : Below w.heap.size w (w.alloc o) := (Below.refl _ w).alloc (Nat.le_refl _) o
theorem two_conv (w : World) (a b : Nat) (ha : (UInt8.ofNat a).toNat = a) (hb : (UInt8.ofNat b).toNat = b) :
    (convert 93 9 (.slice (some ⟨w.heap.size, 0, none⟩) 2 2)).run Tryz.prog (w.alloc (.cells #[.int .u8 (a : Int), .int .u8 (b : Int)] 5)) = .ok (.string (bs [UInt8.ofNat a, UInt8.ofNat b])) (w.alloc (.cells #[.int .u8 (a : Int), .int .u8 (b : Int)] 5)) :=
  run_conv_cells 93 9 5 Tryz.underlying93 Tryz.underlying5 Tryz.underlying9 w.heap.size 0 2 [UInt8.ofNat a, UInt8.ofNat b] _ fun i h => by
    rw [Nat.zero_add, World.cell?_alloc_new]
    rcases (show i = 0 ∨ i = 1 by simp at h; omega) with rfl | rfl
    · simp [ha]
    · simp [hb]
set_option maxRecDepth 100000 in
set_option maxHeartbeats 1000000 in
theorem Head_any (magic : List UInt8) (gen flags : Nat) (hg : gen < 256) (hf : flags < 256) (hl : magic.length ≤ 1048576) (w : World) :
    Calls Tryz.prog 13 #[.string (bs magic), .int .i64 (gen : Int), .int .i64 (flags : Int)] w fun e w' => e = .returned (.string (bs (headB magic gen flags))) ∧ Below w.heap.size w w' := by
  have q := Lib.hid (fun W => checked_any (magic ++ [UInt8.ofNat gen, UInt8.ofNat flags]) (by simp; omega) W)
  have HH := Lib.hid (show headB magic gen flags = checkedB (magic ++ [UInt8.ofNat gen, UInt8.ofNat flags]) from rfl)
  have hadd : ∀ W, (Op.stringOp .add (bs magic) (bs [UInt8.ofNat gen, UInt8.ofNat flags])).run Tryz.prog W = .ok (.string (bs (magic ++ [UInt8.ofNat gen, UInt8.ofNat flags]))) W := fun W => run_add_bs (P := Tryz.prog) magic [UInt8.ofNat gen, UInt8.ofNat flags] (by simp; omega) W
  have hgm : (gen : Int) % 256 = gen := by omega
  have hfm : (flags : Int) % 256 = flags := by omega
  have hgn : (UInt8.ofNat gen).toNat = gen := Num.ofNat_toNat gen hg
  have hfn : (UInt8.ofNat flags).toNat = flags := Num.ofNat_toNat flags hf
  have hcv := two_conv w gen flags hgn hfn
  generalize [UInt8.ofNat gen, UInt8.ofNat flags] = gf at *
  generalize magic ++ gf = mgf at *
  go_enter Tryz.func13, Tryz.ntmps13
  go_wp2_with fail
  refine (q.out _).mono ?_
  rintro e w2 ⟨rfl, hb2⟩
  go_wp2
  go_ret
  exact ⟨by rw [HH.out]; rfl, (one_alloc w _).trans (hb2.mono (by simp))⟩
end Go.Proofs.YtgagcncmlonciaaGreatDoor
namespace Go.Proofs.YtgagcncmlonciaaGreatDoor
open Go.RowKit
attribute [local go_sem] bs_toList bs_size

/-- What a frame has, what is left, and its shape: 0 whole, 1 short, 2 wrong. -/
def frameGet (s : List UInt8) (most : Nat) : List UInt8 × List UInt8 × Int :=
  match Num.getSmall s with
  | none => ([], s, if unendedB s then 1 else 2)
  | some (n, k) => if most < n then ([], s, 2) else if (s.drop k).length < n + 4 then ([], s, 1)
    else if (goodB (s.take (k + n + 4))).isSome then ((s.drop k).take n, s.drop (k + n + 4), 0) else ([], s, 2)
def frameV (x : List UInt8 × List UInt8 × Int) : Value := .tuple #[.string (bs x.1), .string (bs x.2.1), .int .i64 x.2.2]

set_option maxRecDepth 100000 in
set_option maxHeartbeats 2000000 in
theorem Get_any (s : List UInt8) (most : Nat) (hl : s.length ≤ 1048576) (hm : most ≤ 1048576) (w : World) :
    Calls Tryz.prog 63 #[.string (bs s), .int .i64 (most : Int)] w fun e w' => e = .returned (frameV (frameGet s most)) ∧ Below w.heap.size w w' := by
  have k0 : Cur (w.alloc (.cells #[.string (bs s), .bool false] 199)) w.heap.size s false := Blk.new _ _ _
  have b0 := one_alloc w (.cells #[.string (bs s), .bool false] 199)
  have hG : ∀ w' : World, (w.alloc (.cells #[.string (bs s), .bool false] 199)).grownBy w' (some w.heap.size) → Below w.heap.size w w' := fun _ h => b0.grown h b0.size (fun k hk => by cases hk; exact Nat.le_refl _)
  have HG := Lib.hid hG
  clear hG b0
  cases hgs : Num.getSmall s with
  | none =>
    have q := Lib.hid (CSmall_fail _ s false _ k0 (by omega) (.inr hgs))
    have HF := Lib.hid (show frameV (frameGet s most) = .tuple #[.string ⟨#[]⟩, .string (bs s), .int .i64 (if unendedB s then 1 else 2)] by unfold frameGet; rw [hgs]; rfl)
    clear hgs k0
    have qu := Lib.hid (fun W => unended_any s (by omega) W)
    go_enter Tryz.func63, Tryz.ntmps63
    go_wp2_with fail
    refine q.out.mono ?_
    rintro e w1 ⟨rfl, k1, g1⟩
    have c1 := k1.c1
    have c0 := k1.c0
    go_wp2_with fail
    refine (qu.out _).mono ?_
    rintro e w2 ⟨rfl, rfl⟩
    cases hu : unendedB s with
    | true =>
      rw [hu] at HF
      go_wp2
      go_ret3
      exact ⟨by rw [HF.out]; rfl, HG.out _ g1⟩
    | false =>
      rw [hu] at HF
      go_wp2
      go_ret3
      exact ⟨by rw [HF.out]; rfl, HG.out _ g1⟩
  | some x =>
    obtain ⟨n, k⟩ := x
    have hbd := getSmall_bd s n k hgs
    have q := Lib.hid (CSmall_some _ s n k (s.drop k) _ k0 (by omega) hgs rfl)
    have hrl : (s.drop k).length = s.length - k := by simp
    have HF := Lib.hid (show frameGet s most = if most < n then ([], s, 2) else if (s.drop k).length < n + 4 then ([], s, 1)
      else if (goodB (s.take (k + n + 4))).isSome then ((s.drop k).take n, s.drop (k + n + 4), 0) else ([], s, 2) by unfold frameGet; rw [hgs])
    clear hgs k0
    by_cases h1 : most < n
    · have HR := Lib.hid (show frameV (frameGet s most) = .tuple #[.string ⟨#[]⟩, .string (bs s), .int .i64 2] by rw [HF.out, if_pos h1]; rfl)
      generalize s.drop k = r at *
      clear HF
      go_enter Tryz.func63, Tryz.ntmps63
      go_wp2_with fail
      refine q.out.mono ?_
      rintro e w1 ⟨rfl, k1, g1⟩
      have c1 := k1.c1
      have c0 := k1.c0
      go_wp2
      go_ret3
      exact ⟨by rw [HR.out]; rfl, HG.out _ g1⟩
    · by_cases h2 : (s.drop k).length < n + 4
      · have HR := Lib.hid (show frameV (frameGet s most) = .tuple #[.string ⟨#[]⟩, .string (bs s), .int .i64 1] by rw [HF.out, if_neg h1, if_pos h2]; rfl)
        generalize s.drop k = r at *
        clear HF
        go_enter Tryz.func63, Tryz.ntmps63
        go_wp2_with fail
        refine q.out.mono ?_
        rintro e w1 ⟨rfl, k1, g1⟩
        have c1 := k1.c1
        have c0 := k1.c0
        go_wp2
        go_ret3
        exact ⟨by rw [HR.out]; rfl, HG.out _ g1⟩
      · have hkn : k ≤ s.length := hbd.2.1
        have htk := Num.getTake_some (s.drop k) n (by omega)
        have hr2l : ((s.drop k).drop n).length = s.length - k - n := by simp; omega
        have hbl : (((s.drop k).drop n).drop 4).length = s.length - k - n - 4 := by simp; omega
        have hbe : s.drop (k + n + 4) = ((s.drop k).drop n).drop 4 := by rw [List.drop_drop, List.drop_drop, Nat.add_assoc]
        rw [hbe] at HF
        have he1 : (bs ((s.drop k).drop n)).extract 4 ((s.drop k).drop n).length = bs (((s.drop k).drop n).drop 4) := by
          rw [bs_extract, List.take_of_length_le (by simp; omega)]
        have he2 : (bs s).extract 0 (k + n + 4) = bs (s.take (k + n + 4)) := by rw [bs_extract, List.drop_zero, Nat.sub_zero]
        have hw : IntKind.i64.wrap ((s.length : Int) - ((((s.drop k).drop n).drop 4).length : Nat)) = ((k + n + 4 : Nat) : Int) := by simp [IntKind.wrap, IntKind.bits, IntKind.signed]; omega
        have hml : ((k + n + 4 : Nat) : Int) ≤ (s.length : Int) := by omega
        have hm0 : (0 : Int) ≤ ((k + n + 4 : Nat) : Int) := by omega
        have qg := Lib.hid (fun W => Good_any (s.take (k + n + 4)) (by simp; omega) W)
        generalize hr : s.drop k = r at *
        have hq2 : ∀ W, Cur W w.heap.size r false → _ := fun W hW => CTake_some w.heap.size r n (r.take n) n (r.drop n) W hW (by omega) (by omega) (by omega) htk rfl
        have Q2 := Lib.hid hq2
        clear hq2 htk hbe hr
        have hr24 : (4 : Int) ≤ ((r.drop n).length : Int) := by omega
        clear hr2l hbl
        generalize r.take n = bb at *
        generalize r.drop n = r2 at *
        generalize r2.drop 4 = bh at *
        have HV0 := Lib.hid (show goodB (s.take (k + n + 4)) = none → frameV (frameGet s most) = .tuple #[.string ⟨#[]⟩, .string (bs s), .int .i64 2] from fun e => by rw [HF.out, if_neg h1, if_neg h2, e]; rfl)
        have HV1 := Lib.hid (show ∀ z, goodB (s.take (k + n + 4)) = some z → frameV (frameGet s most) = .tuple #[.string (bs bb), .string (bs bh), .int .i64 0] from fun z e => by rw [HF.out, if_neg h1, if_neg h2, e]; rfl)
        clear HF
        generalize s.take (k + n + 4) = sm at *
        generalize k + n + 4 = m at *
        go_enter Tryz.func63, Tryz.ntmps63
        go_wp2_with fail
        refine q.out.mono ?_
        rintro e w1 ⟨rfl, k1, g1⟩
        have c1 := k1.c1
        have c0 := k1.c0
        go_wp2_with fail
        refine (Q2.out _ k1).mono ?_
        rintro e w2 ⟨rfl, k2, g2⟩
        have c0 := k2.c0
        have hgb := HG.out _ (grown_trans' g1 g2)
        clear c1 k1 g1 g2 k2 q Q2 hrl h1 h2 hbd hkn
        generalize hGe : w.heap.size = G at *
        go_wp2_with fail
        refine (qg.out _).mono ?_
        rintro e w3 ⟨rfl, hb3⟩
        cases hgd : goodB sm with
        | none =>
          have hgv : goodV sm = .tuple #[.string ⟨#[]⟩, .bool false] := by unfold goodV; rw [hgd]
          rw [hgv]
          have HR := Lib.hid (HV0.out hgd)
          go_wp2
          go_ret3
          exact ⟨by rw [HR.out]; rfl, by subst hGe; exact hgb.trans (hb3.mono hgb.size)⟩
        | some z =>
          have hgv : goodV sm = .tuple #[.string (bs z), .bool true] := by unfold goodV; rw [hgd]
          rw [hgv]
          have HR := Lib.hid (HV1.out z hgd)
          go_wp2
          go_ret3
          exact ⟨by rw [HR.out]; rfl, by subst hGe; exact hgb.trans (hb3.mono hgb.size)⟩

/-- What a file begins with: its generation, its flags, what is left; and an error. -/
def openB (s magic : List UInt8) : Nat × Nat × List UInt8 × Int :=
  if s.length < magic.length + 6 then (0, 0, [], 9)
  else match goodB (s.take (magic.length + 6)) with
    | none => (0, 0, [], 9)
    | some b => if b.take magic.length ≠ magic then (0, 0, [], 9)
      else if 3 < (b.getD magic.length 0).toNat ∨ 3 < (b.getD (magic.length + 1) 0).toNat then (0, 0, [], 10)
      else if (b.getD magic.length 0).toNat = 0 then (0, 0, [], 9)
      else ((b.getD magic.length 0).toNat, (b.getD (magic.length + 1) 0).toNat, s.drop (magic.length + 6), 0)
def openV (x : Nat × Nat × List UInt8 × Int) : Value := .tuple #[.int .i64 (x.1 : Int), .int .i64 (x.2.1 : Int), .string (bs x.2.2.1), .int .i64 x.2.2.2]

theorem results_tmp4 {fn : Func} {t u v x : Tmp} (h : fn.results = #[.tmp t, .tmp u, .tmp v, .tmp x]) (tmps : Array Value) (P : Program) (w : World) :
    (results fn tmps).run P w = .ok (.tuple #[tmps.getD t undef, tmps.getD u undef, tmps.getD v undef, tmps.getD x undef]) w := by
  simp [results, h]
theorem and_flags0 : ∀ f : Fin 4, bits BinOp.andNot IntKind.i64 (f.val : Int) 3 = 0 := by decide +kernel
theorem and_flags1 : ∀ f : Fin 256, 3 < f.val → bits BinOp.andNot IntKind.i64 (f.val : Int) 3 = ((f.val / 4 * 4 - 1 + 1 : Nat) : Int) := by decide +kernel
set_option maxRecDepth 100000 in
set_option maxHeartbeats 2000000 in
theorem Open_any (s magic : List UInt8) (_hl : s.length ≤ 1048576) (hm : magic.length ≤ 1000) (w : World) :
    Calls Tryz.prog 12 #[.string (bs s), .string (bs magic)] w fun e w' => e = .returned (openV (openB s magic)) ∧ Below w.heap.size w w' := by
  by_cases h1 : s.length < magic.length + 6
  · have HO := Lib.hid (show openV (openB s magic) = .tuple #[.int .i64 0, .int .i64 0, .string ⟨#[]⟩, .int .i64 9] by unfold openB; rw [if_pos h1]; rfl)
    go_enter Tryz.func12, Tryz.ntmps12
    go_wp2
    ((try simp only [Exit.inBlock, Exit.then]); refine bodyPost_ret (results_tmp4 rfl _ _ _) rfl ?_)
    exact ⟨by rw [HO.out]; rfl, Below.refl _ _⟩
  have HO := Lib.hid (show openB s magic = (match goodB (s.take (magic.length + 6)) with
    | none => (0, 0, [], 9)
    | some b => if b.take magic.length ≠ magic then (0, 0, [], 9)
      else if 3 < (b.getD magic.length 0).toNat ∨ 3 < (b.getD (magic.length + 1) 0).toNat then (0, 0, [], 10)
      else if (b.getD magic.length 0).toNat = 0 then (0, 0, [], 9)
      else ((b.getD magic.length 0).toNat, (b.getD (magic.length + 1) 0).toNat, s.drop (magic.length + 6), 0)) by unfold openB; rw [if_neg h1])
  have hd : decide ((s.length : Int) < (magic.length : Int) + 2 + 4) = false := by simp; omega
  have he1 : (bs s).extract 0 ((magic.length : Int) + 2 + 4).toNat = bs (s.take (magic.length + 6)) := by
    rw [bs_extract, List.drop_zero, Nat.sub_zero, show ((magic.length : Int) + 2 + 4).toNat = magic.length + 6 by omega]
  have he3 : (bs s).extract ((magic.length : Int) + 2 + 4).toNat s.length = bs (s.drop (magic.length + 6)) := by
    rw [bs_extract, show ((magic.length : Int) + 2 + 4).toNat = magic.length + 6 by omega, List.take_of_length_le (by simp)]
  have h0' : (0 : Int) ≤ (magic.length : Int) + 2 + 4 := by omega
  have h1' : (magic.length : Int) + 2 + 4 ≤ (s.length : Int) := by omega
  have q := Lib.hid (fun W => Good_any (s.take (magic.length + 6)) (by simp; omega) W)
  cases hg : goodB (s.take (magic.length + 6)) with
  | none =>
    have hgv : goodV (s.take (magic.length + 6)) = .tuple #[.string ⟨#[]⟩, .bool false] := by unfold goodV; rw [hg]
    rw [hgv] at q
    have HV := Lib.hid (show openV (openB s magic) = .tuple #[.int .i64 0, .int .i64 0, .string ⟨#[]⟩, .int .i64 9] by rw [HO.out, hg]; rfl)
    clear HO hg hgv he3
    generalize s.take (magic.length + 6) = sm at *
    go_enter Tryz.func12, Tryz.ntmps12
    go_wp2_with fail
    refine (q.out _).mono ?_
    rintro e w1 ⟨rfl, hb⟩
    go_wp2
    ((try simp only [Exit.inBlock, Exit.then]); refine bodyPost_ret (results_tmp4 rfl _ _ _) rfl ?_)
    exact ⟨by rw [HV.out]; rfl, hb⟩
  | some b =>
    have hgv : goodV (s.take (magic.length + 6)) = .tuple #[.string (bs b), .bool true] := by unfold goodV; rw [hg]
    rw [hgv] at q
    rw [hg] at HO
    have hbl : b.length = magic.length + 2 := by
      have := congrArg List.length (goodB_some hg)
      rw [List.length_append, tailB_len, List.length_take] at this
      omega
    have he2 : (bs b).extract 0 magic.length = bs (b.take magic.length) := by rw [bs_extract, List.drop_zero, Nat.sub_zero]
    have h3' : (magic.length : Int) ≤ (b.length : Int) := by omega
    clear hg hgv
    by_cases ht : b.take magic.length = magic
    case neg =>
      have htq : (b.take magic.length == magic) = false := by simpa using ht
      have HV := Lib.hid (show openV (openB s magic) = .tuple #[.int .i64 0, .int .i64 0, .string ⟨#[]⟩, .int .i64 9] by rw [HO.out]; simp only; rw [if_pos ht]; rfl)
      clear HO ht he3
      generalize s.take (magic.length + 6) = sm at *
      generalize b.take magic.length = bm at *
      go_enter Tryz.func12, Tryz.ntmps12
      go_wp2_with fail
      refine (q.out _).mono ?_
      rintro e w1 ⟨rfl, hb⟩
      go_wp2
      ((try simp only [Exit.inBlock, Exit.then]); refine bodyPost_ret (results_tmp4 rfl _ _ _) rfl ?_)
      exact ⟨by rw [HV.out]; rfl, hb⟩
    case pos =>
      have htq : (b.take magic.length == magic) = true := by simpa using ht
      have hi1 : b[magic.length]? = some (b.getD magic.length 0) := by rw [List.getD_eq_getElem?_getD, List.getElem?_eq_getElem (by omega)]; rfl
      have hi2 : b[magic.length + 1]? = some (b.getD (magic.length + 1) 0) := by rw [List.getD_eq_getElem?_getD, List.getElem?_eq_getElem (by omega)]; rfl
      have hx1 := fun W => run_index_bs (P := Tryz.prog) 9 Tryz.underlying9 b magic.length _ hi1 .i64 W
      have hx2 := fun W => run_index_bs (P := Tryz.prog) 9 Tryz.underlying9 b (magic.length + 1) _ hi2 .i64 W
      have HV := Lib.hid (show openB s magic = (if 3 < (b.getD magic.length 0).toNat ∨ 3 < (b.getD (magic.length + 1) 0).toNat then (0, 0, [], 10)
        else if (b.getD magic.length 0).toNat = 0 then (0, 0, [], 9)
        else ((b.getD magic.length 0).toNat, (b.getD (magic.length + 1) 0).toNat, s.drop (magic.length + 6), 0)) by rw [HO.out]; simp only; rw [if_neg (by simpa using ht)])
      have hb1 := (b.getD magic.length 0).toNat_lt
      have hb2 := (b.getD (magic.length + 1) 0).toNat_lt
      have h4' : (magic.length : Int) + 1 < (b.length : Int) := by omega
      have h5' : (magic.length : Int) < (b.length : Int) := by omega
      clear HO ht hi1 hi2
      generalize (b.getD magic.length 0).toNat = ge at *
      generalize (b.getD (magic.length + 1) 0).toNat = fg at *
      generalize s.take (magic.length + 6) = sm at *
      generalize b.take magic.length = bm at *
      generalize hsd : s.drop (magic.length + 6) = sd at *
      go_enter Tryz.func12, Tryz.ntmps12
      go_wp2_with fail
      refine (q.out _).mono ?_
      rintro e w1 ⟨rfl, hb⟩
      have hwm : IntKind.i64.wrap (magic.length : Int) = (magic.length : Int) := by simp [IntKind.wrap, IntKind.bits, IntKind.signed]; omega
      have hwm1 : IntKind.i64.wrap ((magic.length : Int) + 1) = ((magic.length + 1 : Nat) : Int) := by simp [IntKind.wrap, IntKind.bits, IntKind.signed]; omega
      have hwm2 : IntKind.i64.wrap ((magic.length : Int) + 2 - 1) = ((magic.length + 1 : Nat) : Int) := by simp [IntKind.wrap, IntKind.bits, IntKind.signed]; omega
      have hwg : IntKind.i64.wrap (ge : Int) = (ge : Int) := by simp [IntKind.wrap, IntKind.bits, IntKind.signed]; omega
      have hwf : IntKind.i64.wrap (fg : Int) = (fg : Int) := by simp [IntKind.wrap, IntKind.bits, IntKind.signed]; omega
      have hx3 := hx2
      push_cast at hx3
      go_wp2_with fail
      go_quiet (fail)
      by_cases k1 : 3 < ge ∨ 3 < fg
      · have hR := Lib.hid (show openV (openB s magic) = .tuple #[.int .i64 0, .int .i64 0, .string ⟨#[]⟩, .int .i64 10] by rw [HV.out, if_pos k1]; rfl)
        by_cases k2 : 3 < ge
        · go_wp2
          ((try simp only [Exit.inBlock, Exit.then]); refine bodyPost_ret (results_tmp4 rfl _ _ _) rfl ?_)
          exact ⟨by rw [hR.out]; rfl, below_drewN hb _⟩
        · have k3 : 3 < fg := by omega
          have hfl := and_flags1 ⟨fg, hb2⟩ k3
          simp only at hfl
          generalize fg / 4 * 4 - 1 = v at *
          have hvn : ((v : Int) + 1 != 0) = true := by simp; omega
          go_wp2
          ((try simp only [Exit.inBlock, Exit.then]); refine bodyPost_ret (results_tmp4 rfl _ _ _) rfl ?_)
          exact ⟨by rw [hR.out]; rfl, below_drewN hb _⟩
      · have hfl := and_flags0 ⟨fg, by omega⟩
        simp only at hfl
        by_cases k2 : ge = 0
        · have hR := Lib.hid (show openV (openB s magic) = .tuple #[.int .i64 0, .int .i64 0, .string ⟨#[]⟩, .int .i64 9] by rw [HV.out, if_neg k1, if_pos k2]; rfl)
          subst k2
          go_wp2
          ((try simp only [Exit.inBlock, Exit.then]); refine bodyPost_ret (results_tmp4 rfl _ _ _) rfl ?_)
          exact ⟨by rw [hR.out]; rfl, below_drewN hb _⟩
        · have hR := Lib.hid (show openV (openB s magic) = .tuple #[.int .i64 (ge : Int), .int .i64 (fg : Int), .string (bs sd), .int .i64 0] by rw [HV.out, if_neg k1, if_neg k2]; rfl)
          have hk : ((ge : Int) == 0) = false := by simpa using k2
          go_wp2_with fail
          go_quiet (fail)
          go_wp2
          ((try simp only [Exit.inBlock, Exit.then]); refine bodyPost_ret (results_tmp4 rfl _ _ _) rfl ?_)
          exact ⟨by rw [hR.out]; rfl, below_drewN (below_drewN hb _) _⟩
end Go.Proofs.YtgagcncmlonciaaGreatDoor
namespace Go.Proofs.YtgagcncmlonciaaGreatDoor
open Go.RowKit
attribute [local go_sem] bs_toList bs_size

abbrev CS := List UInt8 × Bool
def sV (c : CS) : Int := if c.2 then 0 else gval (Num.getSmall c.1)
def sN (c : CS) : CS := Num.nxt c (Num.getSmall c.1)
def wV (c : CS) : Int := if c.2 then 0 else gval (Num.getWide c.1)
def wN (c : CS) : CS := Num.nxt c (Num.getWide c.1)
theorem CSm (g : Nat) (c : CS) (w : World) (hB : Cur w g c.1 c.2) (hs : c.1.length ≤ 1099511627776) :
    Calls Tryz.prog 109 #[.pointer (some ⟨g, 0, none⟩)] w fun e w' => e = .returned (.int .u64 (sV c)) ∧ Cur w' g (sN c).1 (sN c).2 ∧ w.grownBy w' (some g) := CSmall g c.1 c.2 w hB hs
theorem CWd (g : Nat) (c : CS) (w : World) (hB : Cur w g c.1 c.2) (hs : c.1.length ≤ 1099511627776) :
    Calls Tryz.prog 113 #[.pointer (some ⟨g, 0, none⟩)] w fun e w' => e = .returned (.int .u64 (wV c)) ∧ Cur w' g (wN c).1 (wN c).2 ∧ w.grownBy w' (some g) := CWide g c.1 c.2 w hB hs
theorem nxt_len {α : Type} (c : CS) (g : Option (α × Nat)) : (Num.nxt c g).1.length ≤ c.1.length := by
  unfold Num.nxt
  split
  · exact Nat.le_refl _
  · cases g with
    | none => exact Nat.le_refl _
    | some x => simp
theorem sN_len (c : CS) : (sN c).1.length ≤ c.1.length := nxt_len c _
theorem wN_len (c : CS) : (wN c).1.length ≤ c.1.length := nxt_len c _
theorem sV_nat (c : CS) : ∃ n : Nat, sV c = n ∧ n < 18446744073709551616 := by
  unfold sV
  split
  · exact ⟨0, rfl, by omega⟩
  · cases h : Num.getSmall c.1 with
    | none => exact ⟨0, rfl, by omega⟩
    | some x =>
      obtain ⟨n, k⟩ := x
      exact ⟨n, rfl, (Num.getSmall_only _ _ _ h).1⟩
theorem wV_nat (c : CS) : ∃ n : Nat, wV c = n ∧ n < 18446744073709551616 := by
  unfold wV
  split
  · exact ⟨0, rfl, by omega⟩
  · cases h : Num.getWide c.1 with
    | none => exact ⟨0, rfl, by omega⟩
    | some x =>
      obtain ⟨n, k⟩ := x
      exact ⟨n, rfl, (Num.getWide_only _ _ _ h).1⟩
theorem sV_small (n : Nat) (r : List UInt8) (h : n < 18446744073709551616) : sV (Num.small n ++ r, false) = n := by
  unfold sV
  rw [if_neg (by simp), Num.getSmall_small n h r]
  rfl
theorem sN_small (n : Nat) (r : List UInt8) (h : n < 18446744073709551616) : sN (Num.small n ++ r, false) = (r, false) := by
  unfold sN
  rw [Num.getSmall_small n h r]
  simp [Num.nxt]
theorem wV_wide (n : Nat) (r : List UInt8) (h : n < 18446744073709551616) : wV (Num.wide n ++ r, false) = n := by
  unfold wV
  rw [if_neg (by simp), Num.getWide_wide n h r]
  rfl
theorem wN_wide (n : Nat) (r : List UInt8) (h : n < 18446744073709551616) : wN (Num.wide n ++ r, false) = (r, false) := by
  unfold wN
  rw [Num.getWide_wide n h r]
  have : (Num.wide n).length = 8 := Num.wide_len n
  simp [Num.nxt, this]
def u64N (t : Int) : Nat := (t % 18446744073709551616).toNat
theorem u64N_wrap (t : Int) : IntKind.u64.wrap t = (u64N t : Int) := by
  simp only [IntKind.wrap, IntKind.bits, IntKind.signed, u64N]
  simp
  omega
theorem u64N_lt (t : Int) : u64N t < 18446744073709551616 := by unfold u64N; omega

theorem frameGet_put (b r : List UInt8) (m : Nat) (h : b.length ≤ m) (hm : m ≤ 1000000) : frameGet (framePut b ++ r) m = (b, r, 0) := by
  have e : framePut b = Num.small b.length ++ (b ++ tailB (Num.text b)) := by
    unfold framePut checkedB Num.text
    rw [List.append_assoc]
  have hk := Num.small_len b.length
  unfold frameGet
  have hg : Num.getSmall (framePut b ++ r) = some (b.length, (Num.small b.length).length) := by
    rw [e, List.append_assoc]
    exact Num.getSmall_small _ (by omega) _
  rw [hg]
  simp only
  have hd : (framePut b ++ r).drop (Num.small b.length).length = b ++ (tailB (Num.text b) ++ r) := by
    rw [e, List.append_assoc, List.drop_left' rfl, List.append_assoc]
  have hl : (framePut b).length = (Num.small b.length).length + b.length + 4 := by
    unfold framePut
    rw [checkedB_len, Num.text_len]
  rw [if_neg (by omega), hd, if_neg (by simp [tailB_len]), List.take_append_of_le_length (by omega), List.take_of_length_le (by omega)]
  rw [show goodB (framePut b) = some (Num.text b) from goodB_tail _, if_pos (by rfl), List.take_left' rfl, List.drop_left' hl]
end Go.Proofs.YtgagcncmlonciaaGreatDoor
