/- The check of bytes: plain words, and its table. -/
import Derived.Test.YtgehgjalkponfaaGreatDoorNmF
import Derived.Laws.Tables
import Derived.Laws.CopyOwn
namespace Go.Proofs.YtgehgjalkponfaaGreatDoor
open Go.RowKit
attribute [local go_sem] bs_toList bs_size

def halfStep (c : Nat) : Nat := if c % 2 = 1 then (c / 2) ^^^ 2197175160 else c / 2
def halfN : Nat → Nat → Nat
  | 0, c => c
  | k + 1, c => halfStep (halfN k c)
def half (i : Nat) : Nat := halfN 4 i
theorem halfStep_lt {c : Nat} (h : c < 4294967296) : halfStep c < 4294967296 := by
  unfold halfStep
  split
  · exact Nat.xor_lt_two_pow (n := 32) (by omega) (by omega)
  · omega
theorem halfN_lt {c : Nat} (h : c < 4294967296) : ∀ k, halfN k c < 4294967296
  | 0 => h
  | k + 1 => halfStep_lt (halfN_lt h k)
/-- The first k are done. -/
def arr16 (k : Nat) : Array Value := ((List.range 16).map fun i => Value.int .u32 ((if i < k then half i else 0 : Nat) : Int)).toArray
theorem arr16_at (k i : Nat) (h : i < 16) : (arr16 k)[i]? = some (.int .u32 ((if i < k then half i else 0 : Nat) : Int)) := by
  unfold arr16
  rw [List.getElem?_toArray, List.getElem?_map, List.getElem?_range h]
  rfl
theorem arr16_set (k : Nat) (h : k < 16) : (arr16 k).setIfInBounds k (.int .u32 (half k : Int)) = arr16 (k + 1) := by
  unfold arr16
  rw [List.setIfInBounds_toArray]
  congr 1
  apply List.ext_getElem?
  intro i
  rw [List.getElem?_set]
  by_cases e : k = i
  · subst e
    simp [h]
  · rw [if_neg e]
    simp only [List.getElem?_map]
    by_cases hi : i < 16
    · rw [List.getElem?_range hi]
      have : (i < k + 1) = (i < k) := by
        apply propext
        omega
      simp [this]
    · rw [List.getElem?_eq_none (by simpa using hi)]
      rfl

set_option maxRecDepth 100000 in
set_option maxHeartbeats 1000000 in
theorem halves_any (w : World) : Calls Tryz.prog 140 #[] w fun e w' => e = .returned (.agg (arr16 16)) ∧ Below w.heap.size w w' := by
  have h1 : ∀ c : Nat, c < 4294967296 → bits BinOp.and IntKind.u32 (c : Int) 1 = ((c % 2 : Nat) : Int) := fun c h => by
    have := u32_and_nat c 1 h (by omega)
    rw [nat_mask1] at this
    exact this
  have h2 : ∀ c : Nat, c < 4294967296 → bits BinOp.xor IntKind.u32 ((c : Int) / 2) 2197175160 = (((c / 2) ^^^ 2197175160 : Nat) : Int) := fun c h => u32_xor_nat (c / 2) 2197175160 (by omega) (by omega)
  have H1 := Lib.hid h1
  have H2 := Lib.hid h2
  clear h1 h2
  go_enter Tryz.func140, Tryz.ntmps140
  go_wp2
  go_loopw [5] (fun vi wr => ∃ k : Nat, vi = .int .i64 (k : Nat) ∧ k ≤ 16 ∧ wr = (w.alloc (.cells (arr16 0) 167)).alloc (.cells (arr16 k) 167)) (fun vi _ => 20 - (intOf vi).toNat)
  case atStart => exact ⟨0, rfl, by omega, rfl⟩
  obtain ⟨k, rfl, hk, rfl⟩ := hrel
  by_cases hlt : k < 16
  · have HS := Lib.hid (arr16_set k hlt)
    have ha := arr16_at k k hlt
    go_wp2_with fail
    go_loopw [3, 10] (fun vc vi wr => ∃ j : Nat, vi = .int .i64 (j : Nat) ∧ j ≤ 4 ∧ vc = .int .u32 (halfN j k : Int) ∧ wr = (w.alloc (.cells (arr16 0) 167)).alloc (.cells (arr16 k) 167)) (fun _ vi _ => 20 - (intOf vi).toNat)
    case atStart => exact ⟨0, rfl, by omega, by simp [halfN], rfl⟩
    obtain ⟨j, rfl, hj, rfl, rfl⟩ := hrel
    have hlt2 := halfN_lt (c := k) (by omega) j
    have HN := Lib.hid (show halfN (j + 1) k = halfStep (halfN j k) from rfl)
    have HF := Lib.hid (show half k = halfN 4 k from rfl)
    rcases (show j < 4 ∨ j = 4 by omega) with hj4 | rfl
    · generalize halfN j k = c at *
      have e1 := H1.out c hlt2
      have e2 := H2.out c hlt2
      by_cases hc : c % 2 = 1
      · have hs : halfStep c = (c / 2) ^^^ 2197175160 := by
          unfold halfStep
          rw [if_pos hc]
        rw [hs] at HN
        go_wp2_with fail
        go_roundw
        case rel => exact ⟨j + 1, by go_num, by omega, by rw [HN.out], trivial⟩
        case measure => simp [intOf]; omega
      · have hs : halfStep c = c / 2 := by
          unfold halfStep
          rw [if_neg hc]
        rw [hs] at HN
        go_wp2_with fail
        go_roundw
        case rel => exact ⟨j + 1, by go_num, by omega, by rw [HN.out]; simp, trivial⟩
        case measure => simp [intOf]; omega
    · generalize halfN 4 k = c at *
      go_wp2_with fail
      go_roundw
      case rel => exact ⟨k + 1, by go_num, by omega, by rw [← HS.out, HF.out]⟩
      case measure => simp [intOf]; omega
  · obtain rfl : k = 16 := by omega
    go_wp2_with (first | refine wpList_load_row rfl _ _ rfl (w.heap.size + 1) rfl 167 (arr16 16) (0, 0) _ (heap_alloc2_new _ _ _) Tryz.underlying167 rfl (by kernel_rfl) ?_ | refine wpList_store_row rfl _ _ _ rfl w.heap.size (arr16 16) rfl rfl 167 (arr16 0) (heap_alloc2_old _ _ _) (by kernel_rfl) (by kernel_rfl) (by kernel_rfl) ?_)
    refine bodyPost_ret (results_cell_row rfl _ _ w.heap.size 167 (arr16 16) (0, 0) _ rfl (setRow_heap _ _ (arr16 0) _ _ _ (heap_alloc2_old _ _ _)) Tryz.underlying167 rfl (by kernel_rfl)) rfl ?_
    exact ⟨rfl, below_setRow (((Below.refl _ _).alloc (Nat.le_refl _) _).alloc (by simp) _) (Nat.le_refl _) _⟩

/-- One byte more. -/
def nibble (c : Nat) : Nat := half (c % 16) ^^^ (c / 16)
def crcByte (c : Nat) (b : UInt8) : Nat := nibble (nibble (c ^^^ b.toNat))
def crcFold (c : Nat) (l : List UInt8) : Nat := l.foldl crcByte c
def crcOn (c : Nat) (l : List UInt8) : Nat := 4294967295 - crcFold (4294967295 - c) l
theorem half_lt {c : Nat} (h : c < 4294967296) : half c < 4294967296 := halfN_lt h 4
theorem nibble_lt {c : Nat} (h : c < 4294967296) : nibble c < 4294967296 := Nat.xor_lt_two_pow (n := 32) (half_lt (by omega)) (by omega)
theorem crcByte_lt {c : Nat} (h : c < 4294967296) (b : UInt8) : crcByte c b < 4294967296 :=
  nibble_lt (nibble_lt (Nat.xor_lt_two_pow (n := 32) h (by have := b.toNat_lt; omega)))
theorem crcFold_lt {c : Nat} (h : c < 4294967296) : ∀ l, crcFold c l < 4294967296
  | [] => h
  | b :: l => crcFold_lt (crcByte_lt h b) l
theorem crcFold_next {c : Nat} {l : List UInt8} {i : Nat} {b : UInt8} (h : l[i]? = some b) : crcFold c (l.take (i + 1)) = crcByte (crcFold c (l.take i)) b := by
  obtain ⟨hi, rfl⟩ := List.getElem?_eq_some_iff.1 h
  unfold crcFold
  rw [List.take_succ_eq_append_getElem hi, List.foldl_append]
  rfl

theorem not32 (c : Nat) (h : c < 4294967296) : bits BinOp.xor IntKind.u32 IntKind.u32.max (c : Int) = ((4294967295 - c : Nat) : Int) := by
  have e : (BitVec.ofNat 32 c ^^^ BitVec.allOnes 32).toNat = (~~~ BitVec.ofNat 32 c).toNat := by rw [BitVec.xor_allOnes]
  rw [BitVec.toNat_xor, BitVec.toNat_not, BitVec.toNat_allOnes, BitVec.toNat_ofNat, Nat.mod_eq_of_lt (by simpa using h)] at e
  have e2 : c ^^^ 4294967295 = 4294967295 - c := by simpa using e
  have := u32_xor_nat 4294967295 c (by omega) h
  rw [Nat.xor_comm, e2] at this
  exact this
theorem and15 (c : Nat) (h : c < 4294967296) : bits BinOp.and IntKind.u32 (c : Int) 15 = ((c % 16 : Nat) : Int) := by
  have := u32_and_nat c 15 h (by omega)
  rw [show c &&& 15 = c % 16 from Nat.and_two_pow_sub_one_eq_mod c 4] at this
  exact this
theorem xor_div (a c : Nat) (ha : a < 4294967296) (hc : c < 4294967296) : bits BinOp.xor IntKind.u32 (a : Int) ((c : Int) / 16) = ((a ^^^ (c / 16) : Nat) : Int) := u32_xor_nat a (c / 16) ha (by omega)

set_option maxRecDepth 100000 in
set_option maxHeartbeats 1000000 in
theorem On_any (c : Nat) (l : List UInt8) (hc : c < 4294967296) (hl : l.length ≤ 1099511627776) (w : World) :
    Calls Tryz.prog 130 #[.int .u32 (c : Int), .string (bs l)] w fun e w' => e = .returned (.int .u32 (crcOn c l : Int)) ∧ Below w.heap.size w w' := by
  have q := Lib.hid (halves_any w)
  have hn := not32 c hc
  go_enter Tryz.func130, Tryz.ntmps130
  go_wp2_with fail
  refine q.out.mono ?_
  rintro e w1 ⟨rfl, hb⟩
  go_wp2_with (refine wpList_store_row rfl _ _ _ rfl w1.heap.size (arr16 16) rfl rfl 167 (arr16 0) (heap_alloc_new _ _) (by kernel_rfl) (by kernel_rfl) (by kernel_rfl) ?_)
  generalize hg : w1.heap.size = g
  generalize hW : World.setRow _ g (arr16 16) = W2
  have HC := Lib.hid (fun (i : Nat) (hi : i < 16) => show W2.cell? ⟨g, i, none⟩ = some (.int .u32 (half i : Int)) by
    rw [← hW, ← hg]
    exact (cell_setRow_same _ _ _ (arr16 0) _ _ _ (heap_alloc_new _ _)).trans ((arr16_at 16 i hi).trans (by rw [if_pos hi])))
  have HB := Lib.hid (show Below w.heap.size w W2 by
    rw [← hW, ← hg]
    exact below_setRow (hb.alloc hb.size _) hb.size _)
  clear hW hb hg
  have hc1 : 4294967295 - c < 4294967296 := by omega
  go_loop [0, 12] (fun vc vi => ∃ i : Nat, i ≤ l.length ∧ vi = .int .i64 (i : Int) ∧ vc = .int .u32 (crcFold (4294967295 - c) (l.take i) : Int)) (fun _ vi => l.length - (intOf vi).toNat)
  case atStart => exact ⟨0, Nat.zero_le _, rfl, rfl⟩
  obtain ⟨i, hi, rfl, rfl⟩ := hrel
  have hlt := crcFold_lt hc1 (l.take i)
  rcases (show i < l.length ∨ i = l.length by omega) with hil | rfl
  · have hb := List.getElem?_eq_getElem hil
    have HN := Lib.hid (crcFold_next (c := 4294967295 - c) hb)
    generalize l[i] = b at *
    have hidx := fun W => run_index_bs (P := Tryz.prog) 9 Tryz.underlying9 l i b hb .i64 W
    generalize crcFold (4294967295 - c) (l.take i) = d at *
    have hbl := b.toNat_lt
    have e0 : bits BinOp.xor IntKind.u32 (d : Int) (b.toNat : Int) = ((d ^^^ b.toNat : Nat) : Int) := u32_xor_nat d b.toNat hlt (by omega)
    have hx : d ^^^ b.toNat < 4294967296 := Nat.xor_lt_two_pow (n := 32) hlt (by omega)
    have HD := Lib.hid (show crcByte d b = nibble (nibble (d ^^^ b.toNat)) from rfl)
    generalize d ^^^ b.toNat = x at *
    have e1 := and15 x hx
    have e2 := HC.out (x % 16) (by omega)
    have e3 := xor_div (half (x % 16)) x (half_lt (by omega)) hx
    have hy : nibble x < 4294967296 := nibble_lt hx
    have HY := Lib.hid (show nibble x = half (x % 16) ^^^ (x / 16) from rfl)
    rw [← HY.out] at e3
    generalize nibble x = y at *
    have e4 := and15 y hy
    have e5 := HC.out (y % 16) (by omega)
    have e6 := xor_div (half (y % 16)) y (half_lt (by omega)) hy
    have HZ := Lib.hid (show nibble y = half (y % 16) ^^^ (y / 16) from rfl)
    rw [← HZ.out] at e6
    have hz : nibble y < 4294967296 := nibble_lt hy
    generalize nibble y = z at *
    generalize half (x % 16) = hx16 at *
    generalize half (y % 16) = hy16 at *
    go_wp2_with fail
    go_round
    case rel => exact ⟨i + 1, by omega, by go_num, by rw [HN.out, HD.out]⟩
    case measure => simp [intOf]; omega
  · have HO := Lib.hid (show crcOn c l = 4294967295 - crcFold (4294967295 - c) (l.take l.length) by rw [List.take_length]; rfl)
    have e1 := not32 _ hlt
    rw [← HO.out] at e1
    generalize crcFold (4294967295 - c) (l.take l.length) = d at *
    go_wp2
    go_ret
    exact ⟨rfl, HB.out⟩
end Go.Proofs.YtgehgjalkponfaaGreatDoor
