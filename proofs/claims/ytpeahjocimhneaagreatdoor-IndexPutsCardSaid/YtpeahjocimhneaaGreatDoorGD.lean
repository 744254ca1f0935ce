/- What a series is called: what bytes may be. What a series is called: whether all bytes may be. strings.Builder's copyCheck and WriteString: turned from the kit's shelf texts to this program. What a series is called: labels in memory; how long; whether they may be. A region that draws its order, with an append onto a row of the call's own in its middle. All blocks but some are as they were; a world turns, and with it what is held; what kind of block it is. Over any program. What a series is called: its key. What a series is called: the labels that a key tells. A region that draws its order: a call one of whose arguments is hidden. Over any program. A region that draws its order, some of whose operations come in one row (each behind the one before it) and turn the world: phases. The others make memory alone. A region that draws its order: an append of a known slice onto a fresh row that is full, in a hidden slot. Over any program. Slices of numbers in memory. -/
import Derived.Test.YtpeahjocimhneaaGreatDoorGC
import Derived.Laws.Tables
import Derived.Laws.CopyOwn
import Derived.Test.YtpeahjocimhneaaGreatDoorChecked
import Derived.Test.YtpeahjocimhneaaGreatDoorGA
import Derived.Lib.Builder
import Derived.Lib.FrozenHead
import Derived.Laws.Externs
import Derived.WalkMore
import Derived.Maps.AppendAt
import Derived.Maps.OwnSet
import Derived.Maps.OwnOps
import Derived.WalkSpells
import Derived.Test.YtpeahjocimhneaaGreatDoorShelf
import Derived.Deep.Upon
import Derived.Lib.OwnBridge
import Derived.Sort.Grow
import Derived.Laws.AppendOwnNone
import Derived.Laws.OwnMore
namespace Go.Proofs.YtpeahjocimhneaaGreatDoor
open Go.RowKit
attribute [local go_sem] bs_toList bs_size

/-- An array of 256 bytes. -/
def arrF (f : Nat → Nat) : Array Value := ((List.range 256).map fun i => Value.int .u8 (f i : Int)).toArray
theorem arrF_at (f : Nat → Nat) (i : Nat) (h : i < 256) : (arrF f)[i]? = some (.int .u8 (f i : Int)) := by
  unfold arrF
  rw [List.getElem?_toArray, List.getElem?_map, List.getElem?_range h]
  rfl
theorem arrF_set (f g : Nat → Nat) (k v : Nat) (h : k < 256) (hv : g k = v) (ho : ∀ i, i < 256 → i ≠ k → g i = f i) : (arrF f).setIfInBounds k (.int .u8 (v : Int)) = arrF g := by
  unfold arrF
  rw [List.setIfInBounds_toArray]
  congr 1
  apply List.ext_getElem?
  intro i
  rw [List.getElem?_set]
  by_cases e : k = i
  · subst e
    simp [h, hv]
  · rw [if_neg e]
    simp only [List.getElem?_map]
    by_cases hi : i < 256
    · rw [List.getElem?_range hi]
      simp [ho i hi (fun e2 => e e2.symm)]
    · rw [List.getElem?_eq_none (by simpa using hi)]
      rfl
def mask1 (k i : Nat) : Nat := if 32 ≤ i ∧ i < k then 4 else 0
def mask2 (k i : Nat) : Nat := mask1 127 i + if 48 ≤ i ∧ i < k then 2 else 0
def mask3 (k i : Nat) : Nat := mask2 58 i + if 97 ≤ i ∧ i < k then 3 else 0
/-- What a byte may be. -/
def maskN (i : Nat) : Nat := if i = 95 then 7 else mask3 123 i

set_option maxRecDepth 100000 in
set_option maxHeartbeats 4000000 in
theorem masks_any (w : World) : Calls Tryz.prog 140 #[] w fun e w' => e = .returned (.agg (arrF maskN)) ∧ Below w.heap.size w w' := by
  have h1 : bits BinOp.or IntKind.u8 0 4 = 4 := by decide +kernel
  have h2 : bits BinOp.or IntKind.u8 4 2 = 6 := by decide +kernel
  have h3 : bits BinOp.or IntKind.u8 4 3 = 7 := by decide +kernel
  go_enter Tryz.func140, Tryz.ntmps140
  go_wp2
  go_loopw [2] (fun vi wr => ∃ k : Nat, vi = .int .u8 (k : Nat) ∧ 32 ≤ k ∧ k ≤ 127 ∧ wr = (w.alloc (.cells (arrF (mask1 32)) 166)).alloc (.cells (arrF (mask1 k)) 166)) (fun vi _ => 200 - (intOf vi).toNat)
  case atStart => exact ⟨32, rfl, by omega, by omega, rfl⟩
  obtain ⟨k, rfl, hk0, hk, rfl⟩ := hrel
  by_cases hlt : k < 127
  · have ha := arrF_at (mask1 k) k (by omega)
    have hz : mask1 k k = 0 := by unfold mask1; rw [if_neg (by omega)]
    rw [hz] at ha
    have HS := Lib.hid (arrF_set (mask1 k) (mask1 (k + 1)) k 4 (by omega) (by unfold mask1; rw [if_pos (by omega)]) (fun i _ he => by
      unfold mask1
      have : (32 ≤ i ∧ i < k + 1) = (32 ≤ i ∧ i < k) := by apply propext; omega
      simp only [this]))
    go_wp2_with fail
    go_roundw
    case rel => exact ⟨k + 1, by go_num, by omega, by omega, by rw [← HS.out]; rfl⟩
    case measure => simp [intOf]; omega
  obtain rfl : k = 127 := by omega
  rw [show mask1 127 = mask2 48 from by funext i; unfold mask2; rw [if_neg (by omega)]; rfl]
  go_wp2_with fail
  go_loopw [3] (fun vi wr => ∃ k : Nat, vi = .int .u8 (k : Nat) ∧ 48 ≤ k ∧ k ≤ 58 ∧ wr = (w.alloc (.cells (arrF (mask1 32)) 166)).alloc (.cells (arrF (mask2 k)) 166)) (fun vi _ => 200 - (intOf vi).toNat)
  case atStart => exact ⟨48, rfl, by omega, by omega, rfl⟩
  obtain ⟨k, rfl, hk0, hk, rfl⟩ := hrel
  by_cases hlt : k < 58
  · have ha := arrF_at (mask2 k) k (by omega)
    have hz : mask2 k k = 4 := by unfold mask2 mask1; rw [if_pos (by omega), if_neg (by omega)]
    rw [hz] at ha
    have HS := Lib.hid (arrF_set (mask2 k) (mask2 (k + 1)) k 6 (by omega) (by unfold mask2 mask1; rw [if_pos (by omega), if_pos (by omega)]) (fun i _ he => by
      unfold mask2
      have : (48 ≤ i ∧ i < k + 1) = (48 ≤ i ∧ i < k) := by apply propext; omega
      simp only [this]))
    go_wp2_with fail
    go_roundw
    case rel => exact ⟨k + 1, by go_num, by omega, by omega, by rw [← HS.out]; rfl⟩
    case measure => simp [intOf]; omega
  obtain rfl : k = 58 := by omega
  rw [show mask2 58 = mask3 97 from by funext i; unfold mask3; rw [if_neg (by omega)]; rfl]
  go_wp2_with fail
  go_loopw [4] (fun vi wr => ∃ k : Nat, vi = .int .u8 (k : Nat) ∧ 97 ≤ k ∧ k ≤ 123 ∧ wr = (w.alloc (.cells (arrF (mask1 32)) 166)).alloc (.cells (arrF (mask3 k)) 166)) (fun vi _ => 200 - (intOf vi).toNat)
  case atStart => exact ⟨97, rfl, by omega, by omega, rfl⟩
  obtain ⟨k, rfl, hk0, hk, rfl⟩ := hrel
  by_cases hlt : k < 123
  · have ha := arrF_at (mask3 k) k (by omega)
    have hz : mask3 k k = 4 := by unfold mask3 mask2 mask1; rw [if_pos (by omega), if_neg (by omega), if_neg (by omega)]
    rw [hz] at ha
    have HS := Lib.hid (arrF_set (mask3 k) (mask3 (k + 1)) k 7 (by omega) (by unfold mask3 mask2 mask1; rw [if_pos (by omega), if_neg (by omega), if_pos (by omega)]) (fun i _ he => by
      unfold mask3
      have : (97 ≤ i ∧ i < k + 1) = (97 ≤ i ∧ i < k) := by apply propext; omega
      simp only [this]))
    go_wp2_with fail
    go_roundw
    case rel => exact ⟨k + 1, by go_num, by omega, by omega, by rw [← HS.out]; rfl⟩
    case measure => simp [intOf]; omega
  obtain rfl : k = 123 := by omega
  have ha := arrF_at (mask3 123) 95 (by omega)
  rw [show mask3 123 95 = 4 from by decide] at ha
  have HS := arrF_set (mask3 123) maskN 95 7 (by omega) (by decide) (fun i _ he => by unfold maskN; rw [if_neg he])
  go_wp2_with (first | refine wpList_load_row rfl _ _ rfl (w.heap.size + 1) rfl 166 (arrF maskN) (0, 0) _ (heap_alloc2_new _ _ _) Tryz.underlying166 rfl (by kernel_rfl) ?_ | refine wpList_store_row rfl _ _ _ rfl w.heap.size (arrF maskN) rfl rfl 166 (arrF (mask1 32)) (heap_alloc2_old _ _ _) (by kernel_rfl) (by kernel_rfl) (by kernel_rfl) ?_)
  refine bodyPost_ret (results_cell_row rfl _ _ w.heap.size 166 (arrF maskN) (0, 0) _ rfl (setRow_heap _ _ (arrF (mask1 32)) _ _ _ (heap_alloc2_old _ _ _)) Tryz.underlying166 rfl (by kernel_rfl)) rfl ?_
  exact ⟨rfl, below_setRow (((Below.refl _ _).alloc (Nat.le_refl _) _).alloc (by simp) _) (Nat.le_refl _) _⟩
end Go.Proofs.YtpeahjocimhneaaGreatDoor
namespace Go.Proofs.YtpeahjocimhneaaGreatDoor
open Go.RowKit
attribute [local go_sem] bs_toList bs_size

theorem maskN_lt (i : Nat) : maskN i < 8 := by
  unfold maskN mask3 mask2 mask1
  split
  · omega
  · split <;> split <;> split <;> omega
/-- May each byte of a text be something? -/
def allB (s : List UInt8) (m : Nat) : Bool := s.all (fun b => decide (maskN b.toNat &&& m ≠ 0)) && (!s.isEmpty && decide (s.length ≤ 48))

set_option maxRecDepth 100000 in
set_option maxHeartbeats 1000000 in
theorem all_any (s : List UInt8) (m : Nat) (hm : m < 256) (hl : s.length ≤ 1099511627776) (w : World) :
    Calls Tryz.prog 108 #[.string (bs s), .int .u8 (m : Int)] w fun e w' => e = .returned (.bool (allB s m)) ∧ Below w.heap.size w w' := by
  have q := Lib.hid (masks_any w)
  go_enter Tryz.func108, Tryz.ntmps108
  go_wp2_with fail
  refine q.out.mono ?_
  rintro e w1 ⟨rfl, hb⟩
  go_wp2_with (refine wpList_store_row rfl _ _ _ rfl w1.heap.size (arrF maskN) rfl rfl 166 (arrF fun _ => 0) (heap_alloc_new _ _) (by kernel_rfl) (by kernel_rfl) (by kernel_rfl) ?_)
  generalize hg : w1.heap.size = g
  generalize hW : World.setRow _ g (arrF maskN) = W2
  have HC := Lib.hid (fun (i : Nat) (hi : i < 256) => show W2.cell? ⟨g, i, none⟩ = some (.int .u8 (maskN i : Int)) by
    rw [← hW, ← hg]
    exact (cell_setRow_same _ _ _ (arrF fun _ => 0) _ _ _ (heap_alloc_new _ _)).trans (arrF_at maskN i hi))
  have HB := Lib.hid (show Below w.heap.size w W2 by
    rw [← hW, ← hg]
    exact below_setRow (hb.alloc hb.size _) hb.size _)
  clear hW hb hg q
  go_loop [10] (fun vi => ∃ i : Nat, i ≤ s.length ∧ vi = .int .i64 (i : Int) ∧ (s.take i).all (fun b => decide (maskN b.toNat &&& m ≠ 0)) = true) (fun vi => s.length - (intOf vi).toNat)
  case atStart => exact ⟨0, Nat.zero_le _, rfl, rfl⟩
  obtain ⟨i, hi, rfl, hall⟩ := hrel
  rcases (show i < s.length ∨ i = s.length by omega) with hil | rfl
  · have hb := List.getElem?_eq_getElem hil
    have HN := Lib.hid (show (s.take (i + 1)).all (fun b => decide (maskN b.toNat &&& m ≠ 0)) = ((s.take i).all (fun b => decide (maskN b.toNat &&& m ≠ 0)) && decide (maskN s[i].toNat &&& m ≠ 0)) by rw [List.take_succ_eq_append_getElem hil, List.all_append]; simp)
    rw [hall] at HN
    have HW := Lib.hid (show maskN s[i].toNat &&& m = 0 → allB s m = false from fun h => by
      unfold allB
      have : s.all (fun b => decide (maskN b.toNat &&& m ≠ 0)) = false := by
        rw [List.all_eq_false]
        exact ⟨s[i], List.getElem_mem hil, by simp [h]⟩
      rw [this]
      rfl)
    generalize s[i] = b at *
    have hidx := fun W => run_index_bs (P := Tryz.prog) 9 Tryz.underlying9 s i b hb .i64 W
    have hbl := b.toNat_lt
    have hcell := HC.out b.toNat (by omega)
    generalize b.toNat = n at *
    have hml := maskN_lt n
    have hand := u8_and_nat (maskN n) m (by omega) hm
    generalize maskN n &&& m = x at *
    generalize maskN n = mn at *
    clear hall
    by_cases h : x = 0
    · have hun := HW.out h
      subst h
      go_wp2
      go_ret
      exact ⟨rfl, HB.out⟩
    · have hd2 : decide (x ≠ 0) = true := by simp [h]
      have hd3 : ((x : Int) == 0) = false := by simpa using h
      rw [hd2] at HN
      go_wp2_with fail
      go_round
      case rel => exact ⟨i + 1, by omega, by go_num, by rw [HN.out]; rfl⟩
      case measure => simp [intOf]; omega
  · have HU := Lib.hid (show allB s m = (!s.isEmpty && decide (s.length ≤ 48)) by unfold allB; rw [List.take_length] at hall; rw [hall]; rfl)
    clear hall
    cases he : s.isEmpty with
    | true =>
      rw [he] at HU
      go_wp2
      go_ret
      exact ⟨by rw [HU.out]; rfl, HB.out⟩
    | false =>
      rw [he] at HU
      by_cases h48 : s.length ≤ 48
      · have hd : decide (s.length ≤ 48) = true := by simpa using h48
        have hd' : decide ((s.length : Int) ≤ 48) = true := by simp; omega
        rw [hd] at HU
        go_wp2
        go_ret
        exact ⟨by rw [HU.out]; rfl, HB.out⟩
      · have hd : decide (s.length ≤ 48) = false := by simpa using h48
        have hd' : decide ((s.length : Int) ≤ 48) = false := by simp; omega
        rw [hd] at HU
        go_wp2
        go_ret
        exact ⟨by rw [HU.out]; rfl, HB.out⟩
end Go.Proofs.YtpeahjocimhneaaGreatDoor
namespace Go.Proofs.YtpeahjocimhneaaGreatDoor
open Go.RowKit
attribute [local go_sem] bs_toList bs_size

set_option maxRecDepth 100000 in
set_option maxHeartbeats 1000000 in
theorem copyCheck_used (b : Nat) (w : World) (h0 : w.cell? ⟨b, 0, none⟩ = some (.pointer (some ⟨b, 0, none⟩))) :
    Calls Tryz.prog 98 #[.pointer (some ⟨b, 0, none⟩)] w fun e w' => e = .returned (.tuple #[]) ∧ w' = w := by
  have ⟨j, hj, _⟩ : ∃ j, Tryz.prog.info? 97 = some j ∧ j.size = 2 := Option.map_eq_some_iff.1 (show (Tryz.prog.info? 97).map (·.size) = some 2 by kernel_rfl)
  go_enter Tryz.func98, Tryz.ntmps98
  go_wp2
  rw [Lib.run_neq_ptr_same w _ Tryz.underlying95 hj]
  go_wp2
  go_end0
  exact ⟨rfl, rfl⟩

set_option maxRecDepth 100000 in
set_option maxHeartbeats 1000000 in
theorem copyCheck_fresh (b : Nat) (w : World) (h0 : w.cell? ⟨b, 0, none⟩ = some (.pointer none)) (hsh : w.shape? b = some (97, 2)) (hfz : w.frozen? ⟨b, 0, none⟩ = false) :
    Calls Tryz.prog 98 #[.pointer (some ⟨b, 0, none⟩)] w fun e w' => e = .returned (.tuple #[]) ∧ w' = w.setCell ⟨b, 0, none⟩ (.pointer (some ⟨b, 0, none⟩)) := by
  have ⟨j, hj, hjs⟩ : ∃ j, Tryz.prog.info? 97 = some j ∧ j.size = 2 := Option.map_eq_some_iff.1 (show (Tryz.prog.info? 97).map (·.size) = some 2 by kernel_rfl)
  go_enter Tryz.func98, Tryz.ntmps98
  go_wp2
  rw [Lib.run_to_unsafe w ⟨b, 0, none⟩ Tryz.underlying95 Tryz.underlying157 hj (by rw [hjs]; decide) hsh (Nat.zero_lt_succ 1)]
  simp only [Result.andThen]
  rw [Oper.upon_value]
  go_wp2
  rw [run_callFunc_extern Tryz.func132 (by kernel_rfl) (by kernel_rfl) (by kernel_rfl) (e := Extern.AbiNoEscape.same) (by kernel_rfl)]
  rw [Lib.run_noEscape]
  simp only [Result.andThen]
  rw [Oper.upon_value]
  go_wp2
  rw [Lib.run_from_unsafe w ⟨b, 0, none⟩ Tryz.underlying157 Tryz.underlying95 hj hsh (by kernel_rfl)]
  simp only [Result.andThen]
  rw [Oper.upon_value]
  go_wp2
  go_end0
  exact ⟨rfl, rfl⟩

theorem copyCheck_any (B b : Nat) (l : List Value) (w : World) (h : Lib.IsBuilderF 97 5 B b l w) :
    Calls Tryz.prog 98 #[.pointer (some ⟨b, 0, none⟩)] w fun e w' => e = .returned (.tuple #[]) ∧ (Lib.BuilderAtF 97 5 B b (.pointer (some ⟨b, 0, none⟩)) l w' ∧ Below B w w') := by
  rcases h with h | h
  · refine (copyCheck_fresh b w h.cell0 h.shape h.frozen0).mono ?_
    rintro e w' ⟨rfl, rfl⟩
    exact ⟨rfl, h.used _, (Below.refl B w).setCell (p := ⟨b, 0, none⟩) h.1 _⟩
  · refine (copyCheck_used b w h.cell0).mono ?_
    rintro e w' ⟨rfl, rfl⟩
    exact ⟨rfl, h, Below.refl B _⟩

set_option maxRecDepth 100000 in
set_option maxHeartbeats 1000000 in
theorem writeString_any (B b : Nat) (l : List Value) (s : ByteArray) (w : World) (h : Lib.IsBuilderF 97 5 B b l w) (hlen : l.length + s.size ≤ 140737488355328) (hBw : B ≤ w.heap.size) :
    Calls Tryz.prog 59 #[.pointer (some ⟨b, 0, none⟩), .string s] w fun e w' => e = .returned (.tuple #[.int .i64 s.size, .nilIface]) ∧ (Lib.IsBuilderF 97 5 B b (l ++ Lib.strCells s) w' ∧ Below B w w') := by
  have ⟨i0, hi, hz0, hz1, hz2⟩ := info_parts (show (Tryz.prog.info? 5).map (fun i => (i.zero, i.size, i.bytes)) = some (some (.int .u8 0), 1, 1) by kernel_rfl)
  have q := Lib.hid (fun w => copyCheck_any B b l w)
  go_enter Tryz.func59, Tryz.ntmps59
  go_wp2_with fail
  refine (q.out _ h).mono ?_
  rintro e w1 ⟨rfl, h1, hb1⟩
  obtain ⟨hB, v, hbk, hown, hne⟩ := h1
  have c0 : w1.cell? ⟨b, 0, none⟩ = some (.pointer (some ⟨b, 0, none⟩)) := by rw [Lib.cell_of_heap hbk]; rfl
  have c1 : w1.cell? ⟨b, 1, none⟩ = some v := by rw [Lib.cell_of_heap hbk]; rfl
  go_wp2_with (at_builtin; refine Lib.wpList_append_own_stringF _ rfl _ _ 63 9 rfl B 5 i0 Tryz.underlying63 Tryz.underlying9 hi hz0 hz1 hz2 _ _ _ rfl hown s rfl ?c3 ?c4 ?c5 ?_)
  case c3 => unfold maxLen; omega
  case c4 => omega
  case c5 => have := hb1.size; omega
  intro v' w2 hown' hgrow _
  have hlt : b < w1.heap.size := by
    rcases Nat.lt_or_ge b w1.heap.size with h' | h'
    · exact h'
    · simp [Array.getElem?_eq_none h'] at hbk
  have hb2 : w2.heap[b]? = some (.cells #[.pointer (some ⟨b, 0, none⟩), v] 97 (0, 0)) := by
    rw [hgrow.block b hlt (fun e => hne e.symm)]
    exact hbk
  have d0 : w2.cell? ⟨b, 0, none⟩ = some (.pointer (some ⟨b, 0, none⟩)) := by rw [Lib.cell_of_heap hb2]; rfl
  have d1 : w2.cell? ⟨b, 1, none⟩ = some v := by rw [Lib.cell_of_heap hb2]; rfl
  have f1 : w2.frozen? ⟨b, 1, none⟩ = false := Lib.frozen_of_heap hb2 1
  obtain ⟨ao, n', cap, rfl⟩ : ∃ ao n' cap, v' = .slice ao n' cap := by
    rcases hown'.2 with ⟨hv, _⟩ | ⟨g, cap, cur, fz, hv, _⟩
    · exact ⟨_, _, _, hv⟩
    · exact ⟨_, _, _, hv⟩
  go_wp2
  go_ret2
  refine ⟨rfl, Or.inr ?_, ?_⟩
  · exact Lib.BuilderAtF.put (T := 97) (e := 5) hB hb2 (bs' := l ++ Lib.strCells s) (by simpa [Lib.strCells_length] using hown') (by decide)
  · exact (hb1.grown hgrow (by have := hb1.size; omega) (fun k hk => (hown.lt k hk).1)).setCell (p := ⟨b, 1, none⟩) hB _

/-- A builder that holds these bytes. -/
def BldAt (B b : Nat) (l : List UInt8) (w : World) : Prop := Lib.IsBuilderF 97 5 B b (Lib.byteCells l) w
theorem BldAt.fresh (w : World) : BldAt w.heap.size w.heap.size [] (w.alloc (.cells #[.pointer none, .slice none 0 0] 97)) := Lib.IsBuilderF.of (Lib.fresh_isBuilder _ _ w)
theorem heap_lt {w : World} {b : Nat} {o : Obj} (h : w.heap[b]? = some o) : b < w.heap.size := (Array.getElem?_eq_some_iff.1 h).1
theorem builderAt_below {B b : Nat} {p : Value} {l : List Value} {w w' : World} (h : Lib.BuilderAtF 97 5 B b p l w) (hb : Below w.heap.size w w') : Lib.BuilderAtF 97 5 B b p l w' := by
  obtain ⟨h1, v, h2, h3, h4⟩ := h
  refine ⟨h1, v, (hb.block b (heap_lt h2)).trans h2, ⟨h3.1, ?_⟩, h4⟩
  rcases h3.2 with h | ⟨g, cap, cur, fz, e1, e2, e3, e4⟩
  · exact .inl h
  · exact .inr ⟨g, cap, cur, fz, e1, e2, (hb.block g (heap_lt e3)).trans e3, e4⟩
theorem BldAt.below {B b : Nat} {l : List UInt8} {w w' : World} (h : BldAt B b l w) (hb : Below w.heap.size w w') : BldAt B b l w' :=
  h.elim (fun h => .inl (builderAt_below h hb)) (fun h => .inr (builderAt_below h hb))
theorem strCells_bs (s : List UInt8) : Lib.strCells (bs s) = Lib.byteCells s := by unfold Lib.strCells Lib.byteCells; rw [bs_data]
theorem write_any (B b : Nat) (l s : List UInt8) (w : World) (h : BldAt B b l w) (hlen : l.length + s.length ≤ 140737488355328) (hBw : B ≤ w.heap.size) :
    Calls Tryz.prog 59 #[.pointer (some ⟨b, 0, none⟩), .string (bs s)] w fun e w' => e = .returned (.tuple #[.int .i64 s.length, .nilIface]) ∧ BldAt B b (l ++ s) w' ∧ Below B w w' := by
  refine (writeString_any B b (Lib.byteCells l) (bs s) w h (by rw [bs_size]; simpa [Lib.byteCells] using hlen) hBw).mono ?_
  rintro e w' ⟨rfl, h1, h2⟩
  refine ⟨by rw [bs_size], ?_, h2⟩
  unfold BldAt
  rw [Lib.byteCells_append, ← strCells_bs s]
  exact h1
end Go.Proofs.YtpeahjocimhneaaGreatDoor
namespace Go.Proofs.YtpeahjocimhneaaGreatDoor
open Go.RowKit
attribute [local go_sem] bs_toList bs_size

/-- A name, and a value. -/
abbrev Lb := List UInt8 × List UInt8
/-- A slice of labels. -/
def LabsAt (w : World) (v : Value) (L : List Lb) : Prop :=
  ∃ a c, v = .slice a L.length c ∧ L.length ≤ 1048576 ∧ ∀ (i : Nat) x, L[i]? = some x → x.1.length ≤ 1048576 ∧ x.2.length ≤ 1048576 ∧ ∃ b o, a = some ⟨b, o, none⟩ ∧ w.cell? ⟨b, o + i * 2, none⟩ = some (.string (bs x.1)) ∧ w.cell? ⟨b, o + i * 2 + 1, none⟩ = some (.string (bs x.2))
theorem LabsAt.below {w w' : World} {v : Value} {L : List Lb} (h : LabsAt w v L) (hb : Below w.heap.size w w') : LabsAt w' v L := by
  obtain ⟨a, c, h1, h2, h3⟩ := h
  refine ⟨a, c, h1, h2, fun i x hx => ?_⟩
  obtain ⟨h4, h5, b, o, h6, h7, h8⟩ := h3 i x hx
  exact ⟨h4, h5, b, o, h6, (Below.cell hb (World.block_lt_of_cell? _ _ h7)).trans h7, (Below.cell hb (World.block_lt_of_cell? _ _ h8)).trans h8⟩

/-- How long labels may be. -/
def limitG (g : Int) : Int := if g = 1 then 12 else if g = 2 then 24 else if g = 3 then 48 else 0
set_option maxRecDepth 100000 in
theorem Limit_any (g : Int) (w : World) (h1 : -9223372036854775808 ≤ g) (h2 : g ≤ 9223372036854775807) :
    Calls Tryz.prog 47 #[.int .i64 g] w fun e w' => e = .returned (.int .i64 (limitG g)) ∧ w = w' := by
  by_cases h : g = 1 ∨ g = 2 ∨ g = 3
  · rcases h with rfl | rfl | rfl
    all_goals
      go_enter Tryz.func47, Tryz.ntmps47
      go_wp2
      go_ret
      exact ⟨rfl, rfl⟩
  · have hl : limitG g = 0 := by unfold limitG; rw [if_neg (by omega), if_neg (by omega), if_neg (by omega)]
    rw [hl]
    by_cases hd : g < 1
    · have hd1 : decide (g < 1) = true := by simpa using hd
      go_enter Tryz.func47, Tryz.ntmps47
      go_wp2
      go_ret
      exact ⟨rfl, rfl⟩
    · have hd1 : decide (g < 1) = false := by simpa using hd
      have hd2 : decide (3 < g) = true := by simp; omega
      go_enter Tryz.func47, Tryz.ntmps47
      go_wp2
      go_ret
      exact ⟨rfl, rfl⟩

/-- How long labels are. -/
def longestB (L : List Lb) : Nat := L.foldl (fun n x => max (max n x.1.length) x.2.length) 0
set_option maxRecDepth 100000 in
set_option maxHeartbeats 1000000 in
theorem Longest_any (L : List Lb) (v : Value) (w : World) (h : LabsAt w v L) :
    Calls Tryz.prog 46 #[v] w fun e w' => e = .returned (.int .i64 (longestB L : Int)) ∧ Below w.heap.size w w' := by
  obtain ⟨a, c, rfl, hn, hc⟩ := h
  have HC := Lib.hid hc
  clear hc
  go_enter Tryz.func46, Tryz.ntmps46
  go_wp2
  go_loopw [3, 8] (fun vn vi wr => ∃ i : Nat, i ≤ L.length ∧ vi = .int .i64 (i : Int) ∧ vn = .int .i64 (longestB (L.take i) : Int) ∧ longestB (L.take i) ≤ 1048576 ∧ Below w.heap.size w wr) (fun vn vi _ => L.length - (intOf vi).toNat)
  case atStart => exact ⟨0, Nat.zero_le _, rfl, rfl, Nat.zero_le _, Below.refl _ _⟩
  obtain ⟨i, hi, rfl, rfl, hlb, hb⟩ := hrel
  rcases (show i < L.length ∨ i = L.length by omega) with hil | rfl
  · have HL := Lib.hid (show longestB (L.take (i + 1)) = max (max (longestB (L.take i)) L[i].1.length) L[i].2.length by
      unfold longestB; rw [List.take_succ_eq_append_getElem hil, List.foldl_append]; rfl)
    obtain ⟨hx1, hx2, b, o, rfl, d0, d1⟩ := HC.out i _ (List.getElem?_eq_getElem hil)
    have e0 := hb.cell (World.block_lt_of_cell? _ _ d0)
    have e1 := hb.cell (World.block_lt_of_cell? _ _ d1)
    rw [d0] at e0
    rw [d1] at e1
    clear d0 d1
    generalize L[i] = x at *
    generalize longestB (L.take i) = m at *
    go_wp2
    go_roundw
    case rel => exact ⟨i + 1, by omega, by go_num, by
      rw [HL.out]
      congr 1
      split <;> split <;> omega, by rw [HL.out]; omega, hb.alloc hb.size _⟩
    case measure => simp [intOf]; omega
  · rw [List.take_length] at *
    go_wp2
    go_ret
    exact ⟨rfl, hb⟩

/-- Is a text behind another one? -/
def gtB (a b : List UInt8) : Bool := !Op.bytesLess a b && !(a == b)
theorem gtB_nil (b : List UInt8) : gtB [] b = false := by cases b <;> rfl
/-- May labels be, whose names come behind a last one? -/
def chkFrom (last : List UInt8) : List Lb → Bool
  | [] => true
  | x :: l => gtB x.1 last && (allB x.1 2 && (allB (x.1.take 1) 1 && (allB x.2 4 && chkFrom x.1 l)))
/-- May labels be? 0, or the error. -/
def checkE (L : List Lb) : Int := if chkFrom [] L && (!L.isEmpty && decide (L.length ≤ 6)) then 0 else 2
theorem checkE_of (L : List Lb) (h : chkFrom [] L = true) : checkE L = if L.length = 0 then 2 else if 6 < L.length then 2 else 0 := by
  unfold checkE
  rw [h]
  cases L with
  | nil => rfl
  | cons x l =>
    simp only [List.length_cons, List.isEmpty_cons, Bool.not_false, Bool.true_and, decide_eq_true_eq]
    split <;> split <;> first | rfl | omega
set_option maxRecDepth 100000 in
set_option maxHeartbeats 1000000 in
theorem Check_any (L : List Lb) (v : Value) (w : World) (h : LabsAt w v L) :
    Calls Tryz.prog 83 #[v] w fun e w' => e = .returned (.int .i64 (checkE L)) ∧ Below w.heap.size w w' := by
  obtain ⟨a, c, rfl, hn, hc⟩ := h
  have HC := Lib.hid hc
  clear hc
  have qa := Lib.hid (fun (s : List UInt8) (m : Nat) (hm : m < 256) (hl : s.length ≤ 1099511627776) W => all_any s m hm hl W)
  go_enter Tryz.func83, Tryz.ntmps83
  go_wp2
  apply wp_scope_straight
  go_wp2
  apply wp_label
  go_wp2
  go_loopw [3, 8] (fun vn vi wr => ∃ (i : Nat) (last : List UInt8), i ≤ L.length ∧ vi = .int .i64 (i : Int) ∧ vn = .string (bs last) ∧ chkFrom [] L = chkFrom last (L.drop i) ∧ Below w.heap.size w wr) (fun vn vi _ => L.length - (intOf vi).toNat)
  case atStart => exact ⟨0, [], Nat.zero_le _, rfl, rfl, rfl, Below.refl _ _⟩
  obtain ⟨i, last, hi, rfl, rfl, hchk, hb⟩ := hrel
  rcases (show i < L.length ∨ i = L.length by omega) with hil | rfl
  · rw [List.drop_eq_getElem_cons hil] at hchk
    obtain ⟨hx1, hx2, b, o, rfl, d0, d1⟩ := HC.out i _ (List.getElem?_eq_getElem hil)
    have e0 := hb.cell (World.block_lt_of_cell? _ _ d0)
    have e1 := hb.cell (World.block_lt_of_cell? _ _ d1)
    rw [d0] at e0
    rw [d1] at e1
    clear d0 d1
    generalize L[i] = x at *
    have hC : chkFrom last (x :: L.drop (i + 1)) = (gtB x.1 last && (allB x.1 2 && (allB (x.1.take 1) 1 && (allB x.2 4 && chkFrom x.1 (L.drop (i + 1)))))) := rfl
    rw [hC] at hchk
    have HK := Lib.hid hchk
    have HF := Lib.hid (show chkFrom [] L = false → checkE L = 2 from fun e => by unfold checkE; rw [e]; rfl)
    clear hC hchk
    have hgb : gtB x.1 last = (!Op.bytesLess x.1 last && !(x.1 == last)) := rfl
    cases hg1 : Op.bytesLess x.1 last with
    | true =>
      rw [hg1] at hgb
      rw [hgb] at HK
      have HE := Lib.hid (HF.out HK.out)
      clear HK HF hgb
      go_wp2
      dsimp only [Exit.noGoto]
      go_ret
      exact ⟨by rw [HE.out]; rfl, hb.alloc hb.size _⟩
    | false =>
      cases hg2 : x.1 == last with
      | true =>
        rw [hg1, hg2] at hgb
        rw [hgb] at HK
        have HE := Lib.hid (HF.out HK.out)
        clear HK HF hgb
        go_wp2
        dsimp only [Exit.noGoto]
        go_ret
        exact ⟨by rw [HE.out]; rfl, hb.alloc hb.size _⟩
      | false =>
        rw [hg1, hg2] at hgb
        have hne : 1 ≤ x.1.length := by
          cases hx : x.1 with
          | nil => rw [hx, gtB_nil] at hgb; cases hgb
          | cons y l => simp
        rw [hgb] at HK
        have he1 : (bs x.1).extract 0 1 = bs (x.1.take 1) := by rw [bs_extract]; rfl
        clear hgb
        have C0 := Lib.hid (fun (w1 : World) (hb1 : Below (wr.alloc (.cells #[.string (bs x.1), .string (bs x.2)] 37)).heap.size (wr.alloc (.cells #[.string (bs x.1), .string (bs x.2)] 37)) w1) =>
          (show w1.cell? ⟨wr.heap.size, 0, none⟩ = some (.string (bs x.1)) ∧ w1.cell? ⟨wr.heap.size, 1, none⟩ = some (.string (bs x.2)) ∧ Below w.heap.size w w1 ∧ wr.heap.size < w1.heap.size from
            ⟨(hb1.cell (by simp)).trans (by rw [World.cell?_alloc_new]; rfl), (hb1.cell (by simp)).trans (by rw [World.cell?_alloc_new]; rfl), (hb.alloc hb.size _).trans (hb1.mono (hb.alloc hb.size _).size), Nat.lt_of_lt_of_le (by simp) hb1.size⟩))
        have hb' := hb.size
        have l1 : (x.1.take 1).length ≤ 1099511627776 := by simp; omega
        clear hb
        go_wp2_with fail
        refine (qa.out _ _ (by decide) (by omega) _).mono ?_
        rintro e w1 ⟨rfl, hb1⟩
        obtain ⟨c0, c1, hB, hs1⟩ := C0.out _ hb1
        clear hb1 C0
        cases ha1 : allB x.1 2 with
        | false =>
          rw [ha1] at HK
          have HE := Lib.hid (HF.out HK.out)
          clear HK HF
          go_wp2
          dsimp only [Exit.noGoto]
          go_ret
          exact ⟨by rw [HE.out]; rfl, hB⟩
        | true =>
          rw [ha1] at HK
          generalize hG : wr.heap.size = G at *
          have C1 := Lib.hid (fun (w2 : World) (hb1 : Below w1.heap.size w1 w2) =>
            (show w2.cell? ⟨G, 0, none⟩ = some (.string (bs x.1)) ∧ w2.cell? ⟨G, 1, none⟩ = some (.string (bs x.2)) ∧ Below w.heap.size w w2 from
              ⟨(hb1.cell hs1).trans c0, (hb1.cell hs1).trans c1, hB.trans (hb1.mono hB.size)⟩))
          go_wp2_with fail
          refine (qa.out _ _ (by decide) l1 _).mono ?_
          rintro e w2 ⟨rfl, hb1⟩
          have hs2 := Nat.lt_of_lt_of_le hs1 hb1.size
          have ⟨d0, d1, hB2⟩ := C1.out _ hb1
          clear hb1 C1 hB hs1 c0 c1
          cases ha2 : allB (x.1.take 1) 1 with
          | false =>
            rw [ha2] at HK
            have HE := Lib.hid (HF.out HK.out)
            clear HK HF
            go_wp2
            dsimp only [Exit.noGoto]
            go_ret
            exact ⟨by rw [HE.out]; rfl, hB2⟩
          | true =>
            rw [ha2] at HK
            have C1 := Lib.hid (fun (w3 : World) (hb1 : Below w2.heap.size w2 w3) =>
              (show w3.cell? ⟨G, 0, none⟩ = some (.string (bs x.1)) ∧ Below w.heap.size w w3 from
                ⟨(hb1.cell hs2).trans d0, hB2.trans (hb1.mono hB2.size)⟩))
            go_wp2_with fail
            refine (qa.out _ _ (by decide) (by omega) _).mono ?_
            rintro e w3 ⟨rfl, hb1⟩
            obtain ⟨f0, hB3⟩ := C1.out _ hb1
            clear hb1 C1 hB2 hs2 d0 d1
            cases ha3 : allB x.2 4 with
            | false =>
              rw [ha3] at HK
              have HE := Lib.hid (HF.out HK.out)
              clear HK HF
              go_wp2
              dsimp only [Exit.noGoto]
              go_ret
              exact ⟨by rw [HE.out]; rfl, hB3⟩
            | true =>
              rw [ha3] at HK
              go_wp2
              go_roundw
              case rel => exact ⟨i + 1, x.1, by omega, by go_num, rfl, HK.out, hB3⟩
              case measure => simp [intOf]; omega
  · rw [List.drop_length] at hchk
    have HE := Lib.hid (show checkE L = if L.length = 0 then 2 else if 6 < L.length then 2 else 0 from checkE_of L hchk)
    clear hchk HC
    generalize L.length = n at *
    by_cases h0 : n = 0
    · subst h0
      go_wp2
      try dsimp only [Exit.noGoto]
      go_ret
      exact ⟨by rw [HE.out, if_pos trivial]; rfl, hb⟩
    · by_cases h6 : 6 < n
      · have hd : decide (6 < n) = true := by simpa using h6
        have hE := HE.out
        rw [if_neg h0, if_pos h6] at hE
        have hE := Lib.hid hE
        have hz : ((n : Int) == 0) = false := by simp; omega
        go_wp2
        try dsimp only [Exit.noGoto]
        go_ret
        exact ⟨by rw [hE.out]; rfl, hb⟩
      · have hd : decide (6 < n) = false := by simpa using h6
        have hE := HE.out
        rw [if_neg h0, if_neg h6] at hE
        have hE := Lib.hid hE
        have hz : ((n : Int) == 0) = false := by simp; omega
        go_wp2
        try dsimp only [Exit.noGoto]
        go_ret
        exact ⟨by rw [hE.out]; rfl, hb⟩
end Go.Proofs.YtpeahjocimhneaaGreatDoor
namespace Go.Proofs.YtpeahjocimhneaaGreatDoor
open Go.RowKit

/-- A row with other cells from a place on, where there is room. -/
def rowWith (cur : Array Value) (k : Nat) (news : List Value) : Array Value := if k + news.length ≤ cur.size then (cur.toList.take k ++ news ++ cur.toList.drop (k + news.length)).toArray else cur
theorem rowWith_size (cur : Array Value) (k : Nat) (news : List Value) : (rowWith cur k news).size = cur.size := by
  unfold rowWith
  split
  · simp only [List.size_toArray, List.length_append, List.length_take, List.length_drop, Array.length_toList]
    omega
  · rfl
theorem rowWith_take (cur : Array Value) (k : Nat) (news : List Value) : (rowWith cur k news).toList.take k = cur.toList.take k := by
  unfold rowWith
  split
  · rename_i h
    have : (cur.toList.take k).length = k := by simp; omega
    simp only [List.append_assoc]
    rw [List.take_append_of_le_length (by omega), List.take_of_length_le (by omega)]
  · rfl
theorem rowWith_again (cur : Array Value) (k : Nat) (news : List Value) : rowWith (rowWith cur k news) k news = rowWith cur k news := by
  have hs := rowWith_size cur k news
  by_cases h : k + news.length ≤ cur.size
  · have e : rowWith cur k news = (cur.toList.take k ++ news ++ cur.toList.drop (k + news.length)).toArray := by unfold rowWith; rw [if_pos h]
    have ht := rowWith_take cur k news
    have hd : (rowWith cur k news).toList.drop (k + news.length) = cur.toList.drop (k + news.length) := by
      rw [e]
      have : (cur.toList.take k ++ news).length = k + news.length := by simp; omega
      show (cur.toList.take k ++ news ++ cur.toList.drop (k + news.length)).drop (k + news.length) = _
      rw [List.drop_append_of_le_length (by omega), List.drop_of_length_le (by omega), List.nil_append]
    generalize rowWith cur k news = C at *
    unfold rowWith
    rw [if_pos (by rw [hs]; exact h), ht, hd, e]
  · generalize rowWith cur k news = C at *
    unfold rowWith
    rw [if_neg (by rw [hs]; exact h)]

/-- What a row's block holds behind an append that found room. -/
def appendedTo (w : World) (v : Value) (size n : Nat) (news : List Value) : Option Obj :=
  match v with
  | .slice (some a) _ _ => match w.heap[a.block]? with
    | some (.cells cur e fz) => some (.cells (rowWith cur (n * size) news) e fz)
    | _ => none
  | _ => none

/-- New memory alone; but one row may become what it is to become. -/
def AppR (row : Option Nat) (fin : Option Obj) (a b : World) : Prop := a.grownBy b row ∧ ∀ g, row = some g → b.heap[g]? = a.heap[g]? ∨ b.heap[g]? = fin
instance {row : Option Nat} {fin : Option Obj} : Turns (AppR row fin) :=
  ⟨fun _ => ⟨⟨rfl, rfl, rfl, Nat.le_refl _, fun _ _ _ => rfl⟩, fun _ _ => .inl rfl⟩,
   fun h k => ⟨World.grownBy.trans h.1 k.1, fun g hg => by
     rcases k.2 g hg with e | e
     · rw [e]; exact h.2 g hg
     · exact .inr e⟩,
   fun _ => ⟨⟨rfl, rfl, rfl, Nat.le_refl _, fun _ _ _ => rfl⟩, fun _ _ => .inl rfl⟩⟩

theorem AppR.cell {row : Option Nat} {fin : Option Obj} {w w' : World} {p : Addr} {v : Value} (hR : AppR row fin w w') (h : w.cell? p = some v) (hr : some p.block ≠ row) : w'.cell? p = some v :=
  (World.cell?_of_block (hR.1.block p.block (World.block_lt_of_cell? _ _ h) hr)).trans h
theorem app_cell {row : Option Nat} {fin : Option Obj} {w : World} {p : Addr} {v : Value} (h : w.cell? p = some v) (hr : some p.block ≠ row) : ∀ x : RW (AppR row fin) w, x.w.cell? p = some v := fun x => AppR.cell x.is h hr

/-- A slice of new cells. -/
def NewCells (w0 : World) (m : Nat) (news : List Value) : Held := fun x W => ∃ p c, x = .slice (some ⟨p, 0, none⟩) m c ∧ w0.heap.size ≤ p ∧ ∀ j u, news[j]? = some u → W.cell? ((⟨p, 0, none⟩ : Addr).add j) = some u
theorem add_block (a : Addr) (j : Nat) : (a.add j).block = a.block := by unfold Addr.add; split <;> rfl
theorem newCells_keeps {row : Option Nat} {fin : Option Obj} {w0 : World} {m : Nat} {news : List Value} (hr : ∀ g, row = some g → g < w0.heap.size) : (NewCells w0 m news).keeps (AppR row fin) := by
  rintro x W W' ⟨p, c, rfl, hp, hc⟩ hR
  exact ⟨p, c, rfl, hp, fun j u hu => AppR.cell hR (hc j u hu) fun e => by
    rw [add_block] at e
    have := hr p e.symm
    omega⟩

/-- What an append answers. -/
def AppHeld (w0 : World) (base : Nat) (e : TypeId) (size : Nat) (row : Option Nat) (fin : Option Obj) (n : Nat) (xs : List Value) : Held := fun v' W' =>
  W'.ownsRow base e size v' n xs ∧ ((v'.ownBlock = row ∧ ∀ g, row = some g → W'.heap[g]? = fin) ∨ ∃ k, v'.ownBlock = some k ∧ w0.heap.size ≤ k)

theorem owns_same {w w' : World} {base : Nat} {e : TypeId} {size n : Nat} {v : Value} {xs : List Value} (h : w.ownsRow base e size v n xs) (hk : ∀ g, v.ownBlock = some g → w'.heap[g]? = w.heap[g]?) : w'.ownsRow base e size v n xs := by
  refine ⟨h.1, ?_⟩
  rcases h.2 with h2 | ⟨g, cap, cur, rfl, h3, h4, h5⟩
  · exact .inl h2
  · exact .inr ⟨g, cap, cur, rfl, h3, (hk g rfl).trans h4, h5⟩
theorem owns_lt {w : World} {base : Nat} {e : TypeId} {size n : Nat} {v : Value} {xs : List Value} (h : w.ownsRow base e size v n xs) {k : Nat} (hk : v.ownBlock = some k) : k < w.heap.size := by
  rcases h.2 with ⟨rfl, _⟩ | ⟨g, cap, cur, rfl, _, hg, _⟩
  · cases hk
  · obtain rfl : g = k := Option.some.inj hk
    exact (Array.getElem?_eq_some_iff.1 hg).1

theorem appHeld_keeps {w0 : World} {base : Nat} {e : TypeId} {size : Nat} {row : Option Nat} {fin : Option Obj} {n : Nat} {xs : List Value} (hr : ∀ g, row = some g → g < w0.heap.size) :
    (AppHeld w0 base e size row fin n xs).keeps (AppR row fin) := by
  rintro v W W' ⟨h1, h2⟩ hR
  rcases h2 with ⟨h2, h3⟩ | ⟨k, h2, h3⟩
  · have hs : ∀ g, row = some g → W'.heap[g]? = W.heap[g]? := fun g hg => by
      rcases hR.2 g hg with e | e
      · exact e
      · rw [e, h3 g hg]
    exact ⟨owns_same h1 fun g hg => hs g (h2 ▸ hg), .inl ⟨h2, fun g hg => (hs g hg).trans (h3 g hg)⟩⟩
  · exact ⟨owns_same h1 fun g hg => hR.1.block g (owns_lt h1 hg) fun e => by
      have := hr g e.symm
      rw [h2] at hg
      have := Option.some.inj hg
      omega, .inr ⟨k, h2, h3⟩⟩

section
variable {P : Program}
theorem run_append_app (t ty e : TypeId) (i : TypeInfo) (z : Value) (size bytes : Nat) (ht : P.underlying t = some (.slice e)) (hi : P.info? e = some i) (hz : i.zero = some z) (hsize : i.size = size) (hby : i.bytes = bytes) (hzs : z.cells.size = size) (hsz : 0 < size)
    (base : Nat) (w0 w : World) (v : Value) (n : Nat) (xs : List Value) (hown : w0.ownsRow base e size v n xs) (m c : Nat) (a : Addr) (news : List Value) (hl : news.length = m * size) (hnews : ∀ j u, news[j]? = some u → w.cell? (a.add j) = some u)
    (h1 : ∀ u ∈ news, u.oneCell' = true) (h63 : n + m ≤ maxLen) (hbytes : (n + m) * bytes ≤ 140737488355328) (hbase : base ≤ w0.heap.size) (hR : AppR v.ownBlock (appendedTo w0 v size n news) w0 w) :
    ∃ v' w', (Builtin.append_ #[t, t] ty #[v, .slice (some a) m c]).run P w = .ok v' w' ∧ AppR v.ownBlock (appendedTo w0 v size n news) w w' ∧ AppHeld w0 base e size v.ownBlock (appendedTo w0 v size n news) (n + m) (xs ++ news) v' w' := by
  have hown' : w.ownsRow base e size v n xs := by
    refine ⟨hown.1, ?_⟩
    rcases hown.2 with h2 | ⟨g, cap, cur, rfl, h3, h4, h5, h6, h7, h8⟩
    · exact .inl h2
    · rcases hR.2 g rfl with e' | e'
      · exact .inr ⟨g, cap, cur, rfl, h3, e'.trans h4, h5, h6, h7, h8⟩
      · refine .inr ⟨g, cap, rowWith cur (n * size) news, rfl, h3, e'.trans ?_, h5, h6, by rw [rowWith_size, h7], by rw [rowWith_take, h8]⟩
        unfold appendedTo
        simp only [h4]
  have hge := hR.1.size
  rcases hown'.2 with ⟨rfl, rfl⟩ | ⟨g, cap, cur, rfl, hbg, hg, hnc, hcm, hcs, htake⟩
  · obtain ⟨v', w', hr, h2, h3, h4, h5⟩ := run_append_own_at (P := P) w base t ty e i z size bytes ht hi hz hsize hby hzs hsz _ _ xs hown' a m c news hl hnews h1 h63 hbytes (by omega)
    refine ⟨v', w', hr, ⟨h3, fun g hg => by cases hg⟩, h2, ?_⟩
    rcases h5 with h5 | h5
    · exact .inl ⟨h5, fun g hg => by cases hg⟩
    · exact .inr ⟨_, h5, hge⟩
  · by_cases hroom : n + m ≤ cap
    · have hfit : n * i.size + news.length ≤ cur.size := by rw [hl, hcs, hsize, ← Nat.add_mul]; exact Nat.mul_le_mul_right _ hroom
      have hr := run_append_room (P := P) w t ty e i ht hi g n cap cur hg a m c news (by rw [hsize]; exact hl) hnews h1 hroom hfit
      have hset : (cur.toList.take (n * i.size) ++ news ++ cur.toList.drop (n * i.size + news.length)).toArray = rowWith cur (n * size) news := by
        unfold rowWith
        rw [hsize] at hfit ⊢
        rw [if_pos hfit]
      rw [hset] at hr
      have hnew : (w.setRow g (rowWith cur (n * size) news)).heap[g]? = some (.cells (rowWith cur (n * size) news) e (0, 0)) := setRow_heap w g cur _ e _ hg
      have hfin : (w.setRow g (rowWith cur (n * size) news)).heap[g]? = appendedTo w0 (.slice (some ⟨g, 0, none⟩) n cap) size n news := by
        rw [hnew]
        rcases hR.2 g rfl with e' | e'
        · unfold appendedTo
          simp only [← e', hg]
        · rw [hg] at e'
          unfold appendedTo at e' ⊢
          simp only at e' ⊢
          cases hq : w0.heap[g]? with
          | none => rw [hq] at e'; cases e'
          | some o =>
            rw [hq] at e'
            cases o <;> simp only [Option.some.injEq, reduceCtorEq, Obj.cells.injEq] at e' ⊢
            obtain ⟨rfl, rfl, rfl⟩ := e'
            exact ⟨rowWith_again _ _ _, rfl, rfl⟩
      refine ⟨_, _, hr, ⟨⟨rfl, rfl, rfl, by simp, fun k _ hk => setRow_other w g k _ (fun e => hk (by simp [Value.ownBlock, e]))⟩, fun k hk => ?_⟩, ⟨by rw [List.length_append, hown'.1, hl, Nat.add_mul], .inr ⟨g, cap, _, rfl, hbg, hnew, hroom, hcm, by rw [rowWith_size, hcs], ?_⟩⟩, .inl ⟨rfl, fun k hk => ?_⟩⟩
      · obtain rfl : g = k := Option.some.inj hk
        exact .inr hfin
      · unfold rowWith
        rw [hsize] at hfit
        rw [if_pos hfit, Nat.add_mul, ← hl]
        have : (cur.toList.take (n * size) ++ news).length = n * size + news.length := by simp; omega
        show (cur.toList.take (n * size) ++ news ++ cur.toList.drop (n * size + news.length)).take _ = _
        rw [List.take_append_of_le_length (by omega), List.take_of_length_le (by omega), htake]
      · obtain rfl : g = k := Option.some.inj hk
        exact hfin
    · obtain ⟨v', w', hr, h2, h3, h4, h5⟩ := run_append_own_at (P := P) w base t ty e i z size bytes ht hi hz hsize hby hzs hsz _ _ xs hown' a m c news hl hnews h1 h63 hbytes (by omega)
      have holds : ∀ j u, xs[j]? = some u → w.cell? ((⟨g, 0, none⟩ : Addr).add j) = some u := hown'.cells (g := g) rfl
      have hq := run_append_grow (P := P) w t ty e i z ht hi hz ⟨g, 0, none⟩ n cap xs (by rw [hsize]; exact hown'.1) holds a m c news (by rw [hsize]; exact hl) hnews (by omega) (by simp only [maxLen] at h63; omega) (growslice_fits (by omega) (by rw [hby]; exact hbytes))
      rw [hq] at hr
      obtain ⟨rfl, rfl⟩ := Result.ok.inj hr
      refine ⟨_, _, hq, ⟨h3, fun k hk => ?_⟩, h2, .inr ⟨_, rfl, hge⟩⟩
      obtain rfl : g = k := Option.some.inj hk
      exact .inl (heap_alloc_old w.drew _ (by exact (Array.getElem?_eq_some_iff.1 hg).1))

variable {ops : Array Oper} {w0 : World} {k : Nat} {ds : List Deferred} {F : Act → World → Prop} {rest : List Oper} {H : List (Tmp × Held)} {A : Act} {o : Oper}

/-- The new cells of an append are laid: its slot is hidden. -/
theorem lex_cells {d : Tmp} {row : Option Nat} {fin : Option Obj} {m : Nat} {news : List Value} (hrow : ∀ g, row = some g → g < w0.heap.size) (hw : Region.wanted o (yielded ops A.tmps) = true) (hns : ∀ cs b, o.op ≠ .select cs b) (hl : looksFree ops H o = true) (hd : o.dst = some d) (E : TypeId)
    (hr : ∀ w, (execOp A.eval o).run P w = .ok (.value (.slice (some ⟨w.heap.size, 0, none⟩) m m)) (w.alloc (.cells news.toArray E))) (h : lexAt (AppR row fin) P ops w0 k ds F rest ((d, NewCells w0 m news) :: H) A) :
    lexAt (AppR row fin) P ops w0 k ds F (o :: rest) H A := by
  refine lex_make (newCells_keeps hrow) hw hns hl hd (fun w hR => ⟨_, _, hr w, ?_, w.heap.size, m, rfl, hR.1.size, fun j u hu => ?_⟩) h
  · exact ⟨World.grownBy_alloc w _ _, fun g hg => .inl (heap_alloc_old w _ (Nat.lt_of_lt_of_le (hrow g hg) hR.1.size))⟩
  · have hadd : (⟨w.heap.size, 0, none⟩ : Addr).add j = ⟨w.heap.size, j, none⟩ := by unfold Addr.add; split <;> simp_all
    rw [hadd, World.cell?_alloc_new]
    simpa using hu

/-- An append onto the row, its new cells in a hidden slot: the answer is hidden. -/
theorem lex_app {s x d : Tmp} {t e : TypeId} {i : TypeInfo} {z : Value} {size bytes base n m : Nat} {v : Value} {xs news : List Value} (hgd : o.guard = none) (ho : o.op = .call { callee := .builtin .append, args := #[.tmp s, .tmp x], argTypes := #[t, t] }) (hd : o.dst = some d)
    (ht : P.underlying t = some (.slice e)) (hi : P.info? e = some i) (hz : i.zero = some z) (hsize : i.size = size) (hby : i.bytes = bytes) (hzs : z.cells.size = size) (hsz : 0 < size)
    (hsn : heldBy H s = none) (hs : A.eval (.tmp s) = v) (hx : heldBy H x = some (NewCells w0 m news)) (hown : w0.ownsRow base e size v n xs) (hl : news.length = m * size)
    (h1 : ∀ u ∈ news, u.oneCell' = true) (h63 : n + m ≤ maxLen) (hbytes : (n + m) * bytes ≤ 140737488355328) (hbase : base ≤ w0.heap.size)
    (h : lexAt (AppR v.ownBlock (appendedTo w0 v size n news)) P ops w0 k ds F rest ((d, AppHeld w0 base e size v.ownBlock (appendedTo w0 v size n news) (n + m) (xs ++ news)) :: H) A) :
    lexAt (AppR v.ownBlock (appendedTo w0 v size n news)) P ops w0 k ds F (o :: rest) H A := by
  refine lex_any (appHeld_keeps fun g hg => owns_lt hown hg) (fun c w hR hf => .inr ⟨?_, fun K Q' hK => ?_⟩) hd h
  · unfold Region.wanted
    rw [hgd]
  · have hes := hf s (by simp [Oper.looksAt, ho, hgd, Op.operands, Call.operands])
    have hex := hf x (by simp [Oper.looksAt, ho, hgd, Op.operands, Call.operands])
    unfold fits at hes hex
    rw [hsn] at hes
    rw [hx] at hex
    obtain ⟨p, c', hex, hp, hc⟩ := hex
    simp only at hes
    obtain ⟨v', w', hr, h2, h3⟩ := run_append_app (P := P) t o.type e i z size bytes ht hi hz hsize hby hzs hsz base w0 w v n xs hown m c' ⟨p, 0, none⟩ news hl hc h1 h63 hbytes hbase hR
    unfold Oper.wp execOp
    simp only [ho, resolve, invoke, builtin, Sem.run_bind, Sem.run_pure, Result.andThen_ok, List.map_toArray, List.map_cons, List.map_nil, hes, hs, hex, hr]
    exact hK _ _ h2 h3
end
end Go.Proofs.YtpeahjocimhneaaGreatDoor
namespace Go.Proofs.YtpeahjocimhneaaGreatDoor
open Go.RowKit Go.Maps Go.WideMaps

/-- All blocks but some are as they were. -/
structure Kept (w w' : World) (S : Nat → Prop) : Prop where
  os : w'.os = w.os
  tape : w'.tape = w.tape
  output : w'.output = w.output
  size : w.heap.size ≤ w'.heap.size
  block : ∀ k, k < w.heap.size → ¬ S k → w'.heap[k]? = w.heap[k]?
theorem Kept.of_grown {w w' : World} {row : Option Nat} {S : Nat → Prop} (h : w.grownBy w' row) (hS : ∀ k, row = some k → S k) : Kept w w' S :=
  ⟨h.os, h.tape, h.output, h.size, fun k hk hn => h.block k hk fun e => hn (hS k e.symm)⟩
theorem Kept.trans {a b c : World} {S : Nat → Prop} (h : Kept a b S) (k : Kept b c S) : Kept a c S :=
  ⟨k.os.trans h.os, k.tape.trans h.tape, k.output.trans h.output, Nat.le_trans h.size k.size, fun i hi hn => (k.block i (Nat.lt_of_lt_of_le hi h.size) hn).trans (h.block i hi hn)⟩

theorem ownsRow_kept {w w' : World} {base : Nat} {e : TypeId} {size n : Nat} {v : Value} {xs : List Value} {S : Nat → Prop} (h : w.ownsRow base e size v n xs) (k : Kept w w' S) (hS : ∀ b, v.ownBlock = some b → ¬ S b) : w'.ownsRow base e size v n xs := by
  refine ⟨h.1, ?_⟩
  rcases h.2 with h2 | ⟨g, cap, cur, rfl, h3, h4, h5⟩
  · exact .inl h2
  · refine .inr ⟨g, cap, cur, rfl, h3, ?_, h5⟩
    have hlt : g < w.heap.size := by
      rcases Nat.lt_or_ge g w.heap.size with hlt | hge
      · exact hlt
      · rw [Array.getElem?_eq_none hge] at h4; cases h4
    rw [k.block g hlt (hS g rfl)]
    exact h4

theorem Kept.refl (w : World) (S : Nat → Prop) : Kept w w S := ⟨rfl, rfl, rfl, Nat.le_refl _, fun _ _ _ => rfl⟩
theorem Kept.weaken {a b : World} {S T : Nat → Prop} (h : Kept a b S) (hs : ∀ k, S k → T k) : Kept a b T := ⟨h.os, h.tape, h.output, h.size, fun k hk hn => h.block k hk fun e => hn (hs k e)⟩
/-- New blocks alone. -/
theorem Kept.of_below {a b : World} {S : Nat → Prop} (h : Below a.heap.size a b) : Kept a b S := ⟨h.os, h.tape, h.output, h.size, fun k hk _ => h.block k hk⟩
theorem Kept.alloc (w : World) (o : Obj) (S : Nat → Prop) : Kept w (w.alloc o) S := Kept.of_below ((Below.refl _ w).alloc (Nat.le_refl _) o)
theorem Kept.below {a b : World} {S : Nat → Prop} {B : Nat} (h : Kept a b S) (hB : B ≤ a.heap.size) (hs : ∀ k, S k → B ≤ k) : Below B a b :=
  ⟨h.os, h.tape, h.output, h.size, fun k hk => h.block k (Nat.lt_of_lt_of_le hk hB) fun e => absurd (hs k e) (by omega)⟩

/-- A world turns, and with it what is held: what was not held is as it was; what is held that was not is new. -/
structure Turn (w w' : World) (F F' : Nat → Prop) : Prop where
  kept : Kept w w' F
  grow : ∀ k, F' k → F k ∨ w.heap.size ≤ k
theorem Turn.refl (w : World) (F : Nat → Prop) : Turn w w F F := ⟨Kept.refl w F, fun _ h => .inl h⟩
theorem Turn.trans {a b c : World} {F G H : Nat → Prop} (h : Turn a b F G) (k : Turn b c G H) : Turn a c F H :=
  ⟨⟨k.kept.os.trans h.kept.os, k.kept.tape.trans h.kept.tape, k.kept.output.trans h.kept.output, Nat.le_trans h.kept.size k.kept.size, fun i hi hn =>
    (k.kept.block i (Nat.lt_of_lt_of_le hi h.kept.size) fun e => (h.grow i e).elim hn (by omega)).trans (h.kept.block i hi hn)⟩,
   fun i hi => (k.grow i hi).elim (h.grow i) fun e => .inr (Nat.le_trans h.kept.size e)⟩
theorem Turn.of_kept {a b : World} {F : Nat → Prop} (h : Kept a b F) : Turn a b F F := ⟨h, fun _ h => .inl h⟩
theorem Turn.of_below {a b : World} {F : Nat → Prop} (h : Below a.heap.size a b) : Turn a b F F := Turn.of_kept (Kept.of_below h)

/-- What kind of block it is. -/
def tagOf : Obj → Option TypeId
  | .cells _ t _ => some t
  | _ => none
def tag (w : World) (k : Nat) : Option (Option TypeId) := (w.heap[k]?).map tagOf
theorem tag_blk {w : World} {g : Nat} {t : TypeId} {cs : Array Value} (h : Blk w g t cs) : tag w g = some (some t) := by
  unfold Blk at h
  unfold tag
  rw [h]
  rfl
theorem tag_row {w : World} {base : Nat} {e : TypeId} {size n : Nat} {v : Value} {xs : List Value} (h : w.ownsRow base e size v n xs) {k : Nat} (hk : v.ownBlock = some k) : tag w k = some (some e) := by
  rcases h.2 with ⟨rfl, _⟩ | ⟨g, cap, cur, rfl, _, hg, _⟩
  · cases hk
  · obtain rfl : g = k := Option.some.inj hk
    unfold tag
    rw [hg]
    rfl
theorem tag_lt {w : World} {k : Nat} {x : Option TypeId} (h : tag w k = some x) : k < w.heap.size := by
  rcases Nat.lt_or_ge k w.heap.size with hlt | hge
  · exact hlt
  · unfold tag at h
    rw [Array.getElem?_eq_none hge] at h
    cases h

theorem Blk.keptK {w w' : World} {g : Nat} {t : TypeId} {cs : Array Value} {S : Nat → Prop} (h : Blk w g t cs) (k : Kept w w' S) (hS : ¬ S g) : Blk w' g t cs := (k.block g h.lt hS).trans h

theorem Kept.then_new {a b c : World} {S : Nat → Prop} {k : Nat} (h : Kept a b S) (g : b.grownBy c (some k)) (hk : a.heap.size ≤ k) : Kept a c S :=
  ⟨g.os.trans h.os, g.tape.trans h.tape, g.output.trans h.output, Nat.le_trans h.size g.size, fun i hi hn => (g.block i (Nat.lt_of_lt_of_le hi h.size) (fun e => by have := Option.some.inj e; omega)).trans (h.block i hi hn)⟩
theorem Kept.cell {a b : World} {S : Nat → Prop} (h : Kept a b S) {p : Addr} {v : Value} (hp : a.cell? p = some v) (hS : ¬ S p.block) : b.cell? p = some v :=
  (World.cell?_of_block (h.block p.block (World.block_lt_of_cell? _ _ hp) hS)).trans hp
theorem ownsMap_kept {H : Type} {P : Program} {k : TypeId} {R : Value → Option (DataW H × List MemPlace)} {w w' : World} {b n : Nat} {D : DataW H} {S : Nat → Prop} (h : w.ownsMap P k R b n D) (hk : Kept w w' S) (hS : ¬ S b) : w'.ownsMap P k R b n D := by
  have hlt := World.ownsMap.lt h
  obtain ⟨es, clock, hb, F, hs, hD⟩ := h
  exact ⟨es, clock, (hk.block b hlt hS).trans hb, F, hs, hD⟩
theorem tag_map {H : Type} {P : Program} {k : TypeId} {R : Value → Option (DataW H × List MemPlace)} {w : World} {b n : Nat} {D : DataW H} (h : w.ownsMap P k R b n D) : tag w b = some none := by
  obtain ⟨es, clock, hb, _⟩ := h
  unfold tag
  rw [hb]
  rfl
end Go.Proofs.YtpeahjocimhneaaGreatDoor
namespace Go.Proofs.YtpeahjocimhneaaGreatDoor
open Go.RowKit
attribute [local go_sem] bs_toList bs_size

theorem builderString_any (B b : Nat) (l : List UInt8) (w : World) (h : BldAt B b l w) (hBw : B ≤ w.heap.size) :
    Calls Tryz.prog 63 #[.pointer (some ⟨b, 0, none⟩)] w fun e w' => e = .returned (.string (bs l)) ∧ BldAt B b l w' ∧ Below B w w' := Tryz.Builder_String_any_f B b l w h hBw

/-- Labels as bytes. -/
def keyB (L : List Lb) : List UInt8 := L.flatMap fun x => Num.text x.1 ++ Num.text x.2
theorem keyB_snoc (L : List Lb) (x : Lb) : keyB (L ++ [x]) = keyB L ++ (Num.text x.1 ++ Num.text x.2) := by unfold keyB; rw [List.flatMap_append]; simp
set_option maxRecDepth 100000 in
set_option maxHeartbeats 1000000 in
theorem Key_any (L : List Lb) (v : Value) (w : World) (h : LabsAt w v L) :
    Calls Tryz.prog 84 #[v] w fun e w' => e = .returned (.string (bs (keyB L))) ∧ Below w.heap.size w w' := by
  obtain ⟨a, c, rfl, hn, hc⟩ := h
  have HC := Lib.hid hc
  clear hc
  go_enter Tryz.func84, Tryz.ntmps84
  go_wp2
  go_loopw [8] (fun vi wr => ∃ (i : Nat) (l : List UInt8), i ≤ L.length ∧ vi = .int .i64 (i : Int) ∧ l = keyB (L.take i) ∧ l.length ≤ i * 4194304 ∧ BldAt w.heap.size w.heap.size l wr ∧ Below w.heap.size w wr) (fun vi _ => L.length - (intOf vi).toNat)
  case atStart => exact ⟨0, [], Nat.zero_le _, rfl, rfl, Nat.zero_le _, BldAt.fresh w, one_alloc w _⟩
  obtain ⟨i, l, hi, rfl, hl, hll, hB, hb⟩ := hrel
  rcases (show i < L.length ∨ i = L.length by omega) with hil | rfl
  · have HL := Lib.hid (show l ++ (Num.text L[i].1 ++ Num.text L[i].2) = keyB (L.take (i + 1)) by
      rw [List.take_succ_eq_append_getElem hil, keyB_snoc, hl])
    obtain ⟨hx1, hx2, b, o, rfl, d0, d1⟩ := HC.out i _ (List.getElem?_eq_getElem hil)
    have e0 := hb.cell (World.block_lt_of_cell? _ _ d0)
    have e1 := hb.cell (World.block_lt_of_cell? _ _ d1)
    rw [d0] at e0
    rw [d1] at e1
    clear d0 d1 hl
    generalize L[i] = x at *
    generalize hG : wr.heap.size = G
    have C0 := Lib.hid (fun (w1 : World) (hb1 : Below (wr.alloc (.cells #[.string (bs x.1), .string (bs x.2)] 37)).heap.size (wr.alloc (.cells #[.string (bs x.1), .string (bs x.2)] 37)) w1) =>
      (show w1.cell? ⟨G, 0, none⟩ = some (.string (bs x.1)) ∧ w1.cell? ⟨G, 1, none⟩ = some (.string (bs x.2)) ∧ BldAt w.heap.size w.heap.size l w1 ∧ Below w.heap.size w w1 ∧ G < w1.heap.size from by
        subst hG
        exact ⟨(hb1.cell (by simp)).trans (by rw [World.cell?_alloc_new]; rfl), (hb1.cell (by simp)).trans (by rw [World.cell?_alloc_new]; rfl), (hB.below (one_alloc _ _)).below hb1, (hb.alloc hb.size _).trans (hb1.mono (hb.alloc hb.size _).size), Nat.lt_of_lt_of_le (by simp) hb1.size⟩))
    clear hb hB
    have q1 := Lib.hid (fun W => num_Text_any x.1 W (by omega))
    have q2 := Lib.hid (fun W => num_Text_any x.2 W (by omega))
    have t1 : (Num.text x.1).length ≤ 2000000 := by rw [Num.text_len]; have := Num.small_len x.1.length; omega
    have t2 : (Num.text x.2).length ≤ 2000000 := by rw [Num.text_len]; have := Num.small_len x.2.length; omega
    generalize Num.text x.1 = y1 at *
    generalize Num.text x.2 = y2 at *
    have hadd : ∀ W, (Op.stringOp .add (bs y1) (bs y2)).run Tryz.prog W = .ok (.string (bs (y1 ++ y2))) W := fun W => run_add_bs (P := Tryz.prog) y1 y2 (by omega) W
    have hll2 : l.length + (y1 ++ y2).length ≤ (i + 1) * 4194304 := by rw [List.length_append]; omega
    generalize y1 ++ y2 = y at *
    have hq : ∀ W, BldAt w.heap.size w.heap.size l W → w.heap.size ≤ W.heap.size → _ := fun W hW hs => write_any w.heap.size w.heap.size l y W hW (by omega) hs
    have Q := Lib.hid hq
    clear hq
    have hs0 : G < (wr.alloc (.cells #[.string (bs x.1), .string (bs x.2)] 37)).heap.size := by subst hG; simp
    have y0 : (wr.alloc (.cells #[.string (bs x.1), .string (bs x.2)] 37)).cell? ⟨G, 0, none⟩ = some (.string (bs x.1)) := by subst hG; rw [World.cell?_alloc_new]; rfl
    have y1' : (wr.alloc (.cells #[.string (bs x.1), .string (bs x.2)] 37)).cell? ⟨G, 1, none⟩ = some (.string (bs x.2)) := by subst hG; rw [World.cell?_alloc_new]; rfl
    have g0 := grow_cell y0
    have g1 := grow_cell y1'
    go_wp2_with fail
    refine wp_region_led (R := GrowR) (by kernel_rfl) (by kernel_rfl) rfl (by kernel_rfl) ?_
    (refine lex_one (by kernel_rfl) (by kernel_rfl) (by kernel_rfl) (fun K hK => ?_); go_big_quiet_step (fail); refine wpQuiet_nil (hK _ ?_); clear hK K); (refine lex_one (by kernel_rfl) (by kernel_rfl) (by kernel_rfl) (fun K hK => ?_); go_big_quiet_step (fail); refine wpQuiet_nil (hK _ ?_); clear hK K)
    (refine lex_call (f := 66) (args := #[.string (bs x.1)]) (v := .string (bs y1)) (by kernel_rfl) (fun _ _ h => by cases h) (by kernel_rfl) (by kernel_rfl) (fun _ => by go_simp) (fun W hW => q1.out W) (lex_put (type := 0) (pos := "") (fun K hK => ?_)); go_big_quiet_step (fail); refine wpQuiet_nil (hK _ ?_); clear hK K)
    (refine lex_one (by kernel_rfl) (by kernel_rfl) (by kernel_rfl) (fun K hK => ?_); go_big_quiet_step (fail); refine wpQuiet_nil (hK _ ?_); clear hK K); (refine lex_one (by kernel_rfl) (by kernel_rfl) (by kernel_rfl) (fun K hK => ?_); go_big_quiet_step (fail); refine wpQuiet_nil (hK _ ?_); clear hK K)
    (refine lex_call (f := 66) (args := #[.string (bs x.2)]) (v := .string (bs y2)) (by kernel_rfl) (fun _ _ h => by cases h) (by kernel_rfl) (by kernel_rfl) (fun _ => by go_simp) (fun W hW => q2.out W) (lex_put (type := 0) (pos := "") (fun K hK => ?_)); go_big_quiet_step (fail); refine wpQuiet_nil (hK _ ?_); clear hK K)
    (refine lex_one (by kernel_rfl) (by kernel_rfl) (by kernel_rfl) (fun K hK => ?_); go_big_quiet_step (fail); refine wpQuiet_nil (hK _ ?_); clear hK K)
    refine lex_nil (by kernel_rfl) (by kernel_rfl) (by kernel_rfl) ?_
    intro w2 hb1
    simp only [hideAll]
    obtain ⟨_, _, hB, hb, hs⟩ := C0.out _ hb1
    clear C0 hb1 g0 g1 y0 y1' hs0
    go_wp2_with fail
    refine (Q.out _ hB hb.size).mono ?_
    rintro e w3 ⟨rfl, hB3, hb3⟩
    go_wp2_with fail
    go_roundw
    case rel => exact ⟨i + 1, l ++ y, by omega, by go_num, HL.out, by rw [List.length_append]; omega, hB3, hb.trans hb3⟩
    case measure => simp [intOf]; omega
  · rw [List.take_length] at hl
    subst hl
    have Q := Lib.hid (builderString_any _ _ _ _ hB hb.size)
    go_wp2_with fail
    refine Q.out.mono ?_
    rintro e w3 ⟨rfl, hB3, hb3⟩
    go_wp2_with fail
    go_ret
    exact ⟨rfl, hb.trans hb3⟩
end Go.Proofs.YtpeahjocimhneaaGreatDoor
namespace Go.Proofs.YtpeahjocimhneaaGreatDoor
open Go.RowKit
attribute [local go_sem] bs_toList bs_size

/-- The labels that bytes begin with, as far as they can be read. -/
def ofLoop : Nat → List UInt8 → Option (List Lb)
  | k, s => if s = [] then some [] else match k with
    | 0 => none
    | k + 1 => match Num.getText s 48 with
      | none => none
      | some (a, i) => match Num.getText (s.drop i) 48 with
        | none => none
        | some (b, j) => (ofLoop k ((s.drop i).drop j)).map ((a, b) :: ·)
/-- The labels that a key tells. -/
def ofB (key : List UInt8) : Option (List Lb) := match ofLoop key.length key with
  | none => none
  | some L => if checkE L = 0 then some L else none
def lbCells (L : List Lb) : List Value := L.flatMap fun x => [.string (bs x.1), .string (bs x.2)]
theorem lbCells_len (L : List Lb) : (lbCells L).length = L.length * 2 := by
  induction L with
  | nil => rfl
  | cons x l ih => unfold lbCells at *; simp only [List.flatMap_cons, List.length_append, List.length_cons, List.length_nil, ih]; omega
theorem lbCells_at : ∀ (L : List Lb) (i : Nat) x, L[i]? = some x → (lbCells L)[i * 2]? = some (.string (bs x.1)) ∧ (lbCells L)[i * 2 + 1]? = some (.string (bs x.2))
  | [], i, x, h => by simp at h
  | y :: l, 0, x, h => by
    obtain rfl : y = x := by simpa using h
    exact ⟨rfl, rfl⟩
  | y :: l, i + 1, x, h => by
    have ih := lbCells_at l i x (by simpa using h)
    have e : lbCells (y :: l) = .string (bs y.1) :: .string (bs y.2) :: lbCells l := rfl
    rw [e, show (i + 1) * 2 = i * 2 + 1 + 1 by omega]
    exact ih
theorem addr_add (g j : Nat) : (⟨g, 0, none⟩ : Addr).add j = ⟨g, j, none⟩ := by unfold Addr.add; split <;> simp_all
theorem cells_list_new (w : World) (xs : List Value) (t : TypeId) : ∀ j u, xs[j]? = some u → (w.alloc (.cells xs.toArray t)).cell? ((⟨w.heap.size, 0, none⟩ : Addr).add j) = some u := fun j u h => by
  rw [addr_add, World.cell?_alloc_new]
  simpa using h
theorem labsAt_row {w : World} {B : Nat} {v : Value} {L : List Lb} (h : w.ownsRow B 37 2 v L.length (lbCells L)) (hn : L.length ≤ 1048576) (hl : ∀ x ∈ L, x.1.length ≤ 1048576 ∧ x.2.length ≤ 1048576) : LabsAt w v L := by
  have hcells : ∀ g, v.ownBlock = some g → ∀ j u, (lbCells L)[j]? = some u → w.cell? ((⟨g, 0, none⟩ : Addr).add j) = some u := fun g hg => h.cells (g := g) hg
  rcases h.2 with ⟨e, e0⟩ | ⟨g, cap, cur, e, e1, e2, e3⟩
  · refine ⟨none, 0, by rw [e, e0], hn, fun i x hx => ?_⟩
    rw [List.length_eq_zero_iff.1 e0] at hx
    simp at hx
  · refine ⟨some ⟨g, 0, none⟩, cap, e, hn, fun i x hx => ?_⟩
    obtain ⟨h1, h2⟩ := hl x (List.mem_of_getElem? hx)
    obtain ⟨h3, h4⟩ := lbCells_at L i x hx
    refine ⟨h1, h2, g, 0, rfl, ?_, ?_⟩
    · have := hcells g (by rw [e]; rfl) _ _ h3
      rw [addr_add] at this
      rw [Nat.zero_add]
      exact this
    · have := hcells g (by rw [e]; rfl) _ _ h4
      rw [addr_add] at this
      rw [Nat.zero_add]
      exact this

def tT (c : List UInt8 × Bool) (n : Int) : List UInt8 := if c.2 then [] else gsval (Num.getText c.1 n)
def nT (c : List UInt8 × Bool) (n : Int) : List UInt8 × Bool := Num.nxt c (Num.getText c.1 n)
theorem CT (g : Nat) (c : List UInt8 × Bool) (n : Int) (w : World) (hB : Cur w g c.1 c.2) (hs : c.1.length ≤ 1099511627776) (h1 : -9223372036854775808 ≤ n) (h2 : n ≤ 9223372036854775807) :
    Calls Tryz.prog 127 #[.pointer (some ⟨g, 0, none⟩), .int .i64 n] w fun e w' => e = .returned (.string (bs (tT c n))) ∧ Cur w' g (nT c n).1 (nT c n).2 ∧ w.grownBy w' (some g) := CText g c.1 c.2 n w hB hs h1 h2
theorem getText_bd (l : List UInt8) (m : Int) (t : List UInt8) (k : Nat) (h : Num.getText l m = some (t, k)) : (t.length : Int) ≤ m ∧ 1 + t.length ≤ k ∧ k ≤ l.length := by
  unfold Num.getText at h
  cases hs : Num.getSmall l with
  | none => rw [hs] at h; cases h
  | some x =>
    obtain ⟨n, i⟩ := x
    obtain ⟨_, b1, b2, b3⟩ := getSmall_bd l n i hs
    rw [hs] at h
    simp only at h
    split at h
    · cases h
    · rename_i hc
      obtain ⟨rfl, rfl⟩ := Prod.mk.inj (Option.some.inj h)
      rw [List.length_take, List.length_drop]
      omega
/-- One label of a key. -/
theorem of_step (k : Nat) (s : List UInt8) (hs : s ≠ []) (hk : s.length ≤ k) :
    let c1 := nT (s, false) 48
    let c2 := nT c1 48
    let a := tT (s, false) 48
    let b := tT c1 48
    c1.1.length ≤ s.length ∧ c2.1.length ≤ s.length ∧ a.length ≤ 48 ∧ b.length ≤ 48 ∧ c2.1.length * 2 + (if c2.2 then 0 else 1) < s.length * 2 + 1 ∧ (c2.2 = true → ofLoop k s = none) ∧
      (c2.2 = false → c2.1.length + 1 ≤ s.length ∧ c2.1.length ≤ k - 1 ∧ ofLoop k s = (ofLoop (k - 1) c2.1).map ((a, b) :: ·)) := by
  intro c1 c2 a b
  have hpos : 0 < s.length := List.length_pos_iff.2 hs
  obtain ⟨k, rfl⟩ : ∃ m, k = m + 1 := ⟨k - 1, by omega⟩
  have hO : ofLoop (k + 1) s = match Num.getText s 48 with
      | none => none
      | some (a, i) => match Num.getText (s.drop i) 48 with
        | none => none
        | some (b, j) => (ofLoop k ((s.drop i).drop j)).map ((a, b) :: ·) := by
    conv => lhs; unfold ofLoop
    rw [if_neg hs]
  cases h1 : Num.getText s 48 with
  | none =>
    have e1 : c1 = (s, true) := by show nT (s, false) 48 = _; unfold nT; rw [h1]; rfl
    have e2 : c2 = (s, true) := by show nT c1 48 = _; rw [e1]; rfl
    have ea : a = [] := by show tT (s, false) 48 = _; unfold tT; rw [h1]; rfl
    have eb : b = [] := by show tT c1 48 = _; rw [e1]; rfl
    rw [h1] at hO
    rw [e1, e2, ea, eb]
    exact ⟨Nat.le_refl _, Nat.le_refl _, by simp, by simp, by simp, fun _ => hO, fun h => by cases h⟩
  | some x =>
    obtain ⟨a', i⟩ := x
    obtain ⟨b1, b2, b3⟩ := getText_bd _ _ _ _ h1
    have e1 : c1 = (s.drop i, false) := by show nT (s, false) 48 = _; unfold nT; rw [h1]; rfl
    have ea : a = a' := by show tT (s, false) 48 = _; unfold tT; rw [h1]; rfl
    rw [h1] at hO
    simp only at hO
    cases h2 : Num.getText (s.drop i) 48 with
    | none =>
      have e2 : c2 = (s.drop i, true) := by show nT c1 48 = _; rw [e1]; unfold nT; rw [h2]; rfl
      have eb : b = [] := by show tT c1 48 = _; rw [e1]; unfold tT; rw [h2]; rfl
      rw [h2] at hO
      rw [e1, e2, ea, eb]
      have : (s.drop i).length = s.length - i := List.length_drop
      exact ⟨by simp, by simp, by omega, by simp, by simp only [if_true]; omega, fun _ => hO, fun h => by cases h⟩
    | some y =>
      obtain ⟨b', j⟩ := y
      obtain ⟨d1, d2, d3⟩ := getText_bd _ _ _ _ h2
      have e2 : c2 = ((s.drop i).drop j, false) := by show nT c1 48 = _; rw [e1]; unfold nT; rw [h2]; rfl
      have eb : b = b' := by show tT c1 48 = _; rw [e1]; unfold tT; rw [h2]; rfl
      rw [h2] at hO
      rw [e1, e2, ea, eb]
      have l1 : (s.drop i).length = s.length - i := List.length_drop
      have l2 : ((s.drop i).drop j).length = (s.drop i).length - j := List.length_drop
      simp only
      exact ⟨by omega, by omega, by omega, by omega, by simp only [Bool.false_eq_true, if_false]; omega, (fun h => by cases h), fun _ => ⟨by omega, by omega, hO⟩⟩

/-- Labels in a block of labels. -/
def LabsOwn (w : World) (v : Value) (L : List Lb) : Prop := LabsAt w v L ∧ ∀ b, v.ownBlock = some b → tag w b = some (some 37)
theorem tag_kept {w w' : World} {S : Nat → Prop} {b : Nat} {x : Option TypeId} (h : tag w b = some x) (hk : Kept w w' S) (hS : ¬ S b) : tag w' b = some x := by
  have hlt := tag_lt h
  unfold tag at *
  rw [hk.block b hlt hS]
  exact h
theorem LabsOwn.kept {w w' : World} {S : Nat → Prop} {v : Value} {L : List Lb} (h : LabsOwn w v L) (hk : Kept w w' S) (hS : ∀ b, tag w b = some (some 37) → ¬ S b) : LabsOwn w' v L := by
  obtain ⟨⟨a, c, rfl, h2, h3⟩, h4⟩ := h
  refine ⟨⟨a, c, rfl, h2, fun i x hx => ?_⟩, fun b hb => tag_kept (h4 b hb) hk (hS b (h4 b hb))⟩
  obtain ⟨h5, h6, b, o, rfl, h7, h8⟩ := h3 i x hx
  have hb := hS b (h4 b rfl)
  exact ⟨h5, h6, b, o, rfl, hk.cell h7 hb, hk.cell h8 hb⟩
theorem LabsOwn.below {w w' : World} {v : Value} {L : List Lb} (h : LabsOwn w v L) (hb : Below w.heap.size w w') : LabsOwn w' v L := h.kept (Kept.of_below (S := fun _ => False) hb) fun _ _ e => e
theorem labsOwn_row {w : World} {B : Nat} {v : Value} {L : List Lb} (h : w.ownsRow B 37 2 v L.length (lbCells L)) (hn : L.length ≤ 1048576) (hl : ∀ x ∈ L, x.1.length ≤ 1048576 ∧ x.2.length ≤ 1048576) : LabsOwn w v L := ⟨labsAt_row h hn hl, fun _ hb => tag_row h hb⟩
def OfIs (key : List UInt8) (e : Ending) (w' : World) : Prop := match ofB key with
  | none => e = .returned (.tuple #[.slice none 0 0, .bool false])
  | some L => ∃ v, e = .returned (.tuple #[v, .bool true]) ∧ LabsOwn w' v L
end Go.Proofs.YtpeahjocimhneaaGreatDoor
namespace Go.Proofs.YtpeahjocimhneaaGreatDoor
open Go.RowKit

section
variable {R : World → World → Prop} {P : Program} {ops : Array Oper} {w0 : World} {n : Nat} {ds : List Deferred} {F : Act → World → Prop} {rest : List Oper} {H : List (Tmp × Held)} {a : Act} {o : Oper}

/-- All slots that an operation looks at but one are open. -/
def looksBut (ops : Array Oper) (H : List (Tmp × Held)) (d : Tmp) (o : Oper) : Bool := (o.looksAt ops).all fun t => t == d || (heldBy H t).isNone
def guardFree (ops : Array Oper) (H : List (Tmp × Held)) (d : Tmp) (o : Oper) : Bool := match o.guard with
  | none => true
  | some (g, _) => match (ops[g]?).bind (·.dst) with
    | none => true
    | some t => t != d && (heldBy H t).isNone
theorem eval_but {d : Tmp} (hz : d < a.tmps.size) (hl : looksBut ops H d o = true) {c : Act} {w : World} (h : ∀ t ∈ o.looksAt ops, fits H a t (c.eval (.tmp t)) w) : ∀ t ∈ o.looksAt ops, c.eval (.tmp t) = (a.put (some d) (c.eval (.tmp d))).eval (.tmp t) := fun t ht => by
  by_cases hd : d = t
  · subst hd
    rw [eval_put_same hz]
  · rw [eval_put_ne hd]
    have h1 := h t ht
    have h2 := List.all_eq_true.1 hl t ht
    unfold fits at h1
    cases he : heldBy H t with
    | none => rw [he] at h1; exact h1
    | some q =>
      rw [he] at h2
      simp only [Option.isNone_some, Bool.or_false, beq_iff_eq] at h2
      exact absurd h2.symm hd
theorem wanted_but {d : Tmp} (hg : guardFree ops H d o = true) {c : Act} {w : World} (h : ∀ t ∈ o.looksAt ops, fits H a t (c.eval (.tmp t)) w) : Region.wanted o (yielded ops c.tmps) = Region.wanted o (yielded ops a.tmps) :=
  wanted_of_fits fun g b u hgd hu => by
    unfold guardFree at hg
    rw [hgd] at hg
    simp only [hu] at hg
    have h1 := h u (guard_looks hgd hu)
    unfold fits at h1
    cases he : heldBy H u with
    | none => rw [he] at h1; exact h1
    | some q => rw [he] at hg; simp at hg
/-- A call, one of its arguments hidden; the answer is known. -/
theorem lex_callx (d : Tmp) {r : Held} {v : Value} (hw : Region.wanted o (yielded ops a.tmps) = true) (hns : ∀ cs b, o.op ≠ .select cs b) (hh : heldBy H d = some r) (hz : d < a.tmps.size) (hm : (o.looksAt ops).contains d = true) (hl : looksBut ops H d o = true) (hg : guardFree ops H d o = true) (hd : writesFree H a o.dst = true)
    (hr : ∀ x w, R w0 w → r x w → ∃ f args, (execOp (a.put (some d) x).eval o).run P w = .ok (.enter f args) w ∧ Calls P f args w fun e w' => e = .returned v ∧ R w w')
    (h : lexAt R P ops w0 n ds F rest H (a.put o.dst v)) : lexAt R P ops w0 n ds F (o :: rest) H a := by
  refine ⟨fun x _ => x = v, fun _ _ _ h _ => h, fun c w hb hs => .inr ⟨by rw [wanted_but hg hs]; exact hw, fun K Q' hK => ?_⟩, by rw [fits_put hd]; exact h⟩
  have h1 := hs d (List.contains_iff_mem.1 hm)
  unfold fits at h1
  rw [hh] at h1
  obtain ⟨f, args, h2, h3⟩ := hr _ _ hb h1
  unfold Oper.wp
  rw [exec_of_fits hns (eval_but hz hl hs), h2]
  exact h3.mono fun e w' ⟨e1, e2⟩ => by subst e1; exact hK _ _ e2 rfl
/-- A call, one of its arguments hidden; the answer is hidden. -/
theorem lex_callxh (d : Tmp) {e : Tmp} {r s : Held} (hk : s.keeps R) (hw : Region.wanted o (yielded ops a.tmps) = true) (hns : ∀ cs b, o.op ≠ .select cs b) (hh : heldBy H d = some r) (hz : d < a.tmps.size) (hm : (o.looksAt ops).contains d = true) (hl : looksBut ops H d o = true) (hg : guardFree ops H d o = true) (hd : o.dst = some e)
    (hr : ∀ x w, R w0 w → r x w → ∃ f args, (execOp (a.put (some d) x).eval o).run P w = .ok (.enter f args) w ∧ Calls P f args w fun e w' => ∃ y, e = .returned y ∧ R w w' ∧ s y w')
    (h : lexAt R P ops w0 n ds F rest ((e, s) :: H) a) : lexAt R P ops w0 n ds F (o :: rest) H a := by
  refine lex_any hk (fun c w hb hs => .inr ⟨by rw [wanted_but hg hs]; exact hw, fun K Q' hK => ?_⟩) hd h
  have h1 := hs d (List.contains_iff_mem.1 hm)
  unfold fits at h1
  rw [hh] at h1
  obtain ⟨f, args, h2, h3⟩ := hr _ _ hb h1
  unfold Oper.wp
  rw [exec_of_fits hns (eval_but hz hl hs), h2]
  exact h3.mono fun e w' ⟨y, e1, e2, e3⟩ => by subst e1; exact hK _ _ e2 e3
end
end Go.Proofs.YtpeahjocimhneaaGreatDoor
namespace Go.Proofs.YtpeahjocimhneaaGreatDoor
open Go.RowKit

/-- What holds of the world behind so many operations of the row; how it may turn. -/
structure Phases where
  ph : Nat → World → Prop
  K : World → World → Prop
  w0 : World
  start : ph 0 w0
  refl : ∀ w, K w w
  trans : ∀ {a b c}, K a b → K b c → K a c
  grow : ∀ {a b}, GrowR a b → K a b
  stay : ∀ {q a b}, ph q a → GrowR a b → ph q b

section
variable (S : Phases) (ch : List Nat) (P : Program) (ops : Array Oper)
def PW : Type := { w : World // ∃ q, S.ph q w }
variable {S} in
def PW.w (x : PW S) : World := x.1
instance : Nonempty (PW S) := ⟨⟨S.w0, 0, S.start⟩⟩

def ServesO (o : Oper) (s : Tmp → Held) (r : Held) : Prop :=
  ∀ c w, (∃ q, S.ph q w) → (∀ t ∈ o.looksAt ops, s t (c.eval (.tmp t)) w) →
    (Region.wanted o (yielded ops c.tmps) = false ∧ r undef w) ∨
    (Region.wanted o (yielded ops c.tmps) = true ∧ ∀ Q Q', (∀ x w', GrowR w w' → r x w' → Q (c.put o.dst x) w') → o.wp P c w Q Q')
def ServesC (q : Nat) (o : Oper) (s : Tmp → Held) (r : Held) : Prop :=
  ∀ c w, S.ph q w → (∀ t ∈ o.looksAt ops, s t (c.eval (.tmp t)) w) →
    Region.wanted o (yielded ops c.tmps) = true ∧ ∀ Q Q', (∀ x w', S.K w w' → S.ph (q + 1) w' → r x w' → Q (c.put o.dst x) w') → o.wp P c w Q Q'
def SvC (k : Nat) (o : Oper) (s : Tmp → Held) (r : Held) : Prop :=
  if ch.contains k then ServesC S P ops (ch.idxOf k) o s r else ServesO S P ops o s r
end

/-- One operation behind another, each served as its place asks. -/
def wpLexS (Sv : Nat → Oper → (Tmp → Held) → Held → Prop) (Kp : Held → Prop) (Fin : (Tmp → Held) → Prop) : Nat → List Oper → (Tmp → Held) → Prop
  | _, [], s => Fin s
  | k, o :: rest, s => ∃ r : Held, Kp r ∧ Sv k o s r ∧ wpLexS Sv Kp Fin (k + 1) rest (fun t => if o.dst = some t then r else s t)

theorem wpLexS_get {Sv : Nat → Oper → (Tmp → Held) → Held → Prop} {Kp : Held → Prop} {Fin : (Tmp → Held) → Prop} {ops : Array Oper} (hT : Kp fun _ _ => True) : ∀ (l : List Oper) (k : Nat) (r : Nat → Held) (s0 : Tmp → Held), (∀ j, j < l.length → l[j]? = ops[k + j]?) →
    (∀ j, j < k → Kp (r j)) → (∀ j o, j < k → ops[j]? = some o → Sv j o (slotsBy ops r s0 j) (r j)) → wpLexS Sv Kp Fin k l (slotsBy ops r s0 k) →
    ∃ r' : Nat → Held, (∀ j, Kp (r' j)) ∧ (∀ j o, j < k + l.length → ops[j]? = some o → Sv j o (slotsBy ops r' s0 j) (r' j)) ∧ Fin (slotsBy ops r' s0 (k + l.length))
  | [], k, r, s0, _, h1, h2, h => by
    have hs : ∀ m, m ≤ k → slotsBy ops (fun j => if j < k then r j else fun _ _ => True) s0 m = slotsBy ops r s0 m := by
      intro m
      induction m with
      | zero => intro _; rfl
      | succ m ih =>
        intro hm
        funext t
        unfold slotsBy
        rw [ih (by omega), if_pos (show m < k by omega)]
    refine ⟨fun j => if j < k then r j else fun _ _ => True, fun j => ?_, fun j o hj ho => ?_, ?_⟩
    · by_cases hj : j < k
      · simp only [hj, if_true]; exact h1 j hj
      · simp only [hj, if_false]; exact hT
    · have hj : j < k := by simpa using hj
      simp only [hj, if_true]
      rw [hs j (by omega)]
      exact h2 j o hj ho
    · rw [List.length_nil, Nat.add_zero, hs k (Nat.le_refl _)]
      exact h
  | o :: rest, k, r, s0, hl, h1, h2, h => by
    obtain ⟨q, hq, hsv, hrest⟩ := h
    have ho : ops[k]? = some o := by simpa using (hl 0 (by simp)).symm
    have hs : ∀ m, m ≤ k → slotsBy ops (fun j => if j = k then q else r j) s0 m = slotsBy ops r s0 m := by
      intro m
      induction m with
      | zero => intro _; rfl
      | succ m ih =>
        intro hm
        funext t
        unfold slotsBy
        rw [ih (by omega), if_neg (show m ≠ k by omega)]
    have := wpLexS_get hT rest (k + 1) (fun j => if j = k then q else r j) s0 (fun j hj => by have := hl (j + 1) (by simp; omega); simpa [Nat.add_assoc, Nat.add_comm 1 j] using this)
      (fun j hj => by
        by_cases hjk : j = k
        · simp only [hjk, if_true]; exact hq
        · simp only [hjk, if_false]; exact h1 j (by omega))
      (fun j p hj hp => by
        rw [hs j (by omega)]
        by_cases hjk : j = k
        · subst hjk
          simp only [if_true]
          rw [hp] at ho; cases ho
          exact hsv
        · simp only [hjk, if_false]; exact h2 j p (by omega) hp)
      (by
        have : slotsBy ops (fun j => if j = k then q else r j) s0 (k + 1) = fun t => if o.dst = some t then q else slotsBy ops r s0 k t := by
          funext t
          show (if (ops[k]?).bind (·.dst) = some t then _ else _) = _
          rw [hs k (Nat.le_refl _), ho]
          simp
        rw [this]
        exact hrest)
    rwa [show k + 1 + rest.length = k + (o :: rest).length by simp; omega] at this

/-- The row: each of its operations waits for the one before it. -/
def chainB (ops : Array Oper) (ch : List Nat) : Bool :=
  decide ch.Nodup && (List.range (ch.length - 1)).all fun i => match ops[ch.getD (i + 1) 0]? with
    | none => false
    | some p => p.after.toList.any fun e => Region.binds .any e && decide (e.on = ch.getD i 0)
theorem chain_of {ops : Array Oper} {ch : List Nat} (h : chainB ops ch = true) : ch.Nodup ∧ ∀ i, i + 1 < ch.length → ∃ p, ops[ch.getD (i + 1) 0]? = some p ∧ ∃ e ∈ p.after, Region.binds .any e = true ∧ e.on = ch.getD i 0 := by
  unfold chainB at h
  rw [Bool.and_eq_true, decide_eq_true_eq, List.all_eq_true] at h
  refine ⟨h.1, fun i hi => ?_⟩
  have := h.2 i (List.mem_range.2 (by omega))
  cases hp : ops[ch.getD (i + 1) 0]? with
  | none => rw [hp] at this; cases this
  | some p =>
    rw [hp] at this
    simp only [List.any_eq_true, Bool.and_eq_true, decide_eq_true_eq] at this
    obtain ⟨e, he, hb⟩ := this
    exact ⟨p, rfl, e, Array.mem_toList_iff.1 he, hb.1, hb.2⟩

/-- How far the row has come. -/
def Phase (S : Phases) (ch : List Nat) (listed : Array Bool) (w : World) : Prop :=
  ∃ q, q ≤ ch.length ∧ (∀ i, i < q → listed.getD (ch.getD i 0) false = true) ∧ (∀ i, q ≤ i → i < ch.length → listed.getD (ch.getD i 0) true = false) ∧ S.ph q w

section
variable {S : Phases} {ch : List Nat} {P : Program} {ops : Array Oper} {n m : Nat} {r : Nat → Held} {a : Act}
theorem turnsK (S : Phases) : Turns S.K := ⟨S.refl, S.trans, fun w => S.grow (Turns.drew (R := GrowR) w)⟩

theorem Phase.other {listed : Array Bool} {w w' : World} {i : Nat} (h : Phase S ch listed w) (hi : i ∉ ch) (hw : GrowR w w') : Phase S ch (listed.setIfInBounds i true) w' := by
  obtain ⟨q, hq, h1, h2, h3⟩ := h
  refine ⟨q, hq, fun j hj => getD_set_true (h1 j hj), fun j hj hl => ?_, S.stay h3 hw⟩
  have hne : i ≠ ch.getD j 0 := fun e => hi (by rw [e, List.getD_eq_getElem?_getD, List.getElem?_eq_getElem hl]; exact List.getElem_mem hl)
  rw [getD_set_ne true hne]
  exact h2 j hj hl
theorem getD_clash {l : Array Bool} {i : Nat} (h1 : l.getD i false = true) (h2 : l.getD i true = false) : False := by
  have := getD_lt h1
  simp [this] at h1 h2
  rw [h1] at h2
  cases h2
theorem Phase.here {listed : Array Bool} {w : World} {i q0 : Nat} (hC : chainB ops ch = true) (h : Phase S ch listed w) (hq0 : ch[q0]? = some i) (hi : i ∈ Region.ready .any ops listed) :
    (∀ i, i < q0 → listed.getD (ch.getD i 0) false = true) ∧ (∀ i, q0 ≤ i → i < ch.length → listed.getD (ch.getD i 0) true = false) ∧ S.ph q0 w := by
  obtain ⟨q, hq, h1, h2, h3⟩ := h
  obtain ⟨hnd, hch⟩ := chain_of hC
  have hl0 : q0 < ch.length := (List.getElem?_eq_some_iff.1 hq0).1
  have hg0 : ch.getD q0 0 = i := by rw [List.getD_eq_getElem?_getD, hq0]; rfl
  obtain ⟨hun, o, ho, hall⟩ := mem_ready.1 hi
  have e : q = q0 := by
    rcases Nat.lt_trichotomy q q0 with hlt | heq | hgt
    · obtain ⟨p, hp, e, he, hb, hon⟩ := hch (q0 - 1) (by omega)
      rw [show q0 - 1 + 1 = q0 by omega, hg0, ho] at hp
      cases hp
      have h4 := hall e he hb
      rw [hon] at h4
      exact (getD_clash h4 (h2 (q0 - 1) (by omega) (by omega))).elim
    · exact heq
    · have h4 := h1 q0 hgt
      rw [hg0] at h4
      exact (getD_clash h4 hun).elim
  subst e
  exact ⟨h1, h2, h3⟩
theorem Phase.next {listed : Array Bool} {w w' : World} {i q0 : Nat} (hC : chainB ops ch = true) (h : Phase S ch listed w) (hq0 : ch[q0]? = some i) (hi : i ∈ Region.ready .any ops listed) (hil : i < listed.size) (hw : S.ph (q0 + 1) w') : Phase S ch (listed.setIfInBounds i true) w' := by
  obtain ⟨h1, h2, h3⟩ := h.here hC hq0 hi
  obtain ⟨hnd, _⟩ := chain_of hC
  have hl0 : q0 < ch.length := (List.getElem?_eq_some_iff.1 hq0).1
  have hg0 : ch.getD q0 0 = i := by rw [List.getD_eq_getElem?_getD, hq0]; rfl
  refine ⟨q0 + 1, by omega, fun j hj => ?_, fun j hj hl => ?_, hw⟩
  · rcases (show j < q0 ∨ j = q0 by omega) with hlt | rfl
    · exact getD_set_true (h1 j hlt)
    · rw [hg0]; exact getD_set_self hil
  · have hne : i ≠ ch.getD j 0 := fun e => by
      have h5 : ch[j]? = ch[q0]? := by
        rw [hq0, e, List.getD_eq_getElem?_getD, List.getElem?_eq_getElem hl]; rfl
      have := (List.getElem?_inj hl hnd).1 h5
      omega
    rw [getD_set_ne true hne]
    exact h2 j (by omega) hl

theorem servC {i : Nat} {o : Oper} {s : Tmp → Held} (h : SvC S ch P ops i o s (r i)) : (i ∉ ch ∧ ServesO S P ops o s (r i)) ∨ ∃ q, ch[q]? = some i ∧ ServesC S P ops q o s (r i) := by
  unfold SvC at h
  by_cases hi : i ∈ ch
  · rw [if_pos (by simpa using hi)] at h
    exact .inr ⟨ch.idxOf i, by rw [List.getElem?_eq_getElem (List.idxOf_lt_length_of_mem hi), List.getElem_idxOf], h⟩
  · rw [if_neg (by simpa using hi)] at h
    exact .inl ⟨hi, h⟩

theorem wpAny_C (hC : chainB ops ch = true) (hF : Formed ops n) (hn : a.tmps.size = n) (hk : ∀ k, (r k).keeps S.K) (hS : ∀ i o, ops[i]? = some o → SvC S ch P ops i o (slotsBy ops r (fun t x _ => x = a.eval (.tmp t)) i) (r i))
    {Q : Exit → Act → World → Prop}
    (hQ : ∀ c w, S.K S.w0 w → S.ph ch.length w → c.tmps.size = a.tmps.size → c.defers = a.defers → (∀ t, slotsBy ops r (fun t x _ => x = a.eval (.tmp t)) ops.size t (c.eval (.tmp t)) w) → Q .normal c w) (hch : ∀ j ∈ ch, j < ops.size) :
    ∀ (fuel : Nat) (listed : Array Bool) (c : Act) (w : World), listed.toList.count false ≤ fuel → Along S.K ops r S.w0 a listed c w → Phase S ch listed w → wpAny P .any ops Q fuel listed c w := by
  haveI := turnsK S
  have hend : ∀ (listed : Array Bool) (c : Act) (w : World), Along S.K ops r S.w0 a listed c w → Phase S ch listed w → Region.ready .any ops listed = [] → Q .normal c w := fun listed c w h hp h0 => by
    have hall := all_listed hF h.size h0
    have hph : S.ph ch.length w := by
      obtain ⟨q, hq, h1, h2, h3⟩ := hp
      have e : q = ch.length := by
        rcases Nat.lt_or_ge q ch.length with hlt | hge
        · exfalso
          have hm : ch.getD q 0 ∈ ch := by rw [List.getD_eq_getElem?_getD, List.getElem?_eq_getElem hlt]; exact List.getElem_mem hlt
          exact getD_clash (hall _ (hch _ hm)) (h2 q (Nat.le_refl _) hlt)
        · omega
      exact e ▸ h3
    refine hQ c w h.below hph h.frame h.defers fun t => ?_
    by_cases hex : ∃ (j : Nat) (p : Oper), ops[j]? = some p ∧ p.dst = some t
    · obtain ⟨j, p, hp, hd⟩ := hex
      rw [slotsBy_of hF (lt_of_some hp) hp hd]
      exact h.done j p t hp (hall j (lt_of_some hp)) hd
    · rw [slotsBy_none fun j hj hd => hex ⟨j, by
        cases hp : ops[j]? with
        | none => rw [hp] at hd; cases hd
        | some p => rw [hp] at hd; exact ⟨p, rfl, hd⟩⟩]
      exact h.rest t fun j p hp _ hd => hex ⟨j, p, hp, hd⟩
  intro fuel
  induction fuel with
  | zero =>
    intro listed c w hc h hp
    have h0 : Region.ready .any ops listed = [] := by
      cases hr : Region.ready .any ops listed with
      | nil => rfl
      | cons i l =>
        have hi : i ∈ Region.ready .any ops listed := by rw [hr]; exact List.mem_cons_self
        obtain ⟨hun, o, ho, _⟩ := mem_ready.1 hi
        have hil : i < listed.size := by rw [h.size]; exact lt_of_some ho
        have := count_set hil hun
        omega
    exact ⟨h0, hend _ _ _ h hp h0⟩
  | succ fuel ih =>
    intro listed c w hc h hp
    refine ⟨hend _ _ _ h hp, fun i hi => ?_⟩
    obtain ⟨hun, o, ho, _⟩ := mem_ready.1 hi
    have hil : i < listed.size := by rw [h.size]; exact lt_of_some ho
    have hcnt := count_set hil hun
    unfold wpOp
    rw [ho]
    simp only []
    rcases servC (hS i o ho) with ⟨hni, hs⟩ | ⟨q, hq, hs⟩
    · have hex : ∃ q, S.ph q w := by obtain ⟨q, _, _, _, h3⟩ := hp; exact ⟨q, h3⟩
      rcases hs c w hex (h.looks hF ho hi) with ⟨h1, h2⟩ | ⟨h1, h2⟩
      · rw [h1]
        exact ih _ _ _ (by omega) (h.step hF hn hk ho hi (S.refl w) h2) (hp.other hni (Turns.refl w))
      · rw [h1]
        exact .inl (h2 _ _ fun x w' hb hr => ih _ _ _ (by omega) (h.step hF hn hk ho hi (S.grow hb) hr) (hp.other hni hb))
    · obtain ⟨h1, h2⟩ := hs c w (hp.here hC hq hi).2.2 (h.looks hF ho hi)
      rw [h1]
      exact .inl (h2 _ _ fun x w' hb hp' hr => ih _ _ _ (by omega) (h.step hF hn hk ho hi hb hr) (hp.next hC hq hi hil hp'))

theorem wpAny_ledC (hC : chainB ops ch = true) (hF : Formed ops n) (hn : a.tmps.size = n) (hk : ∀ k, (r k).keeps S.K) (hsz : ops.size = m + 1) (hl : ∀ j, j < m → ∃ k p, j < k ∧ ops[k]? = some p ∧ ∃ e ∈ p.after, Region.binds .any e = true ∧ e.on = j)
    (hS : ∀ i o, i < m → ops[i]? = some o → SvC S ch P ops i o (slotsBy ops r (fun t x _ => x = a.eval (.tmp t)) i) (r i)) {Q : Exit → Act → World → Prop}
    (hQ : ∀ c w, S.K S.w0 w → S.ph ch.length w → c.tmps.size = a.tmps.size → c.defers = a.defers → (∀ t, slotsBy ops r (fun t x _ => x = a.eval (.tmp t)) m t (c.eval (.tmp t)) w) → wpOp P ops Q m (Q .normal) c w) (hch : ∀ j ∈ ch, j < m) :
    ∀ (fuel : Nat) (listed : Array Bool) (c : Act) (w : World), listed.toList.count false ≤ fuel → Along S.K ops r S.w0 a listed c w → Phase S ch listed w → listed.getD m true = false → wpAny P .any ops Q fuel listed c w := by
  haveI := turnsK S
  have hnot : ∀ (listed : Array Bool) (c : Act) (w : World), Along S.K ops r S.w0 a listed c w → listed.getD m true = false → Region.ready .any ops listed ≠ [] := fun listed c w h hm h0 => by
    have := all_listed hF h.size h0 m (by omega)
    exact getD_clash this hm
  intro fuel
  induction fuel with
  | zero =>
    intro listed c w hc h hp hm
    exfalso
    have hml : m < listed.size := by rw [h.size]; omega
    have := count_set hml hm
    omega
  | succ fuel ih =>
    intro listed c w hc h hp hm
    refine ⟨fun h0 => absurd h0 (hnot _ _ _ h hm), fun i hi => ?_⟩
    obtain ⟨hun, o, ho, _⟩ := mem_ready.1 hi
    have hil : i < listed.size := by rw [h.size]; exact lt_of_some ho
    have hcnt := count_set hil hun
    by_cases him : i = m
    · subst him
      have hall := led_all hsz hl h hi
      have hph : S.ph ch.length w := by
        obtain ⟨q, hq, h1, h2, h3⟩ := hp
        have e : q = ch.length := by
          rcases Nat.lt_or_ge q ch.length with hlt | hge
          · exfalso
            have hm : ch.getD q 0 ∈ ch := by rw [List.getD_eq_getElem?_getD, List.getElem?_eq_getElem hlt]; exact List.getElem_mem hlt
            have hlt2 := hch _ hm
            exact getD_clash (hall (i - 1 - ch.getD q 0) _ (by omega)) (h2 q (Nat.le_refl _) hlt)
          · omega
        exact e ▸ h3
      have hfit : ∀ t, slotsBy ops r (fun t x _ => x = a.eval (.tmp t)) i t (c.eval (.tmp t)) w := fun t => by
        by_cases hex : ∃ (j : Nat) (p : Oper), j < i ∧ ops[j]? = some p ∧ p.dst = some t
        · obtain ⟨j, p, hji, hp, hd⟩ := hex
          rw [slotsBy_of hF hji hp hd]
          exact h.done j p t hp (hall (i - 1 - j) j (by omega)) hd
        · rw [slotsBy_none fun j hj hd => hex ⟨j, by
            cases hp : ops[j]? with
            | none => rw [hp] at hd; cases hd
            | some p => rw [hp] at hd; exact ⟨p, hj, rfl, hd⟩⟩]
          refine h.rest t fun j p hp hj hd => hex ⟨j, p, ?_, hp, hd⟩
          have hjs := lt_of_some hp
          have hne : j ≠ i := fun e => by
            subst e
            exact getD_clash hj hun
          omega
      refine wpOp_mono (fun c' w' hq => ?_) (hQ c w h.below hph h.frame h.defers hfit)
      have hempty : Region.ready .any ops (listed.setIfInBounds i true) = [] := by
        cases hr : Region.ready .any ops (listed.setIfInBounds i true) with
        | nil => rfl
        | cons k l =>
          exfalso
          have hk' : k ∈ Region.ready .any ops (listed.setIfInBounds i true) := by rw [hr]; exact List.mem_cons_self
          obtain ⟨hku, p, hp, _⟩ := mem_ready.1 hk'
          have hks := lt_of_some hp
          have hkl : (listed.setIfInBounds i true).getD k false = true := by
            by_cases hki : k = i
            · subst hki; exact getD_set_self hil
            · exact getD_set_true (hall (i - 1 - k) k (by omega))
          exact getD_clash hkl hku
      cases fuel with
      | zero => exact ⟨hempty, hq⟩
      | succ fuel => exact ⟨fun _ => hq, fun k hk => by rw [hempty] at hk; cases hk⟩
    · have hlt : i < m := by have := lt_of_some ho; omega
      have hm' : (listed.setIfInBounds i true).getD m true = false := by rw [getD_set_ne true him]; exact hm
      unfold wpOp
      rw [ho]
      simp only []
      rcases servC (hS i o hlt ho) with ⟨hni, hs⟩ | ⟨q, hq, hs⟩
      · have hex : ∃ q, S.ph q w := by obtain ⟨q, _, _, _, h3⟩ := hp; exact ⟨q, h3⟩
        rcases hs c w hex (h.looks hF ho hi) with ⟨h1, h2⟩ | ⟨h1, h2⟩
        · rw [h1]
          exact ih _ _ _ (by omega) (h.step hF hn hk ho hi (S.refl w) h2) (hp.other hni (Turns.refl w)) hm'
        · rw [h1]
          exact .inl (h2 _ _ fun x w' hb hr => ih _ _ _ (by omega) (h.step hF hn hk ho hi (S.grow hb) hr) (hp.other hni hb) hm')
      · obtain ⟨h1, h2⟩ := hs c w (hp.here hC hq hi).2.2 (h.looks hF ho hi)
        rw [h1]
        exact .inl (h2 _ _ fun x w' hb hp' hr => ih _ _ _ (by omega) (h.step hF hn hk ho hi hb hr) (hp.next hC hq hi hil hp') hm')
end

/-- The walk at a frame, at an operation's place. -/
def lexAtC (S : Phases) (ch : List Nat) (P : Program) (ops : Array Oper) (n : Nat) (ds : List Deferred) (F : Act → World → Prop) (k : Nat) (l : List Oper) (H : List (Tmp × Held)) (a : Act) : Prop :=
  wpLexS (SvC S ch P ops) (fun r => r.keeps S.K) (fun s => ∀ c w', S.K S.w0 w' → S.ph ch.length w' → c.tmps.size = n → c.defers = ds → (∀ t, s t (c.eval (.tmp t)) w') → F c w') k l (fits H a)

section
variable {P : Program} {id : Nat} {Q : Exit → Act → World → Prop} {a : Act} {w : World} {l : List Oper}
/-- A region with a row. -/
theorem wp_region_C (S : Phases) (ch : List Nat) (hw : S.w0 = w) (hm : P.follows .mixedOrders = true) (hB : formedB l.toArray a.tmps.size = true) (hC : chainB l.toArray ch = true) (hch : ch.all (fun j => decide (j < l.length)) = true)
    (h : lexAtC S ch P l.toArray a.tmps.size a.defers (Q .normal) 0 l [] a) : (Code.region id l.toArray true).wp P Q a w := by
  subst hw
  obtain ⟨r, h1, h2, h3⟩ := wpLexS_get (ops := l.toArray) (Kp := fun r => r.keeps S.K) (fun _ _ _ _ _ => trivial) l 0 (fun _ _ _ => True) (fun t x _ => x = a.eval (.tmp t)) (fun j _ => by simp) (fun j hj => by omega) (fun j _ hj => by omega) h
  refine wp_region_any hm ?_
  have hF := formed_of hB
  have hch' : ∀ j ∈ ch, j < l.toArray.size := fun j hj => by simpa using List.all_eq_true.1 hch j hj
  refine wpAny_C hC hF rfl h1 (fun i o ho => h2 i o (by have := lt_of_some ho; simpa using this) ho) (fun c w' hb hp hs hd ht => h3 c w' hb hp hs hd (by simpa using ht)) hch' _ _ _ _ ?_ ⟨by simp, fun j p hp hj => ?_, fun j p t hp hj => ?_, fun _ _ => rfl, rfl, rfl, S.grow (Turns.drew (R := GrowR) S.w0)⟩
    ⟨0, Nat.zero_le _, fun i hi => by omega, fun i _ hi => ?_, S.stay S.start (Turns.drew (R := GrowR) S.w0)⟩
  · rw [Array.toList_replicate]; exact Nat.le_trans List.count_le_length (by simp)
  · rw [replicate_getD] at hj; cases hj
  · rw [replicate_getD] at hj; cases hj
  · have hm : ch.getD i 0 ∈ ch := by rw [List.getD_eq_getElem?_getD, List.getElem?_eq_getElem hi]; exact List.getElem_mem hi
    have := hch' _ hm
    rw [Array.getD_eq_getD_getElem?, Array.getElem?_replicate, if_pos (by simpa using this)]; rfl

/-- A region with a row, and a last operation that all others lead to. -/
theorem wp_region_ledC (S : Phases) (ch : List Nat) {oL : Oper} (hw : S.w0 = w) (hm : P.follows .mixedOrders = true) (hB : formedB l.toArray a.tmps.size = true) (hL : l.getLast? = some oL) (hD : ledB l.toArray (l.length - 1) = true) (hC : chainB l.toArray ch = true) (hch : ch.all (fun j => decide (j < l.length - 1)) = true)
    (h : lexAtC S ch P l.toArray a.tmps.size a.defers (fun c w' => wpList P l.toArray Q [oL] c w') 0 l.dropLast [] a) : (Code.region id l.toArray true).wp P Q a w := by
  subst hw
  have hF := formed_of hB
  obtain ⟨hsz, hl⟩ := led_of hD
  have hlen : l.length = (l.length - 1) + 1 := by simpa using hsz
  obtain ⟨r, h1, h2, h3⟩ := wpLexS_get (ops := l.toArray) (Kp := fun r => r.keeps S.K) (fun _ _ _ _ _ => trivial) l.dropLast 0 (fun _ _ _ => True) (fun t x _ => x = a.eval (.tmp t)) (fun j hj => by
    rw [List.length_dropLast] at hj
    rw [List.getElem?_dropLast, Nat.zero_add]; simp [hj]) (fun j hj => by omega) (fun j _ hj => by omega) h
  rw [List.length_dropLast, Nat.zero_add] at h2 h3
  refine wp_region_any hm ?_
  have hlast : l.toArray[l.length - 1]? = some oL := by rw [← hL, List.getLast?_eq_getElem?]; simp
  have hch' : ∀ j ∈ ch, j < l.length - 1 := fun j hj => by simpa using List.all_eq_true.1 hch j hj
  refine wpAny_ledC hC hF rfl h1 hsz hl h2 (fun c w' hb hp hs hd ht => ?_) hch' _ _ _ _ ?_ ⟨by simp, fun j p hp hj => ?_, fun j p t hp hj => ?_, fun _ _ => rfl, rfl, rfl, S.grow (Turns.drew (R := GrowR) S.w0)⟩
    ⟨0, Nat.zero_le _, fun i hi => by omega, fun i _ hi => ?_, S.stay S.start (Turns.drew (R := GrowR) S.w0)⟩ ?_
  · have := h3 c w' hb hp hs hd ht
    unfold wpOp
    rw [hlast]
    exact this
  · rw [Array.toList_replicate]; exact Nat.le_trans List.count_le_length (by simp)
  · rw [replicate_getD] at hj; cases hj
  · rw [replicate_getD] at hj; cases hj
  · have hm : ch.getD i 0 ∈ ch := by rw [List.getD_eq_getElem?_getD, List.getElem?_eq_getElem hi]; exact List.getElem_mem hi
    have := hch' _ hm
    rw [Array.getD_eq_getD_getElem?, Array.getElem?_replicate, if_pos (by rw [List.size_toArray]; omega)]; rfl
  · rw [Array.getD_eq_getD_getElem?, Array.getElem?_replicate, if_pos (by rw [List.size_toArray]; omega)]; rfl
end

section
variable {S : Phases} {ch : List Nat} {P : Program} {ops : Array Oper} {n k : Nat} {ds : List Deferred} {F : Act → World → Prop} {rest : List Oper} {H : List (Tmp × Held)} {a : Act} {o : Oper}
theorem lexc_nil (h1 : a.tmps.size = n) (h2 : a.defers = ds) (h0 : apartB H = true) (h : ∀ w', S.K S.w0 w' → S.ph ch.length w' → hideAll H a w' (fun c => F c w')) : lexAtC S ch P ops n ds F k [] H a := by
  intro c w' hb hp hs hd ht
  exact hideAll_use H a w' _ h0 (h w' hb hp) c (hs.trans h1.symm) (hd.trans h2.symm) ht
theorem fits_hide {d : Tmp} {r : Held} (hd : o.dst = some d) : (fun t => if o.dst = some t then r else fits H a t) = fits ((d, r) :: H) a := by
  funext t
  rw [hd]
  unfold fits
  rw [show heldBy ((d, r) :: H) t = if d = t then some r else heldBy H t from rfl]
  by_cases hdt : d = t
  · simp [hdt]
  · simp [hdt]
theorem svO {r : Held} {s : Tmp → Held} (hi : ch.contains k = false) (h : ServesO S P ops o s r) : SvC S ch P ops k o s r := by
  unfold SvC
  rw [if_neg (by rw [hi]; simp)]
  exact h
theorem svQ {q : Nat} {r : Held} {s : Tmp → Held} (hi : ch.contains k = true) (hq : ch.idxOf k = q) (h : ServesC S P ops q o s r) : SvC S ch P ops k o s r := by
  unfold SvC
  rw [if_pos hi, hq]
  exact h
theorem lexc_skip (hi : ch.contains k = false) (hw : Region.wanted o (yielded ops a.tmps) = false) (hl : looksFree ops H o = true) (hd : writesFree H a o.dst = true) (h : lexAtC S ch P ops n ds F (k + 1) rest H (a.put o.dst undef)) : lexAtC S ch P ops n ds F k (o :: rest) H a := by
  refine ⟨fun x _ => x = undef, fun _ _ _ h _ => h, svO hi fun c w hb hs => .inl ⟨?_, rfl⟩, ?_⟩
  · rw [wanted_of_fits fun g b t hg ht => eval_of_fits hl hs t (guard_looks hg ht)]; exact hw
  · rw [fits_put hd]; exact h
theorem lexc_plain (hi : ch.contains k = false) (hw : Region.wanted o (yielded ops a.tmps) = true) (hp : plainOp o.op = true) (hl : looksFree ops H o = true) (hd : writesFree H a o.dst = true)
    (h : o.quiet P a (fun w' => ∃ x : PW S, w' = x.w) (fun a' => lexAtC S ch P ops n ds F (k + 1) rest H a')) : lexAtC S ch P ops n ds F k (o :: rest) H a := by
  obtain ⟨v, h1, h2⟩ := h
  refine ⟨fun x _ => x = v, fun _ _ _ h _ => h, svO hi fun c w hb hs => .inr ?_, by rw [fits_put hd]; exact h2⟩
  have he := eval_of_fits hl hs
  refine ⟨by rw [wanted_of_fits fun g b t hg ht => he t (guard_looks hg ht)]; exact hw, fun K Q' hK => ?_⟩
  have h3 := h1 w ⟨⟨w, hb⟩, rfl⟩
  have hne : ∀ w' f args, (execOp a.eval o).run P w ≠ .ok (.enter f args) w' := fun w' f args => plain_not_enter hp a.eval w w' f args
  unfold Oper.quietAt at h3
  unfold Oper.wp
  rw [exec_of_fits (fun cs b e => by rw [e] at hp; cases hp) he]
  generalize (execOp a.eval o).run P w = res at *
  cases res with
  | ok m w' =>
    cases m <;> simp only [Oper.quietUpon] at h3 <;> simp only [Oper.upon]
    case value u =>
      obtain ⟨rfl, rfl⟩ := h3
      exact hK _ _ (Turns.refl _) rfl
    case skip =>
      obtain ⟨rfl, rfl⟩ := h3
      exact hK _ _ (Turns.refl _) rfl
    case enter f args => exact absurd rfl (hne _ _ _)
  | halt x w' => simp only [Oper.quietUpon] at h3
theorem lexc_one (hi : ch.contains k = false) (hp : plainOp o.op = true) (hl : looksFree ops H o = true) (hd : writesFree H a o.dst = true)
    (h : ∀ K : Act → Prop, (∀ a', lexAtC S ch P ops n ds F (k + 1) rest H a' → K a') → wpQuiet P ops (fun w' => ∃ x : PW S, w' = x.w) K [o] a) : lexAtC S ch P ops n ds F k (o :: rest) H a := by
  have h' := h _ fun _ h => h
  unfold wpQuiet at h'
  by_cases hw : Region.wanted o (yielded ops a.tmps) = true
  · rw [if_pos hw] at h'; exact lexc_plain hi hw hp hl hd h'
  · rw [if_neg hw] at h'; exact lexc_skip hi (by simpa using hw) hl hd h'
theorem lexc_none (hi : ch.contains k = false) (hw : Region.wanted o (yielded ops a.tmps) = false) (hl : looksFree ops H o = true) (hd : writesFree H a o.dst = true)
    (h : ∀ K : Act → Prop, (∀ a', lexAtC S ch P ops n ds F (k + 1) rest H a' → K a') → wpQuiet P ops (fun w' => ∃ x : PW S, w' = x.w) K [o] a) : lexAtC S ch P ops n ds F k (o :: rest) H a := by
  have h' := h _ fun _ h => h
  unfold wpQuiet at h'
  rw [if_neg (by simp [hw])] at h'
  exact lexc_skip hi hw hl hd h'
/-- A value is laid into its slot: by the same step. -/
theorem lexc_put {dst : Option Tmp} {v : Value} {type : TypeId} {pos : String}
    (h : ∀ K : Act → Prop, (∀ a', lexAtC S ch P ops n ds F k rest H a' → K a') → wpQuiet P ops (fun w' => ∃ x : PW S, w' = x.w) K [⟨dst, .move (.const v), type, pos, #[], none⟩] a) : lexAtC S ch P ops n ds F k rest H (a.put dst v) := by
  have h' := h _ fun _ h => h
  unfold wpQuiet at h'
  rw [if_pos (by rfl)] at h'
  obtain ⟨u, h1, h2⟩ := h'
  have h3 := h1 S.w0 ⟨⟨S.w0, 0, S.start⟩, rfl⟩
  obtain rfl : u = v := by
    have : Oper.quietUpon P (fun w' => ∃ x : PW S, w' = x.w) S.w0 u (.ok (.value v) S.w0) := h3
    exact this.2.symm
  exact h2
theorem lexc_val {v : Value} (hi : ch.contains k = false) (hw : Region.wanted o (yielded ops a.tmps) = true) (hns : ∀ cs b, o.op ≠ .select cs b) (hl : looksFree ops H o = true) (hd : writesFree H a o.dst = true)
    (hr : ∀ w, (∃ q, S.ph q w) → (execOp a.eval o).run P w = .ok (.value v) w) (h : lexAtC S ch P ops n ds F (k + 1) rest H (a.put o.dst v)) : lexAtC S ch P ops n ds F k (o :: rest) H a := by
  refine ⟨fun x _ => x = v, fun _ _ _ h _ => h, svO hi fun c w hb hs => .inr ?_, by rw [fits_put hd]; exact h⟩
  have he := eval_of_fits hl hs
  refine ⟨by rw [wanted_of_fits fun g b t hg ht => he t (guard_looks hg ht)]; exact hw, fun K Q' hK => ?_⟩
  unfold Oper.wp
  rw [exec_of_fits hns he, hr w hb]
  exact hK _ _ (Turns.refl _) rfl
/-- An operation that makes memory: its slot is hidden. -/
theorem lexc_make {d : Tmp} {r : Held} (hi : ch.contains k = false) (hk : r.keeps S.K) (hw : Region.wanted o (yielded ops a.tmps) = true) (hns : ∀ cs b, o.op ≠ .select cs b) (hl : looksFree ops H o = true) (hd : o.dst = some d)
    (hr : ∀ w, (∃ q, S.ph q w) → ∃ x w', (execOp a.eval o).run P w = .ok (.value x) w' ∧ GrowR w w' ∧ r x w') (h : lexAtC S ch P ops n ds F (k + 1) rest ((d, r) :: H) a) : lexAtC S ch P ops n ds F k (o :: rest) H a := by
  refine ⟨r, hk, svO hi fun c w hb hs => .inr ?_, by rw [fits_hide hd]; exact h⟩
  have he := eval_of_fits hl hs
  refine ⟨by rw [wanted_of_fits fun g b t hg ht => he t (guard_looks hg ht)]; exact hw, fun K Q' hK => ?_⟩
  obtain ⟨x, w', h1, h2, h3⟩ := hr w hb
  unfold Oper.wp
  rw [exec_of_fits hns he, h1]
  exact hK _ _ h2 h3
/-- A call that makes memory alone. -/
theorem lexc_call {f : FuncId} {args : Array Value} {v : Value} (hi : ch.contains k = false) (hw : Region.wanted o (yielded ops a.tmps) = true) (hns : ∀ cs b, o.op ≠ .select cs b) (hl : looksFree ops H o = true) (hd : writesFree H a o.dst = true)
    (hr : ∀ w, (execOp a.eval o).run P w = .ok (.enter f args) w) (hc : ∀ w, (∃ q, S.ph q w) → Calls P f args w fun e w' => e = .returned v ∧ GrowR w w')
    (h : lexAtC S ch P ops n ds F (k + 1) rest H (a.put o.dst v)) : lexAtC S ch P ops n ds F k (o :: rest) H a := by
  refine ⟨fun x _ => x = v, fun _ _ _ h _ => h, svO hi fun c w hb hs => .inr ?_, by rw [fits_put hd]; exact h⟩
  have he := eval_of_fits hl hs
  refine ⟨by rw [wanted_of_fits fun g b t hg ht => he t (guard_looks hg ht)]; exact hw, fun K Q' hK => ?_⟩
  unfold Oper.wp
  rw [exec_of_fits hns he, hr]
  exact (hc w hb).mono fun e w' ⟨h1, h2⟩ => by subst h1; exact hK _ _ h2 rfl
/-- A call of the row. -/
theorem lexc_row (q : Nat) {f : FuncId} {args : Array Value} {v : Value} (hi : ch.contains k = true) (hq : ch.idxOf k = q) (hw : Region.wanted o (yielded ops a.tmps) = true) (hns : ∀ cs b, o.op ≠ .select cs b) (hl : looksFree ops H o = true) (hd : writesFree H a o.dst = true)
    (hr : ∀ w, (execOp a.eval o).run P w = .ok (.enter f args) w) (hc : ∀ w, S.ph q w → Calls P f args w fun e w' => e = .returned v ∧ S.K w w' ∧ S.ph (q + 1) w')
    (h : lexAtC S ch P ops n ds F (k + 1) rest H (a.put o.dst v)) : lexAtC S ch P ops n ds F k (o :: rest) H a := by
  refine ⟨fun x _ => x = v, fun _ _ _ h _ => h, svQ hi hq fun c w hb hs => ?_, by rw [fits_put hd]; exact h⟩
  have he := eval_of_fits hl hs
  refine ⟨by rw [wanted_of_fits fun g b t hg ht => he t (guard_looks hg ht)]; exact hw, fun K Q' hK => ?_⟩
  unfold Oper.wp
  rw [exec_of_fits hns he, hr]
  exact (hc w hb).mono fun e w' ⟨h1, h2, h3⟩ => by subst h1; exact hK _ _ h2 h3 rfl
/-- Any operation of the row, by a proof of its own; its slot is hidden. -/
theorem lexc_rowh (q : Nat) {d : Tmp} {r : Held} (hi : ch.contains k = true) (hq : ch.idxOf k = q) (hk : r.keeps S.K) (hs : ServesC S P ops q o (fits H a) r) (hd : o.dst = some d) (h : lexAtC S ch P ops n ds F (k + 1) rest ((d, r) :: H) a) : lexAtC S ch P ops n ds F k (o :: rest) H a :=
  ⟨r, hk, svQ hi hq hs, by rw [fits_hide hd]; exact h⟩
end
end Go.Proofs.YtpeahjocimhneaaGreatDoor
namespace Go.Proofs.YtpeahjocimhneaaGreatDoor
open Go.RowKit

/-- A row that is full, and its cells. -/
def FullRow (k : Nat) (olds : List Value) : Held := fun x W => ∃ p, x = .slice (some ⟨p, 0, none⟩) k k ∧ ∀ j u, olds[j]? = some u → W.cell? ((⟨p, 0, none⟩ : Addr).add j) = some u
theorem FullRow_keeps {k : Nat} {olds : List Value} : (FullRow k olds).keeps GrowR := fun _ _ _ ⟨p, h1, h2⟩ hR => ⟨p, h1, fun j u hu => (Below.cell hR (World.block_lt_of_cell? _ _ (h2 j u hu))).trans (h2 j u hu)⟩
/-- A row, and its cells. -/
def RowHeld (k : Nat) (vals : List Value) : Held := fun x W => ∃ p c, x = .slice (some ⟨p, 0, none⟩) k c ∧ ∀ j u, vals[j]? = some u → W.cell? ((⟨p, 0, none⟩ : Addr).add j) = some u
theorem RowHeld_keeps {k : Nat} {olds : List Value} : (RowHeld k olds).keeps GrowR := fun _ _ _ ⟨p, c, h1, h2⟩ hR => ⟨p, c, h1, fun j u hu => (Below.cell hR (World.block_lt_of_cell? _ _ (h2 j u hu))).trans (h2 j u hu)⟩
theorem add_at (p j : Nat) : (⟨p, 0, none⟩ : Addr).add j = ⟨p, j, none⟩ := by unfold Addr.add; split <;> simp_all

section
variable {P : Program} {ops : Array Oper} {w0 : World} {n : Nat} {ds : List Deferred} {F : Act → World → Prop} {rest : List Oper} {H : List (Tmp × Held)} {a : Act} {o : Oper}
theorem lex_full (d k : Nat) (news : List Value)
    (hw : Region.wanted o (yielded ops a.tmps) = true) (hns : ∀ cs b, o.op ≠ .select cs b) (hl : looksFree ops H o = true) (hd : o.dst = some d) (E : TypeId)
    (hr : ∀ w, (execOp a.eval o).run P w = .ok (.value (.slice (some ⟨w.heap.size, 0, none⟩) k k)) (w.alloc (.cells news.toArray E)))
    (h : lexAt GrowR P ops w0 n ds F rest ((d, FullRow k news) :: H) a) : lexAt GrowR P ops w0 n ds F (o :: rest) H a := by
  refine lex_make FullRow_keeps hw hns hl hd (fun w hW => ⟨_, _, hr w, (Below.refl _ w).alloc (Nat.le_refl _) _, w.heap.size, rfl, fun j u hu => ?_⟩) h
  rw [add_at, World.cell?_alloc_new]
  simpa using hu
theorem lex_appfull {s x d : Tmp} {t e : TypeId} {i : TypeInfo} {z : Value} {size bytes k m c : Nat} {ba : Option Addr} {olds news : List Value} (hgd : o.guard = none) (ho : o.op = .call { callee := .builtin .append, args := #[.tmp s, .tmp x], argTypes := #[t, t] }) (hd : o.dst = some d)
    (ht : P.underlying t = some (.slice e)) (hi : P.info? e = some i) (hz : i.zero = some z) (hsize : i.size = size) (hby : i.bytes = bytes) (_hzs : z.cells.size = size)
    (hsn : heldBy H s = some (FullRow k olds)) (hxn : heldBy H x = none) (hx : a.eval (.tmp x) = .slice ba m c) (h0 : ba = none → m = 0 ∧ c = 0) (hol : olds.length = k * size) (hl : news.length = m * size)
    (hnews : ∀ a', ba = some a' → ∀ j u, news[j]? = some u → w0.cell? (a'.add j) = some u) (h63 : k + m ≤ maxLen) (hbytes : (k + m) * bytes ≤ 140737488355328)
    (h : lexAt GrowR P ops w0 n ds F rest ((d, RowHeld (k + m) (olds ++ news)) :: H) a) : lexAt GrowR P ops w0 n ds F (o :: rest) H a := by
  refine lex_any RowHeld_keeps (fun cc w hR hf => .inr ⟨?_, fun K Q' hK => ?_⟩) hd h
  · unfold Region.wanted
    rw [hgd]
  · have hes := hf s (by simp [Oper.looksAt, ho, hgd, Op.operands, Call.operands])
    have hex := hf x (by simp [Oper.looksAt, ho, hgd, Op.operands, Call.operands])
    unfold fits at hes hex
    rw [hsn] at hes
    rw [hxn] at hex
    obtain ⟨p, hes, hc⟩ := hes
    simp only at hex
    rw [hx] at hex
    have hrun : ∃ v' w', (Builtin.append_ #[t, t] o.type #[.slice (some ⟨p, 0, none⟩) k k, .slice ba m c]).run P w = .ok v' w' ∧ GrowR w w' ∧ RowHeld (k + m) (olds ++ news) v' w' := by
      by_cases hm : m = 0
      · subst hm
        obtain rfl : news = [] := List.length_eq_zero_iff.1 (by simpa using hl)
        have hs : Src P i.size t (.slice ba 0 c) 0 [] w := by
          cases ba with
          | none => exact Src.ofNil w ht c
          | some a' => exact Src.ofSlice w ht a' 0 c [] (by simp) (fun j u hu => by simp at hu) (fun u hu => by cases hu)
        refine ⟨_, w, run_append_nothing w t t o.type e i ht hi (some ⟨p, 0, none⟩) k k (Nat.le_refl _) _ hs, Below.refl _ _, p, k, rfl, fun j u hu => hc j u (by simpa using hu)⟩
      · cases ba with
        | none => exact absurd (h0 rfl).1 hm
        | some a' =>
          have hn : ∀ j u, news[j]? = some u → w.cell? (a'.add j) = some u := fun j u hu => (Below.cell hR (World.block_lt_of_cell? _ _ (hnews a' rfl j u hu))).trans (hnews a' rfl j u hu)
          have hfit : Builtin.nextslicecap (k + m) k * i.bytes ≤ 281474976710656 := by
            have h1 := Nat.mul_le_mul_right i.bytes (nextslicecap_le (show k < k + m by omega))
            rw [hby] at h1 ⊢
            rw [Nat.mul_assoc] at h1
            omega
          have hr := run_append_grow (P := P) (w := w) t o.type e i z ht hi hz ⟨p, 0, none⟩ k k olds (by rw [hsize]; exact hol) hc a' m c news (by rw [hsize]; exact hl) hn (by omega) (by unfold maxLen at h63; omega) hfit
          refine ⟨_, _, hr, ((Below.refl w.heap.size w).drew).alloc (Nat.le_refl _) _, w.heap.size, _, rfl, fun j u hu => ?_⟩
          rw [add_at]
          have hj : j < (olds ++ news).length := (List.getElem?_eq_some_iff.1 hu).1
          rw [show w.heap.size = w.drew.heap.size from rfl, World.cell?_alloc_new]
          rw [Array.getElem?_append_left (by simpa using hj)]
          simpa using hu
    obtain ⟨v', w', hr, h2, h3⟩ := hrun
    unfold Oper.wp execOp
    simp only [ho, resolve, invoke, builtin, Sem.run_bind, Sem.run_pure, Result.andThen_ok, List.map_toArray, List.map_cons, List.map_nil, hes, hex, hr]
    exact hK _ _ h2 h3
end
end Go.Proofs.YtpeahjocimhneaaGreatDoor
namespace Go.Proofs.YtpeahjocimhneaaGreatDoor
open Go.RowKit Go.Maps Go.WideMaps
attribute [local go_sem] bs_toList bs_size

/-- A slice of numbers. -/
def IntsAt (w : World) (v : Value) (L : List Int) : Prop :=
  ∃ a c, v = .slice a L.length c ∧ (a = none → c = 0) ∧ L.length ≤ 100000 ∧ (∀ x ∈ L, -9223372036854775808 ≤ x ∧ x ≤ 9223372036854775807) ∧ ∀ (i : Nat) x, L[i]? = some x → ∃ b o, a = some ⟨b, o, none⟩ ∧ w.cell? ⟨b, o + i, none⟩ = some (.int .i64 x)
theorem IntsAt.below {w w' : World} {v : Value} {L : List Int} (h : IntsAt w v L) (hb : Below w.heap.size w w') : IntsAt w' v L := by
  obtain ⟨a, c, h1, h2, h3, h4, h5⟩ := h
  refine ⟨a, c, h1, h2, h3, h4, fun i x hx => ?_⟩
  obtain ⟨b, o, h6, h7⟩ := h5 i x hx
  exact ⟨b, o, h6, (Below.cell hb (World.block_lt_of_cell? _ _ h7)).trans h7⟩
theorem cells4 {W : World} {b : Nat} {T : TypeId} {u0 u1 u2 u3 : Value} (h : Blk W b T #[u0, u1, u2, u3]) :
    (W.cell? ⟨b, 0, none⟩ = some u0 ∧ W.cell? ⟨b, 1, none⟩ = some u1 ∧ W.cell? ⟨b, 2, none⟩ = some u2 ∧ W.cell? ⟨b, 3, none⟩ = some u3) ∧ W.frozen? ⟨b, 0, none⟩ = false ∧ W.frozen? ⟨b, 1, none⟩ = false ∧ W.frozen? ⟨b, 2, none⟩ = false ∧ W.frozen? ⟨b, 3, none⟩ = false :=
  ⟨⟨(Blk.cell h 0).trans rfl, (Blk.cell h 1).trans rfl, (Blk.cell h 2).trans rfl, (Blk.cell h 3).trans rfl⟩, Blk.frozen h 0, Blk.frozen h 1, Blk.frozen h 2, Blk.frozen h 3⟩
theorem kept_putRow {α : Type} [Inhabited α] (enc : α → Value) (w : World) (q g : Nat) (d : Array α) : Kept w (Go.Sort.putRow enc (Go.Sort.ahead w q) g 0 d) (fun k => k = g) :=
  ⟨rfl, rfl, rfl, by simp [Go.Sort.ahead], fun i _ hi => by simp [Go.Sort.putRow, Go.Sort.mapBlock, Go.Sort.ahead, Array.getElem?_modify, show g ≠ i from fun e => hi e.symm]⟩
theorem kept_grow (w : World) (os : Array Obj) (S : Nat → Prop) : Kept w (Go.Sort.grow w os) S :=
  ⟨rfl, rfl, rfl, by simp [Go.Sort.grow], fun i hi _ => by simp [Go.Sort.grow, Array.getElem?_append, hi]⟩
/-- An append of a slice, nil or not. -/
theorem wpList_append_any {P : Program} {w : World} {ops : Array Oper} {rest : List Oper} {o : Oper} {a : Act} {Q : Exit → Act → World → Prop} (hgd : o.guard = none) (s x : Operand) (t : TypeId)
    (ho : o.op = .call { callee := .builtin .append, args := #[s, x], argTypes := #[t, t] })
    (base : Nat) (e : TypeId) (i : TypeInfo) (z : Value) (size bytes : Nat) (ht : P.underlying t = some (.slice e)) (hi : P.info? e = some i) (hz : i.zero = some z)
    (hsize : i.size = size) (hby : i.bytes = bytes) (hzs : z.cells.size = size) (hsz : 0 < size)
    (v : Value) (n : Nat) (xs : List Value) (hs : a.eval s = v) (hown : w.ownsRow base e size v n xs)
    (ad : Option Addr) (m c : Nat) (news : List Value) (hx : a.eval x = .slice ad m c) (h0 : ad = none → m = 0 ∧ c = 0) (hl : news.length = m * size) (hnews : ∀ a', ad = some a' → ∀ j u, news[j]? = some u → w.cell? (a'.add j) = some u) (h1 : ∀ u ∈ news, u.oneCell' = true)
    (h63 : n + m ≤ maxLen) (hbytes : (n + m) * bytes ≤ 140737488355328) (hbase : base ≤ w.heap.size)
    (h : ∀ v' w', w'.ownsRow base e size v' (n + m) (xs ++ news) → w.grownBy w' v.ownBlock → (v'.ownBlock = v.ownBlock ∨ v'.ownBlock = some w.heap.size) → wpList P ops Q rest (a.put o.dst v') w') : wpList P ops Q (o :: rest) a w := by
  cases ad with
  | none =>
    obtain ⟨rfl, rfl⟩ := h0 rfl
    obtain rfl : news = [] := List.length_eq_zero_iff.1 (by simpa using hl)
    exact wpList_append_own_none hgd s x t ho base e i size ht hi v n xs hs hown hx (h v w (by simpa using hown) ⟨rfl, rfl, rfl, Nat.le_refl _, fun _ _ _ => rfl⟩ (.inl rfl))
  | some a' =>
    exact wpList_append_own_at w hgd s x t ho base e i z size bytes ht hi hz hsize hby hzs hsz v n xs hs hown a' m c news hx hl (hnews a' rfl) h1 h63 hbytes hbase fun v' w' h2 h3 _ h5 => h v' w' h2 h3 h5
theorem ints_cells {w : World} {L : List Int} {a : Option Addr} (hc : ∀ (i : Nat) x, L[i]? = some x → ∃ b o, a = some ⟨b, o, none⟩ ∧ w.cell? ⟨b, o + i, none⟩ = some (.int .i64 x)) : ∀ a', a = some a' → ∀ j u, (L.map (Value.int .i64))[j]? = some u → w.cell? (a'.add j) = some u := by
  rintro a' rfl j u hj
  rw [List.getElem?_map] at hj
  cases hx : L[j]? with
  | none => rw [hx] at hj; cases hj
  | some x =>
    rw [hx] at hj
    obtain rfl := Option.some.inj hj
    obtain ⟨b, o, e, h⟩ := hc j x hx
    obtain rfl := Option.some.inj e
    have : (⟨b, o, none⟩ : Addr).add j = ⟨b, o + j, none⟩ := by unfold Addr.add; split <;> simp_all
    rw [this]
    exact h
theorem ints_one (L : List Int) : ∀ u ∈ L.map (Value.int .i64), u.oneCell' = true := fun u hu => by
  obtain ⟨x, _, rfl⟩ := List.mem_map.1 hu
  rfl
theorem ints_of_row {w : World} {x : Value} {L : List Int} (h : RowHeld L.length (L.map (Value.int .i64)) x w) (hl : L.length ≤ 100000) (hb : ∀ y ∈ L, -9223372036854775808 ≤ y ∧ y ≤ 9223372036854775807) : IntsAt w x L := by
  obtain ⟨p, c, rfl, hc⟩ := h
  refine ⟨_, c, rfl, (fun e => by cases e), hl, hb, fun i y hy => ⟨p, 0, rfl, ?_⟩⟩
  have := hc i (.int .i64 y) (by rw [List.getElem?_map, hy]; rfl)
  rw [add_at] at this
  rw [Nat.zero_add]
  exact this
theorem ints_lit {w : World} (L : List Int) (hl : L.length ≤ 100000) (hb : ∀ y ∈ L, -9223372036854775808 ≤ y ∧ y ≤ 9223372036854775807) : IntsAt (w.alloc (.cells (L.map (Value.int .i64)).toArray 3)) (.slice (some ⟨w.heap.size, 0, none⟩) L.length L.length) L := by
  refine ⟨_, L.length, rfl, (fun e => by cases e), hl, hb, fun i y hy => ⟨w.heap.size, 0, rfl, ?_⟩⟩
  rw [Nat.zero_add, World.cell?_alloc_new]
  simp [hy]
theorem results_ct {P : Program} {fn : Func} {p u : Tmp} {ty : TypeId} (h : fn.results = #[.cell p ty, .tmp u]) (tmps : Array Value) (w : World) (g : Nat) (tb : TypeId) (cs : Array Value) (d : TypeDesc)
    (hp : tmps.getD p undef = .pointer (some ⟨g, 0, none⟩)) (hg : Blk w g tb cs)
    (hu : P.underlying ty = some d) (hd : (match d with | .struct _ | .array _ _ => true | _ => false) = true) (hi : (P.info? ty).map (·.size) = some cs.size) :
    (results fn tmps).run P w = .ok (.tuple #[.agg cs, tmps.getD u undef]) w := by
  have hp' : tmps[p]?.getD undef = .pointer (some ⟨g, 0, none⟩) := by simpa using hp
  simp [results, h, hp', asAddr, run_loadVar_row w g tb ty cs (0, 0) d hg hu hd hi]
theorem set4 {W : World} {b : Nat} {T : TypeId} {u0 u1 u2 u3 : Value} (h : Blk W b T #[u0, u1, u2, u3]) (v0 v1 v2 v3 : Value) :
    Blk ((((W.setCell ⟨b, 0, none⟩ v0).setCell ⟨b, 1, none⟩ v1).setCell ⟨b, 2, none⟩ v2).setCell ⟨b, 3, none⟩ v3) b T #[v0, v1, v2, v3] ∧
      Kept W ((((W.setCell ⟨b, 0, none⟩ v0).setCell ⟨b, 1, none⟩ v1).setCell ⟨b, 2, none⟩ v2).setCell ⟨b, 3, none⟩ v3) (fun k => k = b) :=
  ⟨Blk.set_ (Blk.set_ (Blk.set_ (Blk.set_ h 0 v0) 1 v1) 2 v2) 3 v3, Kept.of_grown (grown_trans' (grown_trans' (grown_trans' (grown_set _ _ _ _) (grown_set _ _ _ _)) (grown_set _ _ _ _)) (grown_set _ _ _ _)) fun _ e => (Option.some.inj e).symm⟩
theorem row_form {w : World} {B : Nat} {e : TypeId} {size c : Nat} {v : Value} {xs : List Value} (h : w.ownsRow B e size v c xs) : ∃ a cap, v = .slice a c cap := by
  rcases h.2 with ⟨e, e0⟩ | ⟨g, cap, cur, e, _⟩
  · exact ⟨none, 0, by rw [e, e0]⟩
  · exact ⟨_, _, e⟩
theorem ints_of_own {w : World} {B n : Nat} {v : Value} {A : List Int} (h : w.ownsRow B 3 1 v n (A.map (Value.int .i64))) (hn : A.length = n) (hl : A.length ≤ 100000) (hb : ∀ x ∈ A, -9223372036854775808 ≤ x ∧ x ≤ 9223372036854775807) : IntsAt w v A := by
  subst hn
  rcases h.2 with ⟨e, e0⟩ | ⟨g, cap, cur, e, _⟩
  · refine ⟨none, 0, by rw [e, e0], fun _ => rfl, hl, hb, fun i x hx => ?_⟩
    rw [List.length_eq_zero_iff.1 e0] at hx
    simp at hx
  · refine ⟨some ⟨g, 0, none⟩, cap, e, (fun e => by cases e), hl, hb, fun i x hx => ⟨g, 0, rfl, ?_⟩⟩
    have h1 := h.cells (g := g) (by rw [e]; rfl) i (.int .i64 x) (by rw [List.getElem?_map, hx]; rfl)
    rw [add_at] at h1
    rw [Nat.zero_add]
    exact h1
theorem ints_kept {w w' : World} {v : Value} {L : List Int} {b : Nat} (h : IntsAt w v L) (hk : Kept w w' (fun k => k = b)) (hne : v.ownBlock ≠ some b) : IntsAt w' v L := by
  obtain ⟨a, c, rfl, h1, h2, h3, h4⟩ := h
  refine ⟨a, c, rfl, h1, h2, h3, fun i x hx => ?_⟩
  obtain ⟨k, o, rfl, hc⟩ := h4 i x hx
  refine ⟨k, o, rfl, ?_⟩
  exact (World.cell?_of_block (hk.block k (World.block_lt_of_cell? _ _ hc) (fun e => hne (by rw [e]; rfl)))).trans hc
theorem ints_nil (w : World) : IntsAt w (.slice none 0 0) [] := ⟨none, 0, rfl, fun _ => rfl, by simp, (fun x hx => by cases hx), fun i x hx => by simp at hx⟩
theorem results_c1 {P : Program} {fn : Func} {p : Tmp} {ty : TypeId} (h : fn.results = #[.cell p ty]) (tmps : Array Value) (w : World) (g : Nat) (tb : TypeId) (cs : Array Value) (d : TypeDesc)
    (hp : tmps.getD p undef = .pointer (some ⟨g, 0, none⟩)) (hg : Blk w g tb cs)
    (hu : P.underlying ty = some d) (hd : (match d with | .struct _ | .array _ _ => true | _ => false) = true) (hi : (P.info? ty).map (·.size) = some cs.size) :
    (results fn tmps).run P w = .ok (.agg cs) w := by
  have hp' : tmps[p]?.getD undef = .pointer (some ⟨g, 0, none⟩) := by simpa using hp
  simp [results, h, hp', asAddr, run_loadVar_row w g tb ty cs (0, 0) d hg hu hd hi]
end Go.Proofs.YtpeahjocimhneaaGreatDoor
