/- What a series is called: what bytes may be. What a series is called: whether all bytes may be. strings.Builder's copyCheck and WriteString: turned from the kit's shelf texts to this program. What a series is called: labels in memory; how long; whether they may be. What a series is called: its key. A region that draws its order, with an append onto a row of the call's own in its middle. All blocks but some are as they were; a world turns, and with it what is held; what kind of block it is. Over any program. What a series is called: the labels that a key tells. Changes: whether one may be. What a segment begins with. Keys, and where they are: a key is added. Keys, and where they are: those of a writer; a series is put. Keys, and where they are: the series that bytes begin with. -/
import Derived.Test.YtipdeiiipdnacaaGreatGK
import Derived.Laws.Tables
import Derived.Laws.CopyOwn
import Derived.Test.YtipdeiiipdnacaaGreatChecked
import Derived.Test.YtipdeiiipdnacaaGreatGA
import Derived.Lib.Builder
import Derived.Lib.FrozenHead
import Derived.Laws.Externs
import Derived.WalkMore
import Derived.Test.YtipdeiiipdnacaaGreatShelf
import Derived.Maps.AppendAt
import Derived.Maps.OwnSet
import Derived.Maps.OwnOps
import Derived.WalkSpells
namespace Go.Proofs.YtipdeiiipdnacaaGreat
open Go.RowKit
attribute [local go_sem] bs_toList bs_size

/-- An array of 256 bytes. -/
def arrF (f : Nat → Nat) : Array Value := ((List.range 256).map fun i => Value.int .u8 (f i : Int)).toArray
theorem arrF_at (f : Nat → Nat) (i : Nat) (h : i < 256) : (arrF f)[i]? = some (.int .u8 (f i : Int)) := by
  unfold arrF
  rw [List.getElem?_toArray, List.getElem?_map, List.getElem?_range h]
  rfl
theorem arrF_set (f g : Nat → Nat) (k v : Nat) (h : k < 256) (hv : g k = v) (ho : ∀ i, i < 256 → i ≠ k → g i = f i) : (arrF f).setIfInBounds k (.int .u8 (v : Int)) = arrF g := by
  unfold arrF
  rw [List.setIfInBounds_toArray]
  congr 1
  apply List.ext_getElem?
  intro i
  rw [List.getElem?_set]
  by_cases e : k = i
  · subst e
    simp [h, hv]
  · rw [if_neg e]
    simp only [List.getElem?_map]
    by_cases hi : i < 256
    · rw [List.getElem?_range hi]
      simp [ho i hi (fun e2 => e e2.symm)]
    · rw [List.getElem?_eq_none (by simpa using hi)]
      rfl
def mask1 (k i : Nat) : Nat := if 32 ≤ i ∧ i < k then 4 else 0
def mask2 (k i : Nat) : Nat := mask1 127 i + if 48 ≤ i ∧ i < k then 2 else 0
def mask3 (k i : Nat) : Nat := mask2 58 i + if 97 ≤ i ∧ i < k then 3 else 0
/-- What a byte may be. -/
def maskN (i : Nat) : Nat := if i = 95 then 7 else mask3 123 i

set_option maxRecDepth 100000 in
set_option maxHeartbeats 4000000 in
theorem masks_any (w : World) : Calls Tryz.prog 36 #[] w fun e w' => e = .returned (.agg (arrF maskN)) ∧ Below w.heap.size w w' := by
  have h1 : bits BinOp.or IntKind.u8 0 4 = 4 := by decide +kernel
  have h2 : bits BinOp.or IntKind.u8 4 2 = 6 := by decide +kernel
  have h3 : bits BinOp.or IntKind.u8 4 3 = 7 := by decide +kernel
  go_enter Tryz.func36, Tryz.ntmps36
  go_wp2
  go_loopw [2] (fun vi wr => ∃ k : Nat, vi = .int .u8 (k : Nat) ∧ 32 ≤ k ∧ k ≤ 127 ∧ wr = (w.alloc (.cells (arrF (mask1 32)) 94)).alloc (.cells (arrF (mask1 k)) 94)) (fun vi _ => 200 - (intOf vi).toNat)
  case atStart => exact ⟨32, rfl, by omega, by omega, rfl⟩
  obtain ⟨k, rfl, hk0, hk, rfl⟩ := hrel
  by_cases hlt : k < 127
  · have ha := arrF_at (mask1 k) k (by omega)
    have hz : mask1 k k = 0 := by unfold mask1; rw [if_neg (by omega)]
    rw [hz] at ha
    have HS := Lib.hid (arrF_set (mask1 k) (mask1 (k + 1)) k 4 (by omega) (by unfold mask1; rw [if_pos (by omega)]) (fun i _ he => by
      unfold mask1
      have : (32 ≤ i ∧ i < k + 1) = (32 ≤ i ∧ i < k) := by apply propext; omega
      simp only [this]))
    go_wp2_with fail
    go_roundw
    case rel => exact ⟨k + 1, by go_num, by omega, by omega, by rw [← HS.out]; rfl⟩
    case measure => simp [intOf]; omega
  obtain rfl : k = 127 := by omega
  rw [show mask1 127 = mask2 48 from by funext i; unfold mask2; rw [if_neg (by omega)]; rfl]
  go_wp2_with fail
  go_loopw [3] (fun vi wr => ∃ k : Nat, vi = .int .u8 (k : Nat) ∧ 48 ≤ k ∧ k ≤ 58 ∧ wr = (w.alloc (.cells (arrF (mask1 32)) 94)).alloc (.cells (arrF (mask2 k)) 94)) (fun vi _ => 200 - (intOf vi).toNat)
  case atStart => exact ⟨48, rfl, by omega, by omega, rfl⟩
  obtain ⟨k, rfl, hk0, hk, rfl⟩ := hrel
  by_cases hlt : k < 58
  · have ha := arrF_at (mask2 k) k (by omega)
    have hz : mask2 k k = 4 := by unfold mask2 mask1; rw [if_pos (by omega), if_neg (by omega)]
    rw [hz] at ha
    have HS := Lib.hid (arrF_set (mask2 k) (mask2 (k + 1)) k 6 (by omega) (by unfold mask2 mask1; rw [if_pos (by omega), if_pos (by omega)]) (fun i _ he => by
      unfold mask2
      have : (48 ≤ i ∧ i < k + 1) = (48 ≤ i ∧ i < k) := by apply propext; omega
      simp only [this]))
    go_wp2_with fail
    go_roundw
    case rel => exact ⟨k + 1, by go_num, by omega, by omega, by rw [← HS.out]; rfl⟩
    case measure => simp [intOf]; omega
  obtain rfl : k = 58 := by omega
  rw [show mask2 58 = mask3 97 from by funext i; unfold mask3; rw [if_neg (by omega)]; rfl]
  go_wp2_with fail
  go_loopw [4] (fun vi wr => ∃ k : Nat, vi = .int .u8 (k : Nat) ∧ 97 ≤ k ∧ k ≤ 123 ∧ wr = (w.alloc (.cells (arrF (mask1 32)) 94)).alloc (.cells (arrF (mask3 k)) 94)) (fun vi _ => 200 - (intOf vi).toNat)
  case atStart => exact ⟨97, rfl, by omega, by omega, rfl⟩
  obtain ⟨k, rfl, hk0, hk, rfl⟩ := hrel
  by_cases hlt : k < 123
  · have ha := arrF_at (mask3 k) k (by omega)
    have hz : mask3 k k = 4 := by unfold mask3 mask2 mask1; rw [if_pos (by omega), if_neg (by omega), if_neg (by omega)]
    rw [hz] at ha
    have HS := Lib.hid (arrF_set (mask3 k) (mask3 (k + 1)) k 7 (by omega) (by unfold mask3 mask2 mask1; rw [if_pos (by omega), if_neg (by omega), if_pos (by omega)]) (fun i _ he => by
      unfold mask3
      have : (97 ≤ i ∧ i < k + 1) = (97 ≤ i ∧ i < k) := by apply propext; omega
      simp only [this]))
    go_wp2_with fail
    go_roundw
    case rel => exact ⟨k + 1, by go_num, by omega, by omega, by rw [← HS.out]; rfl⟩
    case measure => simp [intOf]; omega
  obtain rfl : k = 123 := by omega
  have ha := arrF_at (mask3 123) 95 (by omega)
  rw [show mask3 123 95 = 4 from by decide] at ha
  have HS := arrF_set (mask3 123) maskN 95 7 (by omega) (by decide) (fun i _ he => by unfold maskN; rw [if_neg he])
  go_wp2_with (first | refine wpList_load_row rfl _ _ rfl (w.heap.size + 1) rfl 94 (arrF maskN) (0, 0) _ (heap_alloc2_new _ _ _) Tryz.underlying94 rfl (by kernel_rfl) ?_ | refine wpList_store_row rfl _ _ _ rfl w.heap.size (arrF maskN) rfl rfl 94 (arrF (mask1 32)) (heap_alloc2_old _ _ _) (by kernel_rfl) (by kernel_rfl) (by kernel_rfl) ?_)
  refine bodyPost_ret (results_cell_row rfl _ _ w.heap.size 94 (arrF maskN) (0, 0) _ rfl (setRow_heap _ _ (arrF (mask1 32)) _ _ _ (heap_alloc2_old _ _ _)) Tryz.underlying94 rfl (by kernel_rfl)) rfl ?_
  exact ⟨rfl, below_setRow (((Below.refl _ _).alloc (Nat.le_refl _) _).alloc (by simp) _) (Nat.le_refl _) _⟩
end Go.Proofs.YtipdeiiipdnacaaGreat
namespace Go.Proofs.YtipdeiiipdnacaaGreat
open Go.RowKit
attribute [local go_sem] bs_toList bs_size

theorem maskN_lt (i : Nat) : maskN i < 8 := by
  unfold maskN mask3 mask2 mask1
  split
  · omega
  · split <;> split <;> split <;> omega
/-- May each byte of a text be something? -/
def allB (s : List UInt8) (m : Nat) : Bool := s.all (fun b => decide (maskN b.toNat &&& m ≠ 0)) && (!s.isEmpty && decide (s.length ≤ 48))

set_option maxRecDepth 100000 in
set_option maxHeartbeats 1000000 in
theorem all_any (s : List UInt8) (m : Nat) (hm : m < 256) (hl : s.length ≤ 1099511627776) (w : World) :
    Calls Tryz.prog 34 #[.string (bs s), .int .u8 (m : Int)] w fun e w' => e = .returned (.bool (allB s m)) ∧ Below w.heap.size w w' := by
  have q := Lib.hid (masks_any w)
  go_enter Tryz.func34, Tryz.ntmps34
  go_wp2_with fail
  refine q.out.mono ?_
  rintro e w1 ⟨rfl, hb⟩
  go_wp2_with (refine wpList_store_row rfl _ _ _ rfl w1.heap.size (arrF maskN) rfl rfl 94 (arrF fun _ => 0) (heap_alloc_new _ _) (by kernel_rfl) (by kernel_rfl) (by kernel_rfl) ?_)
  generalize hg : w1.heap.size = g
  generalize hW : World.setRow _ g (arrF maskN) = W2
  have HC := Lib.hid (fun (i : Nat) (hi : i < 256) => show W2.cell? ⟨g, i, none⟩ = some (.int .u8 (maskN i : Int)) by
    rw [← hW, ← hg]
    exact (cell_setRow_same _ _ _ (arrF fun _ => 0) _ _ _ (heap_alloc_new _ _)).trans (arrF_at maskN i hi))
  have HB := Lib.hid (show Below w.heap.size w W2 by
    rw [← hW, ← hg]
    exact below_setRow (hb.alloc hb.size _) hb.size _)
  clear hW hb hg q
  go_loop [10] (fun vi => ∃ i : Nat, i ≤ s.length ∧ vi = .int .i64 (i : Int) ∧ (s.take i).all (fun b => decide (maskN b.toNat &&& m ≠ 0)) = true) (fun vi => s.length - (intOf vi).toNat)
  case atStart => exact ⟨0, Nat.zero_le _, rfl, rfl⟩
  obtain ⟨i, hi, rfl, hall⟩ := hrel
  rcases (show i < s.length ∨ i = s.length by omega) with hil | rfl
  · have hb := List.getElem?_eq_getElem hil
    have HN := Lib.hid (show (s.take (i + 1)).all (fun b => decide (maskN b.toNat &&& m ≠ 0)) = ((s.take i).all (fun b => decide (maskN b.toNat &&& m ≠ 0)) && decide (maskN s[i].toNat &&& m ≠ 0)) by rw [List.take_succ_eq_append_getElem hil, List.all_append]; simp)
    rw [hall] at HN
    have HW := Lib.hid (show maskN s[i].toNat &&& m = 0 → allB s m = false from fun h => by
      unfold allB
      have : s.all (fun b => decide (maskN b.toNat &&& m ≠ 0)) = false := by
        rw [List.all_eq_false]
        exact ⟨s[i], List.getElem_mem hil, by simp [h]⟩
      rw [this]
      rfl)
    generalize s[i] = b at *
    have hidx := fun W => run_index_bs (P := Tryz.prog) 9 Tryz.underlying9 s i b hb .i64 W
    have hbl := b.toNat_lt
    have hcell := HC.out b.toNat (by omega)
    generalize b.toNat = n at *
    have hml := maskN_lt n
    have hand := u8_and_nat (maskN n) m (by omega) hm
    generalize maskN n &&& m = x at *
    generalize maskN n = mn at *
    clear hall
    by_cases h : x = 0
    · have hun := HW.out h
      subst h
      go_wp2
      go_ret
      exact ⟨rfl, HB.out⟩
    · have hd2 : decide (x ≠ 0) = true := by simp [h]
      have hd3 : ((x : Int) == 0) = false := by simpa using h
      rw [hd2] at HN
      go_wp2_with fail
      go_round
      case rel => exact ⟨i + 1, by omega, by go_num, by rw [HN.out]; rfl⟩
      case measure => simp [intOf]; omega
  · have HU := Lib.hid (show allB s m = (!s.isEmpty && decide (s.length ≤ 48)) by unfold allB; rw [List.take_length] at hall; rw [hall]; rfl)
    clear hall
    cases he : s.isEmpty with
    | true =>
      rw [he] at HU
      go_wp2
      go_ret
      exact ⟨by rw [HU.out]; rfl, HB.out⟩
    | false =>
      rw [he] at HU
      by_cases h48 : s.length ≤ 48
      · have hd : decide (s.length ≤ 48) = true := by simpa using h48
        have hd' : decide ((s.length : Int) ≤ 48) = true := by simp; omega
        rw [hd] at HU
        go_wp2
        go_ret
        exact ⟨by rw [HU.out]; rfl, HB.out⟩
      · have hd : decide (s.length ≤ 48) = false := by simpa using h48
        have hd' : decide ((s.length : Int) ≤ 48) = false := by simp; omega
        rw [hd] at HU
        go_wp2
        go_ret
        exact ⟨by rw [HU.out]; rfl, HB.out⟩
end Go.Proofs.YtipdeiiipdnacaaGreat
namespace Go.Proofs.YtipdeiiipdnacaaGreat
open Go.RowKit
attribute [local go_sem] bs_toList bs_size

set_option maxRecDepth 100000 in
set_option maxHeartbeats 1000000 in
theorem copyCheck_used (b : Nat) (w : World) (h0 : w.cell? ⟨b, 0, none⟩ = some (.pointer (some ⟨b, 0, none⟩))) :
    Calls Tryz.prog 69 #[.pointer (some ⟨b, 0, none⟩)] w fun e w' => e = .returned (.tuple #[]) ∧ w' = w := by
  have ⟨j, hj, _⟩ : ∃ j, Tryz.prog.info? 132 = some j ∧ j.size = 2 := Option.map_eq_some_iff.1 (show (Tryz.prog.info? 132).map (·.size) = some 2 by kernel_rfl)
  go_enter Tryz.func69, Tryz.ntmps69
  go_wp2
  rw [Lib.run_neq_ptr_same w _ Tryz.underlying130 hj]
  go_wp2
  go_end0
  exact ⟨rfl, rfl⟩

set_option maxRecDepth 100000 in
set_option maxHeartbeats 1000000 in
theorem copyCheck_fresh (b : Nat) (w : World) (h0 : w.cell? ⟨b, 0, none⟩ = some (.pointer none)) (hsh : w.shape? b = some (132, 2)) (hfz : w.frozen? ⟨b, 0, none⟩ = false) :
    Calls Tryz.prog 69 #[.pointer (some ⟨b, 0, none⟩)] w fun e w' => e = .returned (.tuple #[]) ∧ w' = w.setCell ⟨b, 0, none⟩ (.pointer (some ⟨b, 0, none⟩)) := by
  have ⟨j, hj, hjs⟩ : ∃ j, Tryz.prog.info? 132 = some j ∧ j.size = 2 := Option.map_eq_some_iff.1 (show (Tryz.prog.info? 132).map (·.size) = some 2 by kernel_rfl)
  go_enter Tryz.func69, Tryz.ntmps69
  go_wp2
  rw [Lib.run_to_unsafe w ⟨b, 0, none⟩ Tryz.underlying130 Tryz.underlying139 hj (by rw [hjs]; decide) hsh (Nat.zero_lt_succ 1)]
  simp only [Result.andThen]
  rw [Oper.upon_value]
  go_wp2
  rw [run_callFunc_extern Tryz.func70 (by kernel_rfl) (by kernel_rfl) (by kernel_rfl) (e := Extern.AbiNoEscape.same) (by kernel_rfl)]
  rw [Lib.run_noEscape]
  simp only [Result.andThen]
  rw [Oper.upon_value]
  go_wp2
  rw [Lib.run_from_unsafe w ⟨b, 0, none⟩ Tryz.underlying139 Tryz.underlying130 hj hsh (by kernel_rfl)]
  simp only [Result.andThen]
  rw [Oper.upon_value]
  go_wp2
  go_end0
  exact ⟨rfl, rfl⟩

theorem copyCheck_any (B b : Nat) (l : List Value) (w : World) (h : Lib.IsBuilderF 132 5 B b l w) :
    Calls Tryz.prog 69 #[.pointer (some ⟨b, 0, none⟩)] w fun e w' => e = .returned (.tuple #[]) ∧ (Lib.BuilderAtF 132 5 B b (.pointer (some ⟨b, 0, none⟩)) l w' ∧ Below B w w') := by
  rcases h with h | h
  · refine (copyCheck_fresh b w h.cell0 h.shape h.frozen0).mono ?_
    rintro e w' ⟨rfl, rfl⟩
    exact ⟨rfl, h.used _, (Below.refl B w).setCell (p := ⟨b, 0, none⟩) h.1 _⟩
  · refine (copyCheck_used b w h.cell0).mono ?_
    rintro e w' ⟨rfl, rfl⟩
    exact ⟨rfl, h, Below.refl B _⟩

set_option maxRecDepth 100000 in
set_option maxHeartbeats 1000000 in
theorem writeString_any (B b : Nat) (l : List Value) (s : ByteArray) (w : World) (h : Lib.IsBuilderF 132 5 B b l w) (hlen : l.length + s.size ≤ 140737488355328) (hBw : B ≤ w.heap.size) :
    Calls Tryz.prog 67 #[.pointer (some ⟨b, 0, none⟩), .string s] w fun e w' => e = .returned (.tuple #[.int .i64 s.size, .nilIface]) ∧ (Lib.IsBuilderF 132 5 B b (l ++ Lib.strCells s) w' ∧ Below B w w') := by
  have ⟨i0, hi, hz0, hz1, hz2⟩ := info_parts (show (Tryz.prog.info? 5).map (fun i => (i.zero, i.size, i.bytes)) = some (some (.int .u8 0), 1, 1) by kernel_rfl)
  have q := Lib.hid (fun w => copyCheck_any B b l w)
  go_enter Tryz.func67, Tryz.ntmps67
  go_wp2_with fail
  refine (q.out _ h).mono ?_
  rintro e w1 ⟨rfl, h1, hb1⟩
  obtain ⟨hB, v, hbk, hown, hne⟩ := h1
  have c0 : w1.cell? ⟨b, 0, none⟩ = some (.pointer (some ⟨b, 0, none⟩)) := by rw [Lib.cell_of_heap hbk]; rfl
  have c1 : w1.cell? ⟨b, 1, none⟩ = some v := by rw [Lib.cell_of_heap hbk]; rfl
  go_wp2_with (at_builtin; refine Lib.wpList_append_own_stringF _ rfl _ _ 54 9 rfl B 5 i0 Tryz.underlying54 Tryz.underlying9 hi hz0 hz1 hz2 _ _ _ rfl hown s rfl ?c3 ?c4 ?c5 ?_)
  case c3 => unfold maxLen; omega
  case c4 => omega
  case c5 => have := hb1.size; omega
  intro v' w2 hown' hgrow _
  have hlt : b < w1.heap.size := by
    rcases Nat.lt_or_ge b w1.heap.size with h' | h'
    · exact h'
    · simp [Array.getElem?_eq_none h'] at hbk
  have hb2 : w2.heap[b]? = some (.cells #[.pointer (some ⟨b, 0, none⟩), v] 132 (0, 0)) := by
    rw [hgrow.block b hlt (fun e => hne e.symm)]
    exact hbk
  have d0 : w2.cell? ⟨b, 0, none⟩ = some (.pointer (some ⟨b, 0, none⟩)) := by rw [Lib.cell_of_heap hb2]; rfl
  have d1 : w2.cell? ⟨b, 1, none⟩ = some v := by rw [Lib.cell_of_heap hb2]; rfl
  have f1 : w2.frozen? ⟨b, 1, none⟩ = false := Lib.frozen_of_heap hb2 1
  obtain ⟨ao, n', cap, rfl⟩ : ∃ ao n' cap, v' = .slice ao n' cap := by
    rcases hown'.2 with ⟨hv, _⟩ | ⟨g, cap, cur, fz, hv, _⟩
    · exact ⟨_, _, _, hv⟩
    · exact ⟨_, _, _, hv⟩
  go_wp2
  go_ret2
  refine ⟨rfl, Or.inr ?_, ?_⟩
  · exact Lib.BuilderAtF.put (T := 132) (e := 5) hB hb2 (bs' := l ++ Lib.strCells s) (by simpa [Lib.strCells_length] using hown') (by decide)
  · exact (hb1.grown hgrow (by have := hb1.size; omega) (fun k hk => (hown.lt k hk).1)).setCell (p := ⟨b, 1, none⟩) hB _

/-- A builder that holds these bytes. -/
def BldAt (B b : Nat) (l : List UInt8) (w : World) : Prop := Lib.IsBuilderF 132 5 B b (Lib.byteCells l) w
theorem BldAt.fresh (w : World) : BldAt w.heap.size w.heap.size [] (w.alloc (.cells #[.pointer none, .slice none 0 0] 132)) := Lib.IsBuilderF.of (Lib.fresh_isBuilder _ _ w)
theorem heap_lt {w : World} {b : Nat} {o : Obj} (h : w.heap[b]? = some o) : b < w.heap.size := (Array.getElem?_eq_some_iff.1 h).1
theorem builderAt_below {B b : Nat} {p : Value} {l : List Value} {w w' : World} (h : Lib.BuilderAtF 132 5 B b p l w) (hb : Below w.heap.size w w') : Lib.BuilderAtF 132 5 B b p l w' := by
  obtain ⟨h1, v, h2, h3, h4⟩ := h
  refine ⟨h1, v, (hb.block b (heap_lt h2)).trans h2, ⟨h3.1, ?_⟩, h4⟩
  rcases h3.2 with h | ⟨g, cap, cur, fz, e1, e2, e3, e4⟩
  · exact .inl h
  · exact .inr ⟨g, cap, cur, fz, e1, e2, (hb.block g (heap_lt e3)).trans e3, e4⟩
theorem BldAt.below {B b : Nat} {l : List UInt8} {w w' : World} (h : BldAt B b l w) (hb : Below w.heap.size w w') : BldAt B b l w' :=
  h.elim (fun h => .inl (builderAt_below h hb)) (fun h => .inr (builderAt_below h hb))
theorem strCells_bs (s : List UInt8) : Lib.strCells (bs s) = Lib.byteCells s := by unfold Lib.strCells Lib.byteCells; rw [bs_data]
theorem write_any (B b : Nat) (l s : List UInt8) (w : World) (h : BldAt B b l w) (hlen : l.length + s.length ≤ 140737488355328) (hBw : B ≤ w.heap.size) :
    Calls Tryz.prog 67 #[.pointer (some ⟨b, 0, none⟩), .string (bs s)] w fun e w' => e = .returned (.tuple #[.int .i64 s.length, .nilIface]) ∧ BldAt B b (l ++ s) w' ∧ Below B w w' := by
  refine (writeString_any B b (Lib.byteCells l) (bs s) w h (by rw [bs_size]; simpa [Lib.byteCells] using hlen) hBw).mono ?_
  rintro e w' ⟨rfl, h1, h2⟩
  refine ⟨by rw [bs_size], ?_, h2⟩
  unfold BldAt
  rw [Lib.byteCells_append, ← strCells_bs s]
  exact h1
end Go.Proofs.YtipdeiiipdnacaaGreat
namespace Go.Proofs.YtipdeiiipdnacaaGreat
open Go.RowKit
attribute [local go_sem] bs_toList bs_size

/-- A name, and a value. -/
abbrev Lb := List UInt8 × List UInt8
/-- A slice of labels. -/
def LabsAt (w : World) (v : Value) (L : List Lb) : Prop :=
  ∃ a c, v = .slice a L.length c ∧ L.length ≤ 1048576 ∧ ∀ (i : Nat) x, L[i]? = some x → x.1.length ≤ 1048576 ∧ x.2.length ≤ 1048576 ∧ ∃ b o, a = some ⟨b, o, none⟩ ∧ w.cell? ⟨b, o + i * 2, none⟩ = some (.string (bs x.1)) ∧ w.cell? ⟨b, o + i * 2 + 1, none⟩ = some (.string (bs x.2))
theorem LabsAt.below {w w' : World} {v : Value} {L : List Lb} (h : LabsAt w v L) (hb : Below w.heap.size w w') : LabsAt w' v L := by
  obtain ⟨a, c, h1, h2, h3⟩ := h
  refine ⟨a, c, h1, h2, fun i x hx => ?_⟩
  obtain ⟨h4, h5, b, o, h6, h7, h8⟩ := h3 i x hx
  exact ⟨h4, h5, b, o, h6, (Below.cell hb (World.block_lt_of_cell? _ _ h7)).trans h7, (Below.cell hb (World.block_lt_of_cell? _ _ h8)).trans h8⟩

/-- How long labels may be. -/
def limitG (g : Int) : Int := if g = 1 then 12 else if g = 2 then 24 else if g = 3 then 48 else 0
set_option maxRecDepth 100000 in
theorem Limit_any (g : Int) (w : World) (h1 : -9223372036854775808 ≤ g) (h2 : g ≤ 9223372036854775807) :
    Calls Tryz.prog 31 #[.int .i64 g] w fun e w' => e = .returned (.int .i64 (limitG g)) ∧ w = w' := by
  by_cases h : g = 1 ∨ g = 2 ∨ g = 3
  · rcases h with rfl | rfl | rfl
    all_goals
      go_enter Tryz.func31, Tryz.ntmps31
      go_wp2
      go_ret
      exact ⟨rfl, rfl⟩
  · have hl : limitG g = 0 := by unfold limitG; rw [if_neg (by omega), if_neg (by omega), if_neg (by omega)]
    rw [hl]
    by_cases hd : g < 1
    · have hd1 : decide (g < 1) = true := by simpa using hd
      go_enter Tryz.func31, Tryz.ntmps31
      go_wp2
      go_ret
      exact ⟨rfl, rfl⟩
    · have hd1 : decide (g < 1) = false := by simpa using hd
      have hd2 : decide (3 < g) = true := by simp; omega
      go_enter Tryz.func31, Tryz.ntmps31
      go_wp2
      go_ret
      exact ⟨rfl, rfl⟩

/-- How long labels are. -/
def longestB (L : List Lb) : Nat := L.foldl (fun n x => max (max n x.1.length) x.2.length) 0
set_option maxRecDepth 100000 in
set_option maxHeartbeats 1000000 in
theorem Longest_any (L : List Lb) (v : Value) (w : World) (h : LabsAt w v L) :
    Calls Tryz.prog 30 #[v] w fun e w' => e = .returned (.int .i64 (longestB L : Int)) ∧ Below w.heap.size w w' := by
  obtain ⟨a, c, rfl, hn, hc⟩ := h
  have HC := Lib.hid hc
  clear hc
  go_enter Tryz.func30, Tryz.ntmps30
  go_wp2
  go_loopw [3, 8] (fun vn vi wr => ∃ i : Nat, i ≤ L.length ∧ vi = .int .i64 (i : Int) ∧ vn = .int .i64 (longestB (L.take i) : Int) ∧ longestB (L.take i) ≤ 1048576 ∧ Below w.heap.size w wr) (fun vn vi _ => L.length - (intOf vi).toNat)
  case atStart => exact ⟨0, Nat.zero_le _, rfl, rfl, Nat.zero_le _, Below.refl _ _⟩
  obtain ⟨i, hi, rfl, rfl, hlb, hb⟩ := hrel
  rcases (show i < L.length ∨ i = L.length by omega) with hil | rfl
  · have HL := Lib.hid (show longestB (L.take (i + 1)) = max (max (longestB (L.take i)) L[i].1.length) L[i].2.length by
      unfold longestB; rw [List.take_succ_eq_append_getElem hil, List.foldl_append]; rfl)
    obtain ⟨hx1, hx2, b, o, rfl, d0, d1⟩ := HC.out i _ (List.getElem?_eq_getElem hil)
    have e0 := hb.cell (World.block_lt_of_cell? _ _ d0)
    have e1 := hb.cell (World.block_lt_of_cell? _ _ d1)
    rw [d0] at e0
    rw [d1] at e1
    clear d0 d1
    generalize L[i] = x at *
    generalize longestB (L.take i) = m at *
    go_wp2
    go_roundw
    case rel => exact ⟨i + 1, by omega, by go_num, by
      rw [HL.out]
      congr 1
      split <;> split <;> omega, by rw [HL.out]; omega, hb.alloc hb.size _⟩
    case measure => simp [intOf]; omega
  · rw [List.take_length] at *
    go_wp2
    go_ret
    exact ⟨rfl, hb⟩

/-- Is a text behind another one? -/
def gtB (a b : List UInt8) : Bool := !Op.bytesLess a b && !(a == b)
theorem gtB_nil (b : List UInt8) : gtB [] b = false := by cases b <;> rfl
/-- May labels be, whose names come behind a last one? -/
def chkFrom (last : List UInt8) : List Lb → Bool
  | [] => true
  | x :: l => gtB x.1 last && (allB x.1 2 && (allB (x.1.take 1) 1 && (allB x.2 4 && chkFrom x.1 l)))
/-- May labels be? 0, or the error. -/
def checkE (L : List Lb) : Int := if chkFrom [] L && (!L.isEmpty && decide (L.length ≤ 6)) then 0 else 2
theorem checkE_of (L : List Lb) (h : chkFrom [] L = true) : checkE L = if L.length = 0 then 2 else if 6 < L.length then 2 else 0 := by
  unfold checkE
  rw [h]
  cases L with
  | nil => rfl
  | cons x l =>
    simp only [List.length_cons, List.isEmpty_cons, Bool.not_false, Bool.true_and, decide_eq_true_eq]
    split <;> split <;> first | rfl | omega
set_option maxRecDepth 100000 in
set_option maxHeartbeats 1000000 in
theorem Check_any (L : List Lb) (v : Value) (w : World) (h : LabsAt w v L) :
    Calls Tryz.prog 28 #[v] w fun e w' => e = .returned (.int .i64 (checkE L)) ∧ Below w.heap.size w w' := by
  obtain ⟨a, c, rfl, hn, hc⟩ := h
  have HC := Lib.hid hc
  clear hc
  have qa := Lib.hid (fun (s : List UInt8) (m : Nat) (hm : m < 256) (hl : s.length ≤ 1099511627776) W => all_any s m hm hl W)
  go_enter Tryz.func28, Tryz.ntmps28
  go_wp2
  apply wp_scope_straight
  go_wp2
  apply wp_label
  go_wp2
  go_loopw [3, 8] (fun vn vi wr => ∃ (i : Nat) (last : List UInt8), i ≤ L.length ∧ vi = .int .i64 (i : Int) ∧ vn = .string (bs last) ∧ chkFrom [] L = chkFrom last (L.drop i) ∧ Below w.heap.size w wr) (fun vn vi _ => L.length - (intOf vi).toNat)
  case atStart => exact ⟨0, [], Nat.zero_le _, rfl, rfl, rfl, Below.refl _ _⟩
  obtain ⟨i, last, hi, rfl, rfl, hchk, hb⟩ := hrel
  rcases (show i < L.length ∨ i = L.length by omega) with hil | rfl
  · rw [List.drop_eq_getElem_cons hil] at hchk
    obtain ⟨hx1, hx2, b, o, rfl, d0, d1⟩ := HC.out i _ (List.getElem?_eq_getElem hil)
    have e0 := hb.cell (World.block_lt_of_cell? _ _ d0)
    have e1 := hb.cell (World.block_lt_of_cell? _ _ d1)
    rw [d0] at e0
    rw [d1] at e1
    clear d0 d1
    generalize L[i] = x at *
    have hC : chkFrom last (x :: L.drop (i + 1)) = (gtB x.1 last && (allB x.1 2 && (allB (x.1.take 1) 1 && (allB x.2 4 && chkFrom x.1 (L.drop (i + 1)))))) := rfl
    rw [hC] at hchk
    have HK := Lib.hid hchk
    have HF := Lib.hid (show chkFrom [] L = false → checkE L = 2 from fun e => by unfold checkE; rw [e]; rfl)
    clear hC hchk
    have hgb : gtB x.1 last = (!Op.bytesLess x.1 last && !(x.1 == last)) := rfl
    cases hg1 : Op.bytesLess x.1 last with
    | true =>
      rw [hg1] at hgb
      rw [hgb] at HK
      have HE := Lib.hid (HF.out HK.out)
      clear HK HF hgb
      go_wp2
      dsimp only [Exit.noGoto]
      go_ret
      exact ⟨by rw [HE.out]; rfl, hb.alloc hb.size _⟩
    | false =>
      cases hg2 : x.1 == last with
      | true =>
        rw [hg1, hg2] at hgb
        rw [hgb] at HK
        have HE := Lib.hid (HF.out HK.out)
        clear HK HF hgb
        go_wp2
        dsimp only [Exit.noGoto]
        go_ret
        exact ⟨by rw [HE.out]; rfl, hb.alloc hb.size _⟩
      | false =>
        rw [hg1, hg2] at hgb
        have hne : 1 ≤ x.1.length := by
          cases hx : x.1 with
          | nil => rw [hx, gtB_nil] at hgb; cases hgb
          | cons y l => simp
        rw [hgb] at HK
        have he1 : (bs x.1).extract 0 1 = bs (x.1.take 1) := by rw [bs_extract]; rfl
        clear hgb
        have C0 := Lib.hid (fun (w1 : World) (hb1 : Below (wr.alloc (.cells #[.string (bs x.1), .string (bs x.2)] 53)).heap.size (wr.alloc (.cells #[.string (bs x.1), .string (bs x.2)] 53)) w1) =>
          (show w1.cell? ⟨wr.heap.size, 0, none⟩ = some (.string (bs x.1)) ∧ w1.cell? ⟨wr.heap.size, 1, none⟩ = some (.string (bs x.2)) ∧ Below w.heap.size w w1 ∧ wr.heap.size < w1.heap.size from
            ⟨(hb1.cell (by simp)).trans (by rw [World.cell?_alloc_new]; rfl), (hb1.cell (by simp)).trans (by rw [World.cell?_alloc_new]; rfl), (hb.alloc hb.size _).trans (hb1.mono (hb.alloc hb.size _).size), Nat.lt_of_lt_of_le (by simp) hb1.size⟩))
        have hb' := hb.size
        have l1 : (x.1.take 1).length ≤ 1099511627776 := by simp; omega
        clear hb
        go_wp2_with fail
        refine (qa.out _ _ (by decide) (by omega) _).mono ?_
        rintro e w1 ⟨rfl, hb1⟩
        obtain ⟨c0, c1, hB, hs1⟩ := C0.out _ hb1
        clear hb1 C0
        cases ha1 : allB x.1 2 with
        | false =>
          rw [ha1] at HK
          have HE := Lib.hid (HF.out HK.out)
          clear HK HF
          go_wp2
          dsimp only [Exit.noGoto]
          go_ret
          exact ⟨by rw [HE.out]; rfl, hB⟩
        | true =>
          rw [ha1] at HK
          generalize hG : wr.heap.size = G at *
          have C1 := Lib.hid (fun (w2 : World) (hb1 : Below w1.heap.size w1 w2) =>
            (show w2.cell? ⟨G, 0, none⟩ = some (.string (bs x.1)) ∧ w2.cell? ⟨G, 1, none⟩ = some (.string (bs x.2)) ∧ Below w.heap.size w w2 from
              ⟨(hb1.cell hs1).trans c0, (hb1.cell hs1).trans c1, hB.trans (hb1.mono hB.size)⟩))
          go_wp2_with fail
          refine (qa.out _ _ (by decide) l1 _).mono ?_
          rintro e w2 ⟨rfl, hb1⟩
          have hs2 := Nat.lt_of_lt_of_le hs1 hb1.size
          have ⟨d0, d1, hB2⟩ := C1.out _ hb1
          clear hb1 C1 hB hs1 c0 c1
          cases ha2 : allB (x.1.take 1) 1 with
          | false =>
            rw [ha2] at HK
            have HE := Lib.hid (HF.out HK.out)
            clear HK HF
            go_wp2
            dsimp only [Exit.noGoto]
            go_ret
            exact ⟨by rw [HE.out]; rfl, hB2⟩
          | true =>
            rw [ha2] at HK
            have C1 := Lib.hid (fun (w3 : World) (hb1 : Below w2.heap.size w2 w3) =>
              (show w3.cell? ⟨G, 0, none⟩ = some (.string (bs x.1)) ∧ Below w.heap.size w w3 from
                ⟨(hb1.cell hs2).trans d0, hB2.trans (hb1.mono hB2.size)⟩))
            go_wp2_with fail
            refine (qa.out _ _ (by decide) (by omega) _).mono ?_
            rintro e w3 ⟨rfl, hb1⟩
            obtain ⟨f0, hB3⟩ := C1.out _ hb1
            clear hb1 C1 hB2 hs2 d0 d1
            cases ha3 : allB x.2 4 with
            | false =>
              rw [ha3] at HK
              have HE := Lib.hid (HF.out HK.out)
              clear HK HF
              go_wp2
              dsimp only [Exit.noGoto]
              go_ret
              exact ⟨by rw [HE.out]; rfl, hB3⟩
            | true =>
              rw [ha3] at HK
              go_wp2
              go_roundw
              case rel => exact ⟨i + 1, x.1, by omega, by go_num, rfl, HK.out, hB3⟩
              case measure => simp [intOf]; omega
  · rw [List.drop_length] at hchk
    have HE := Lib.hid (show checkE L = if L.length = 0 then 2 else if 6 < L.length then 2 else 0 from checkE_of L hchk)
    clear hchk HC
    generalize L.length = n at *
    by_cases h0 : n = 0
    · subst h0
      go_wp2
      try dsimp only [Exit.noGoto]
      go_ret
      exact ⟨by rw [HE.out, if_pos trivial]; rfl, hb⟩
    · by_cases h6 : 6 < n
      · have hd : decide (6 < n) = true := by simpa using h6
        have hE := HE.out
        rw [if_neg h0, if_pos h6] at hE
        have hE := Lib.hid hE
        have hz : ((n : Int) == 0) = false := by simp; omega
        go_wp2
        try dsimp only [Exit.noGoto]
        go_ret
        exact ⟨by rw [hE.out]; rfl, hb⟩
      · have hd : decide (6 < n) = false := by simpa using h6
        have hE := HE.out
        rw [if_neg h0, if_neg h6] at hE
        have hE := Lib.hid hE
        have hz : ((n : Int) == 0) = false := by simp; omega
        go_wp2
        try dsimp only [Exit.noGoto]
        go_ret
        exact ⟨by rw [hE.out]; rfl, hb⟩
end Go.Proofs.YtipdeiiipdnacaaGreat
namespace Go.Proofs.YtipdeiiipdnacaaGreat
open Go.RowKit
attribute [local go_sem] bs_toList bs_size

theorem builderString_any (B b : Nat) (l : List UInt8) (w : World) (h : BldAt B b l w) (hBw : B ≤ w.heap.size) :
    Calls Tryz.prog 68 #[.pointer (some ⟨b, 0, none⟩)] w fun e w' => e = .returned (.string (bs l)) ∧ BldAt B b l w' ∧ Below B w w' := Tryz.Builder_String_any_f B b l w h hBw

/-- Labels as bytes. -/
def keyB (L : List Lb) : List UInt8 := L.flatMap fun x => Num.text x.1 ++ Num.text x.2
theorem keyB_snoc (L : List Lb) (x : Lb) : keyB (L ++ [x]) = keyB L ++ (Num.text x.1 ++ Num.text x.2) := by unfold keyB; rw [List.flatMap_append]; simp
set_option maxRecDepth 100000 in
set_option maxHeartbeats 1000000 in
theorem Key_any (L : List Lb) (v : Value) (w : World) (h : LabsAt w v L) :
    Calls Tryz.prog 60 #[v] w fun e w' => e = .returned (.string (bs (keyB L))) ∧ Below w.heap.size w w' := by
  obtain ⟨a, c, rfl, hn, hc⟩ := h
  have HC := Lib.hid hc
  clear hc
  go_enter Tryz.func60, Tryz.ntmps60
  go_wp2
  go_loopw [8] (fun vi wr => ∃ (i : Nat) (l : List UInt8), i ≤ L.length ∧ vi = .int .i64 (i : Int) ∧ l = keyB (L.take i) ∧ l.length ≤ i * 4194304 ∧ BldAt w.heap.size w.heap.size l wr ∧ Below w.heap.size w wr) (fun vi _ => L.length - (intOf vi).toNat)
  case atStart => exact ⟨0, [], Nat.zero_le _, rfl, rfl, Nat.zero_le _, BldAt.fresh w, one_alloc w _⟩
  obtain ⟨i, l, hi, rfl, hl, hll, hB, hb⟩ := hrel
  rcases (show i < L.length ∨ i = L.length by omega) with hil | rfl
  · have HL := Lib.hid (show l ++ (Num.text L[i].1 ++ Num.text L[i].2) = keyB (L.take (i + 1)) by
      rw [List.take_succ_eq_append_getElem hil, keyB_snoc, hl])
    obtain ⟨hx1, hx2, b, o, rfl, d0, d1⟩ := HC.out i _ (List.getElem?_eq_getElem hil)
    have e0 := hb.cell (World.block_lt_of_cell? _ _ d0)
    have e1 := hb.cell (World.block_lt_of_cell? _ _ d1)
    rw [d0] at e0
    rw [d1] at e1
    clear d0 d1 hl
    generalize L[i] = x at *
    generalize hG : wr.heap.size = G
    have C0 := Lib.hid (fun (w1 : World) (hb1 : Below (wr.alloc (.cells #[.string (bs x.1), .string (bs x.2)] 53)).heap.size (wr.alloc (.cells #[.string (bs x.1), .string (bs x.2)] 53)) w1) =>
      (show w1.cell? ⟨G, 0, none⟩ = some (.string (bs x.1)) ∧ w1.cell? ⟨G, 1, none⟩ = some (.string (bs x.2)) ∧ BldAt w.heap.size w.heap.size l w1 ∧ Below w.heap.size w w1 ∧ G < w1.heap.size from by
        subst hG
        exact ⟨(hb1.cell (by simp)).trans (by rw [World.cell?_alloc_new]; rfl), (hb1.cell (by simp)).trans (by rw [World.cell?_alloc_new]; rfl), (hB.below (one_alloc _ _)).below hb1, (hb.alloc hb.size _).trans (hb1.mono (hb.alloc hb.size _).size), Nat.lt_of_lt_of_le (by simp) hb1.size⟩))
    clear hb hB
    have q1 := Lib.hid (fun W => num_Text_any x.1 W (by omega))
    have q2 := Lib.hid (fun W => num_Text_any x.2 W (by omega))
    have t1 : (Num.text x.1).length ≤ 2000000 := by rw [Num.text_len]; have := Num.small_len x.1.length; omega
    have t2 : (Num.text x.2).length ≤ 2000000 := by rw [Num.text_len]; have := Num.small_len x.2.length; omega
    generalize Num.text x.1 = y1 at *
    generalize Num.text x.2 = y2 at *
    have hadd : ∀ W, (Op.stringOp .add (bs y1) (bs y2)).run Tryz.prog W = .ok (.string (bs (y1 ++ y2))) W := fun W => run_add_bs (P := Tryz.prog) y1 y2 (by omega) W
    have hll2 : l.length + (y1 ++ y2).length ≤ (i + 1) * 4194304 := by rw [List.length_append]; omega
    generalize y1 ++ y2 = y at *
    have hq : ∀ W, BldAt w.heap.size w.heap.size l W → w.heap.size ≤ W.heap.size → _ := fun W hW hs => write_any w.heap.size w.heap.size l y W hW (by omega) hs
    have Q := Lib.hid hq
    clear hq
    have hs0 : G < (wr.alloc (.cells #[.string (bs x.1), .string (bs x.2)] 53)).heap.size := by subst hG; simp
    have y0 : (wr.alloc (.cells #[.string (bs x.1), .string (bs x.2)] 53)).cell? ⟨G, 0, none⟩ = some (.string (bs x.1)) := by subst hG; rw [World.cell?_alloc_new]; rfl
    have y1' : (wr.alloc (.cells #[.string (bs x.1), .string (bs x.2)] 53)).cell? ⟨G, 1, none⟩ = some (.string (bs x.2)) := by subst hG; rw [World.cell?_alloc_new]; rfl
    have g0 := grow_cell y0
    have g1 := grow_cell y1'
    go_wp2_with fail
    refine wp_region_led (R := GrowR) (by kernel_rfl) (by kernel_rfl) rfl (by kernel_rfl) ?_
    (refine lex_one (by kernel_rfl) (by kernel_rfl) (by kernel_rfl) (fun K hK => ?_); go_big_quiet_step (fail); refine wpQuiet_nil (hK _ ?_); clear hK K); (refine lex_one (by kernel_rfl) (by kernel_rfl) (by kernel_rfl) (fun K hK => ?_); go_big_quiet_step (fail); refine wpQuiet_nil (hK _ ?_); clear hK K)
    (refine lex_call (f := 62) (args := #[.string (bs x.1)]) (v := .string (bs y1)) (by kernel_rfl) (fun _ _ h => by cases h) (by kernel_rfl) (by kernel_rfl) (fun _ => by go_simp) (fun W hW => q1.out W) (lex_put (type := 0) (pos := "") (fun K hK => ?_)); go_big_quiet_step (fail); refine wpQuiet_nil (hK _ ?_); clear hK K)
    (refine lex_one (by kernel_rfl) (by kernel_rfl) (by kernel_rfl) (fun K hK => ?_); go_big_quiet_step (fail); refine wpQuiet_nil (hK _ ?_); clear hK K); (refine lex_one (by kernel_rfl) (by kernel_rfl) (by kernel_rfl) (fun K hK => ?_); go_big_quiet_step (fail); refine wpQuiet_nil (hK _ ?_); clear hK K)
    (refine lex_call (f := 62) (args := #[.string (bs x.2)]) (v := .string (bs y2)) (by kernel_rfl) (fun _ _ h => by cases h) (by kernel_rfl) (by kernel_rfl) (fun _ => by go_simp) (fun W hW => q2.out W) (lex_put (type := 0) (pos := "") (fun K hK => ?_)); go_big_quiet_step (fail); refine wpQuiet_nil (hK _ ?_); clear hK K)
    (refine lex_one (by kernel_rfl) (by kernel_rfl) (by kernel_rfl) (fun K hK => ?_); go_big_quiet_step (fail); refine wpQuiet_nil (hK _ ?_); clear hK K)
    refine lex_nil (by kernel_rfl) (by kernel_rfl) (by kernel_rfl) ?_
    intro w2 hb1
    simp only [hideAll]
    obtain ⟨_, _, hB, hb, hs⟩ := C0.out _ hb1
    clear C0 hb1 g0 g1 y0 y1' hs0
    go_wp2_with fail
    refine (Q.out _ hB hb.size).mono ?_
    rintro e w3 ⟨rfl, hB3, hb3⟩
    go_wp2_with fail
    go_roundw
    case rel => exact ⟨i + 1, l ++ y, by omega, by go_num, HL.out, by rw [List.length_append]; omega, hB3, hb.trans hb3⟩
    case measure => simp [intOf]; omega
  · rw [List.take_length] at hl
    subst hl
    have Q := Lib.hid (builderString_any _ _ _ _ hB hb.size)
    go_wp2_with fail
    refine Q.out.mono ?_
    rintro e w3 ⟨rfl, hB3, hb3⟩
    go_wp2_with fail
    go_ret
    exact ⟨rfl, hb.trans hb3⟩
end Go.Proofs.YtipdeiiipdnacaaGreat
namespace Go.Proofs.YtipdeiiipdnacaaGreat
open Go.RowKit

/-- A row with other cells from a place on, where there is room. -/
def rowWith (cur : Array Value) (k : Nat) (news : List Value) : Array Value := if k + news.length ≤ cur.size then (cur.toList.take k ++ news ++ cur.toList.drop (k + news.length)).toArray else cur
theorem rowWith_size (cur : Array Value) (k : Nat) (news : List Value) : (rowWith cur k news).size = cur.size := by
  unfold rowWith
  split
  · simp only [List.size_toArray, List.length_append, List.length_take, List.length_drop, Array.length_toList]
    omega
  · rfl
theorem rowWith_take (cur : Array Value) (k : Nat) (news : List Value) : (rowWith cur k news).toList.take k = cur.toList.take k := by
  unfold rowWith
  split
  · rename_i h
    have : (cur.toList.take k).length = k := by simp; omega
    simp only [List.append_assoc]
    rw [List.take_append_of_le_length (by omega), List.take_of_length_le (by omega)]
  · rfl
theorem rowWith_again (cur : Array Value) (k : Nat) (news : List Value) : rowWith (rowWith cur k news) k news = rowWith cur k news := by
  have hs := rowWith_size cur k news
  by_cases h : k + news.length ≤ cur.size
  · have e : rowWith cur k news = (cur.toList.take k ++ news ++ cur.toList.drop (k + news.length)).toArray := by unfold rowWith; rw [if_pos h]
    have ht := rowWith_take cur k news
    have hd : (rowWith cur k news).toList.drop (k + news.length) = cur.toList.drop (k + news.length) := by
      rw [e]
      have : (cur.toList.take k ++ news).length = k + news.length := by simp; omega
      show (cur.toList.take k ++ news ++ cur.toList.drop (k + news.length)).drop (k + news.length) = _
      rw [List.drop_append_of_le_length (by omega), List.drop_of_length_le (by omega), List.nil_append]
    generalize rowWith cur k news = C at *
    unfold rowWith
    rw [if_pos (by rw [hs]; exact h), ht, hd, e]
  · generalize rowWith cur k news = C at *
    unfold rowWith
    rw [if_neg (by rw [hs]; exact h)]

/-- What a row's block holds behind an append that found room. -/
def appendedTo (w : World) (v : Value) (size n : Nat) (news : List Value) : Option Obj :=
  match v with
  | .slice (some a) _ _ => match w.heap[a.block]? with
    | some (.cells cur e fz) => some (.cells (rowWith cur (n * size) news) e fz)
    | _ => none
  | _ => none

/-- New memory alone; but one row may become what it is to become. -/
def AppR (row : Option Nat) (fin : Option Obj) (a b : World) : Prop := a.grownBy b row ∧ ∀ g, row = some g → b.heap[g]? = a.heap[g]? ∨ b.heap[g]? = fin
instance {row : Option Nat} {fin : Option Obj} : Turns (AppR row fin) :=
  ⟨fun _ => ⟨⟨rfl, rfl, rfl, Nat.le_refl _, fun _ _ _ => rfl⟩, fun _ _ => .inl rfl⟩,
   fun h k => ⟨World.grownBy.trans h.1 k.1, fun g hg => by
     rcases k.2 g hg with e | e
     · rw [e]; exact h.2 g hg
     · exact .inr e⟩,
   fun _ => ⟨⟨rfl, rfl, rfl, Nat.le_refl _, fun _ _ _ => rfl⟩, fun _ _ => .inl rfl⟩⟩

theorem AppR.cell {row : Option Nat} {fin : Option Obj} {w w' : World} {p : Addr} {v : Value} (hR : AppR row fin w w') (h : w.cell? p = some v) (hr : some p.block ≠ row) : w'.cell? p = some v :=
  (World.cell?_of_block (hR.1.block p.block (World.block_lt_of_cell? _ _ h) hr)).trans h
theorem app_cell {row : Option Nat} {fin : Option Obj} {w : World} {p : Addr} {v : Value} (h : w.cell? p = some v) (hr : some p.block ≠ row) : ∀ x : RW (AppR row fin) w, x.w.cell? p = some v := fun x => AppR.cell x.is h hr

/-- A slice of new cells. -/
def NewCells (w0 : World) (m : Nat) (news : List Value) : Held := fun x W => ∃ p c, x = .slice (some ⟨p, 0, none⟩) m c ∧ w0.heap.size ≤ p ∧ ∀ j u, news[j]? = some u → W.cell? ((⟨p, 0, none⟩ : Addr).add j) = some u
theorem add_block (a : Addr) (j : Nat) : (a.add j).block = a.block := by unfold Addr.add; split <;> rfl
theorem newCells_keeps {row : Option Nat} {fin : Option Obj} {w0 : World} {m : Nat} {news : List Value} (hr : ∀ g, row = some g → g < w0.heap.size) : (NewCells w0 m news).keeps (AppR row fin) := by
  rintro x W W' ⟨p, c, rfl, hp, hc⟩ hR
  exact ⟨p, c, rfl, hp, fun j u hu => AppR.cell hR (hc j u hu) fun e => by
    rw [add_block] at e
    have := hr p e.symm
    omega⟩

/-- What an append answers. -/
def AppHeld (w0 : World) (base : Nat) (e : TypeId) (size : Nat) (row : Option Nat) (fin : Option Obj) (n : Nat) (xs : List Value) : Held := fun v' W' =>
  W'.ownsRow base e size v' n xs ∧ ((v'.ownBlock = row ∧ ∀ g, row = some g → W'.heap[g]? = fin) ∨ ∃ k, v'.ownBlock = some k ∧ w0.heap.size ≤ k)

theorem owns_same {w w' : World} {base : Nat} {e : TypeId} {size n : Nat} {v : Value} {xs : List Value} (h : w.ownsRow base e size v n xs) (hk : ∀ g, v.ownBlock = some g → w'.heap[g]? = w.heap[g]?) : w'.ownsRow base e size v n xs := by
  refine ⟨h.1, ?_⟩
  rcases h.2 with h2 | ⟨g, cap, cur, rfl, h3, h4, h5⟩
  · exact .inl h2
  · exact .inr ⟨g, cap, cur, rfl, h3, (hk g rfl).trans h4, h5⟩
theorem owns_lt {w : World} {base : Nat} {e : TypeId} {size n : Nat} {v : Value} {xs : List Value} (h : w.ownsRow base e size v n xs) {k : Nat} (hk : v.ownBlock = some k) : k < w.heap.size := by
  rcases h.2 with ⟨rfl, _⟩ | ⟨g, cap, cur, rfl, _, hg, _⟩
  · cases hk
  · obtain rfl : g = k := Option.some.inj hk
    exact (Array.getElem?_eq_some_iff.1 hg).1

theorem appHeld_keeps {w0 : World} {base : Nat} {e : TypeId} {size : Nat} {row : Option Nat} {fin : Option Obj} {n : Nat} {xs : List Value} (hr : ∀ g, row = some g → g < w0.heap.size) :
    (AppHeld w0 base e size row fin n xs).keeps (AppR row fin) := by
  rintro v W W' ⟨h1, h2⟩ hR
  rcases h2 with ⟨h2, h3⟩ | ⟨k, h2, h3⟩
  · have hs : ∀ g, row = some g → W'.heap[g]? = W.heap[g]? := fun g hg => by
      rcases hR.2 g hg with e | e
      · exact e
      · rw [e, h3 g hg]
    exact ⟨owns_same h1 fun g hg => hs g (h2 ▸ hg), .inl ⟨h2, fun g hg => (hs g hg).trans (h3 g hg)⟩⟩
  · exact ⟨owns_same h1 fun g hg => hR.1.block g (owns_lt h1 hg) fun e => by
      have := hr g e.symm
      rw [h2] at hg
      have := Option.some.inj hg
      omega, .inr ⟨k, h2, h3⟩⟩

section
variable {P : Program}
theorem run_append_app (t ty e : TypeId) (i : TypeInfo) (z : Value) (size bytes : Nat) (ht : P.underlying t = some (.slice e)) (hi : P.info? e = some i) (hz : i.zero = some z) (hsize : i.size = size) (hby : i.bytes = bytes) (hzs : z.cells.size = size) (hsz : 0 < size)
    (base : Nat) (w0 w : World) (v : Value) (n : Nat) (xs : List Value) (hown : w0.ownsRow base e size v n xs) (m c : Nat) (a : Addr) (news : List Value) (hl : news.length = m * size) (hnews : ∀ j u, news[j]? = some u → w.cell? (a.add j) = some u)
    (h1 : ∀ u ∈ news, u.oneCell' = true) (h63 : n + m ≤ maxLen) (hbytes : (n + m) * bytes ≤ 140737488355328) (hbase : base ≤ w0.heap.size) (hR : AppR v.ownBlock (appendedTo w0 v size n news) w0 w) :
    ∃ v' w', (Builtin.append_ #[t, t] ty #[v, .slice (some a) m c]).run P w = .ok v' w' ∧ AppR v.ownBlock (appendedTo w0 v size n news) w w' ∧ AppHeld w0 base e size v.ownBlock (appendedTo w0 v size n news) (n + m) (xs ++ news) v' w' := by
  have hown' : w.ownsRow base e size v n xs := by
    refine ⟨hown.1, ?_⟩
    rcases hown.2 with h2 | ⟨g, cap, cur, rfl, h3, h4, h5, h6, h7, h8⟩
    · exact .inl h2
    · rcases hR.2 g rfl with e' | e'
      · exact .inr ⟨g, cap, cur, rfl, h3, e'.trans h4, h5, h6, h7, h8⟩
      · refine .inr ⟨g, cap, rowWith cur (n * size) news, rfl, h3, e'.trans ?_, h5, h6, by rw [rowWith_size, h7], by rw [rowWith_take, h8]⟩
        unfold appendedTo
        simp only [h4]
  have hge := hR.1.size
  rcases hown'.2 with ⟨rfl, rfl⟩ | ⟨g, cap, cur, rfl, hbg, hg, hnc, hcm, hcs, htake⟩
  · obtain ⟨v', w', hr, h2, h3, h4, h5⟩ := run_append_own_at (P := P) w base t ty e i z size bytes ht hi hz hsize hby hzs hsz _ _ xs hown' a m c news hl hnews h1 h63 hbytes (by omega)
    refine ⟨v', w', hr, ⟨h3, fun g hg => by cases hg⟩, h2, ?_⟩
    rcases h5 with h5 | h5
    · exact .inl ⟨h5, fun g hg => by cases hg⟩
    · exact .inr ⟨_, h5, hge⟩
  · by_cases hroom : n + m ≤ cap
    · have hfit : n * i.size + news.length ≤ cur.size := by rw [hl, hcs, hsize, ← Nat.add_mul]; exact Nat.mul_le_mul_right _ hroom
      have hr := run_append_room (P := P) w t ty e i ht hi g n cap cur hg a m c news (by rw [hsize]; exact hl) hnews h1 hroom hfit
      have hset : (cur.toList.take (n * i.size) ++ news ++ cur.toList.drop (n * i.size + news.length)).toArray = rowWith cur (n * size) news := by
        unfold rowWith
        rw [hsize] at hfit ⊢
        rw [if_pos hfit]
      rw [hset] at hr
      have hnew : (w.setRow g (rowWith cur (n * size) news)).heap[g]? = some (.cells (rowWith cur (n * size) news) e (0, 0)) := setRow_heap w g cur _ e _ hg
      have hfin : (w.setRow g (rowWith cur (n * size) news)).heap[g]? = appendedTo w0 (.slice (some ⟨g, 0, none⟩) n cap) size n news := by
        rw [hnew]
        rcases hR.2 g rfl with e' | e'
        · unfold appendedTo
          simp only [← e', hg]
        · rw [hg] at e'
          unfold appendedTo at e' ⊢
          simp only at e' ⊢
          cases hq : w0.heap[g]? with
          | none => rw [hq] at e'; cases e'
          | some o =>
            rw [hq] at e'
            cases o <;> simp only [Option.some.injEq, reduceCtorEq, Obj.cells.injEq] at e' ⊢
            obtain ⟨rfl, rfl, rfl⟩ := e'
            exact ⟨rowWith_again _ _ _, rfl, rfl⟩
      refine ⟨_, _, hr, ⟨⟨rfl, rfl, rfl, by simp, fun k _ hk => setRow_other w g k _ (fun e => hk (by simp [Value.ownBlock, e]))⟩, fun k hk => ?_⟩, ⟨by rw [List.length_append, hown'.1, hl, Nat.add_mul], .inr ⟨g, cap, _, rfl, hbg, hnew, hroom, hcm, by rw [rowWith_size, hcs], ?_⟩⟩, .inl ⟨rfl, fun k hk => ?_⟩⟩
      · obtain rfl : g = k := Option.some.inj hk
        exact .inr hfin
      · unfold rowWith
        rw [hsize] at hfit
        rw [if_pos hfit, Nat.add_mul, ← hl]
        have : (cur.toList.take (n * size) ++ news).length = n * size + news.length := by simp; omega
        show (cur.toList.take (n * size) ++ news ++ cur.toList.drop (n * size + news.length)).take _ = _
        rw [List.take_append_of_le_length (by omega), List.take_of_length_le (by omega), htake]
      · obtain rfl : g = k := Option.some.inj hk
        exact hfin
    · obtain ⟨v', w', hr, h2, h3, h4, h5⟩ := run_append_own_at (P := P) w base t ty e i z size bytes ht hi hz hsize hby hzs hsz _ _ xs hown' a m c news hl hnews h1 h63 hbytes (by omega)
      have holds : ∀ j u, xs[j]? = some u → w.cell? ((⟨g, 0, none⟩ : Addr).add j) = some u := hown'.cells (g := g) rfl
      have hq := run_append_grow (P := P) w t ty e i z ht hi hz ⟨g, 0, none⟩ n cap xs (by rw [hsize]; exact hown'.1) holds a m c news (by rw [hsize]; exact hl) hnews (by omega) (by simp only [maxLen] at h63; omega) (growslice_fits (by omega) (by rw [hby]; exact hbytes))
      rw [hq] at hr
      obtain ⟨rfl, rfl⟩ := Result.ok.inj hr
      refine ⟨_, _, hq, ⟨h3, fun k hk => ?_⟩, h2, .inr ⟨_, rfl, hge⟩⟩
      obtain rfl : g = k := Option.some.inj hk
      exact .inl (heap_alloc_old w.drew _ (by exact (Array.getElem?_eq_some_iff.1 hg).1))

variable {ops : Array Oper} {w0 : World} {k : Nat} {ds : List Deferred} {F : Act → World → Prop} {rest : List Oper} {H : List (Tmp × Held)} {A : Act} {o : Oper}

/-- The new cells of an append are laid: its slot is hidden. -/
theorem lex_cells {d : Tmp} {row : Option Nat} {fin : Option Obj} {m : Nat} {news : List Value} (hrow : ∀ g, row = some g → g < w0.heap.size) (hw : Region.wanted o (yielded ops A.tmps) = true) (hns : ∀ cs b, o.op ≠ .select cs b) (hl : looksFree ops H o = true) (hd : o.dst = some d) (E : TypeId)
    (hr : ∀ w, (execOp A.eval o).run P w = .ok (.value (.slice (some ⟨w.heap.size, 0, none⟩) m m)) (w.alloc (.cells news.toArray E))) (h : lexAt (AppR row fin) P ops w0 k ds F rest ((d, NewCells w0 m news) :: H) A) :
    lexAt (AppR row fin) P ops w0 k ds F (o :: rest) H A := by
  refine lex_make (newCells_keeps hrow) hw hns hl hd (fun w hR => ⟨_, _, hr w, ?_, w.heap.size, m, rfl, hR.1.size, fun j u hu => ?_⟩) h
  · exact ⟨World.grownBy_alloc w _ _, fun g hg => .inl (heap_alloc_old w _ (Nat.lt_of_lt_of_le (hrow g hg) hR.1.size))⟩
  · have hadd : (⟨w.heap.size, 0, none⟩ : Addr).add j = ⟨w.heap.size, j, none⟩ := by unfold Addr.add; split <;> simp_all
    rw [hadd, World.cell?_alloc_new]
    simpa using hu

/-- An append onto the row, its new cells in a hidden slot: the answer is hidden. -/
theorem lex_app {s x d : Tmp} {t e : TypeId} {i : TypeInfo} {z : Value} {size bytes base n m : Nat} {v : Value} {xs news : List Value} (hgd : o.guard = none) (ho : o.op = .call { callee := .builtin .append, args := #[.tmp s, .tmp x], argTypes := #[t, t] }) (hd : o.dst = some d)
    (ht : P.underlying t = some (.slice e)) (hi : P.info? e = some i) (hz : i.zero = some z) (hsize : i.size = size) (hby : i.bytes = bytes) (hzs : z.cells.size = size) (hsz : 0 < size)
    (hsn : heldBy H s = none) (hs : A.eval (.tmp s) = v) (hx : heldBy H x = some (NewCells w0 m news)) (hown : w0.ownsRow base e size v n xs) (hl : news.length = m * size)
    (h1 : ∀ u ∈ news, u.oneCell' = true) (h63 : n + m ≤ maxLen) (hbytes : (n + m) * bytes ≤ 140737488355328) (hbase : base ≤ w0.heap.size)
    (h : lexAt (AppR v.ownBlock (appendedTo w0 v size n news)) P ops w0 k ds F rest ((d, AppHeld w0 base e size v.ownBlock (appendedTo w0 v size n news) (n + m) (xs ++ news)) :: H) A) :
    lexAt (AppR v.ownBlock (appendedTo w0 v size n news)) P ops w0 k ds F (o :: rest) H A := by
  refine lex_any (appHeld_keeps fun g hg => owns_lt hown hg) (fun c w hR hf => .inr ⟨?_, fun K Q' hK => ?_⟩) hd h
  · unfold Region.wanted
    rw [hgd]
  · have hes := hf s (by simp [Oper.looksAt, ho, hgd, Op.operands, Call.operands])
    have hex := hf x (by simp [Oper.looksAt, ho, hgd, Op.operands, Call.operands])
    unfold fits at hes hex
    rw [hsn] at hes
    rw [hx] at hex
    obtain ⟨p, c', hex, hp, hc⟩ := hex
    simp only at hes
    obtain ⟨v', w', hr, h2, h3⟩ := run_append_app (P := P) t o.type e i z size bytes ht hi hz hsize hby hzs hsz base w0 w v n xs hown m c' ⟨p, 0, none⟩ news hl hc h1 h63 hbytes hbase hR
    unfold Oper.wp execOp
    simp only [ho, resolve, invoke, builtin, Sem.run_bind, Sem.run_pure, Result.andThen_ok, List.map_toArray, List.map_cons, List.map_nil, hes, hs, hex, hr]
    exact hK _ _ h2 h3
end
end Go.Proofs.YtipdeiiipdnacaaGreat
namespace Go.Proofs.YtipdeiiipdnacaaGreat
open Go.RowKit Go.Maps Go.WideMaps

/-- All blocks but some are as they were. -/
structure Kept (w w' : World) (S : Nat → Prop) : Prop where
  os : w'.os = w.os
  tape : w'.tape = w.tape
  output : w'.output = w.output
  size : w.heap.size ≤ w'.heap.size
  block : ∀ k, k < w.heap.size → ¬ S k → w'.heap[k]? = w.heap[k]?
theorem Kept.of_grown {w w' : World} {row : Option Nat} {S : Nat → Prop} (h : w.grownBy w' row) (hS : ∀ k, row = some k → S k) : Kept w w' S :=
  ⟨h.os, h.tape, h.output, h.size, fun k hk hn => h.block k hk fun e => hn (hS k e.symm)⟩
theorem Kept.trans {a b c : World} {S : Nat → Prop} (h : Kept a b S) (k : Kept b c S) : Kept a c S :=
  ⟨k.os.trans h.os, k.tape.trans h.tape, k.output.trans h.output, Nat.le_trans h.size k.size, fun i hi hn => (k.block i (Nat.lt_of_lt_of_le hi h.size) hn).trans (h.block i hi hn)⟩

theorem ownsRow_kept {w w' : World} {base : Nat} {e : TypeId} {size n : Nat} {v : Value} {xs : List Value} {S : Nat → Prop} (h : w.ownsRow base e size v n xs) (k : Kept w w' S) (hS : ∀ b, v.ownBlock = some b → ¬ S b) : w'.ownsRow base e size v n xs := by
  refine ⟨h.1, ?_⟩
  rcases h.2 with h2 | ⟨g, cap, cur, rfl, h3, h4, h5⟩
  · exact .inl h2
  · refine .inr ⟨g, cap, cur, rfl, h3, ?_, h5⟩
    have hlt : g < w.heap.size := by
      rcases Nat.lt_or_ge g w.heap.size with hlt | hge
      · exact hlt
      · rw [Array.getElem?_eq_none hge] at h4; cases h4
    rw [k.block g hlt (hS g rfl)]
    exact h4

theorem Kept.refl (w : World) (S : Nat → Prop) : Kept w w S := ⟨rfl, rfl, rfl, Nat.le_refl _, fun _ _ _ => rfl⟩
theorem Kept.weaken {a b : World} {S T : Nat → Prop} (h : Kept a b S) (hs : ∀ k, S k → T k) : Kept a b T := ⟨h.os, h.tape, h.output, h.size, fun k hk hn => h.block k hk fun e => hn (hs k e)⟩
/-- New blocks alone. -/
theorem Kept.of_below {a b : World} {S : Nat → Prop} (h : Below a.heap.size a b) : Kept a b S := ⟨h.os, h.tape, h.output, h.size, fun k hk _ => h.block k hk⟩
theorem Kept.alloc (w : World) (o : Obj) (S : Nat → Prop) : Kept w (w.alloc o) S := Kept.of_below ((Below.refl _ w).alloc (Nat.le_refl _) o)
theorem Kept.below {a b : World} {S : Nat → Prop} {B : Nat} (h : Kept a b S) (hB : B ≤ a.heap.size) (hs : ∀ k, S k → B ≤ k) : Below B a b :=
  ⟨h.os, h.tape, h.output, h.size, fun k hk => h.block k (Nat.lt_of_lt_of_le hk hB) fun e => absurd (hs k e) (by omega)⟩

/-- A world turns, and with it what is held: what was not held is as it was; what is held that was not is new. -/
structure Turn (w w' : World) (F F' : Nat → Prop) : Prop where
  kept : Kept w w' F
  grow : ∀ k, F' k → F k ∨ w.heap.size ≤ k
theorem Turn.refl (w : World) (F : Nat → Prop) : Turn w w F F := ⟨Kept.refl w F, fun _ h => .inl h⟩
theorem Turn.trans {a b c : World} {F G H : Nat → Prop} (h : Turn a b F G) (k : Turn b c G H) : Turn a c F H :=
  ⟨⟨k.kept.os.trans h.kept.os, k.kept.tape.trans h.kept.tape, k.kept.output.trans h.kept.output, Nat.le_trans h.kept.size k.kept.size, fun i hi hn =>
    (k.kept.block i (Nat.lt_of_lt_of_le hi h.kept.size) fun e => (h.grow i e).elim hn (by omega)).trans (h.kept.block i hi hn)⟩,
   fun i hi => (k.grow i hi).elim (h.grow i) fun e => .inr (Nat.le_trans h.kept.size e)⟩
theorem Turn.of_kept {a b : World} {F : Nat → Prop} (h : Kept a b F) : Turn a b F F := ⟨h, fun _ h => .inl h⟩
theorem Turn.of_below {a b : World} {F : Nat → Prop} (h : Below a.heap.size a b) : Turn a b F F := Turn.of_kept (Kept.of_below h)

/-- What kind of block it is. -/
def tagOf : Obj → Option TypeId
  | .cells _ t _ => some t
  | _ => none
def tag (w : World) (k : Nat) : Option (Option TypeId) := (w.heap[k]?).map tagOf
theorem tag_blk {w : World} {g : Nat} {t : TypeId} {cs : Array Value} (h : Blk w g t cs) : tag w g = some (some t) := by
  unfold Blk at h
  unfold tag
  rw [h]
  rfl
theorem tag_row {w : World} {base : Nat} {e : TypeId} {size n : Nat} {v : Value} {xs : List Value} (h : w.ownsRow base e size v n xs) {k : Nat} (hk : v.ownBlock = some k) : tag w k = some (some e) := by
  rcases h.2 with ⟨rfl, _⟩ | ⟨g, cap, cur, rfl, _, hg, _⟩
  · cases hk
  · obtain rfl : g = k := Option.some.inj hk
    unfold tag
    rw [hg]
    rfl
theorem tag_lt {w : World} {k : Nat} {x : Option TypeId} (h : tag w k = some x) : k < w.heap.size := by
  rcases Nat.lt_or_ge k w.heap.size with hlt | hge
  · exact hlt
  · unfold tag at h
    rw [Array.getElem?_eq_none hge] at h
    cases h

theorem Blk.keptK {w w' : World} {g : Nat} {t : TypeId} {cs : Array Value} {S : Nat → Prop} (h : Blk w g t cs) (k : Kept w w' S) (hS : ¬ S g) : Blk w' g t cs := (k.block g h.lt hS).trans h

theorem Kept.then_new {a b c : World} {S : Nat → Prop} {k : Nat} (h : Kept a b S) (g : b.grownBy c (some k)) (hk : a.heap.size ≤ k) : Kept a c S :=
  ⟨g.os.trans h.os, g.tape.trans h.tape, g.output.trans h.output, Nat.le_trans h.size g.size, fun i hi hn => (g.block i (Nat.lt_of_lt_of_le hi h.size) (fun e => by have := Option.some.inj e; omega)).trans (h.block i hi hn)⟩
theorem Kept.cell {a b : World} {S : Nat → Prop} (h : Kept a b S) {p : Addr} {v : Value} (hp : a.cell? p = some v) (hS : ¬ S p.block) : b.cell? p = some v :=
  (World.cell?_of_block (h.block p.block (World.block_lt_of_cell? _ _ hp) hS)).trans hp
theorem ownsMap_kept {H : Type} {P : Program} {k : TypeId} {R : Value → Option (DataW H × List MemPlace)} {w w' : World} {b n : Nat} {D : DataW H} {S : Nat → Prop} (h : w.ownsMap P k R b n D) (hk : Kept w w' S) (hS : ¬ S b) : w'.ownsMap P k R b n D := by
  have hlt := World.ownsMap.lt h
  obtain ⟨es, clock, hb, F, hs, hD⟩ := h
  exact ⟨es, clock, (hk.block b hlt hS).trans hb, F, hs, hD⟩
theorem tag_map {H : Type} {P : Program} {k : TypeId} {R : Value → Option (DataW H × List MemPlace)} {w : World} {b n : Nat} {D : DataW H} (h : w.ownsMap P k R b n D) : tag w b = some none := by
  obtain ⟨es, clock, hb, _⟩ := h
  unfold tag
  rw [hb]
  rfl
end Go.Proofs.YtipdeiiipdnacaaGreat
namespace Go.Proofs.YtipdeiiipdnacaaGreat
open Go.RowKit
attribute [local go_sem] bs_toList bs_size

/-- The labels that bytes begin with, as far as they can be read. -/
def ofLoop : Nat → List UInt8 → Option (List Lb)
  | k, s => if s = [] then some [] else match k with
    | 0 => none
    | k + 1 => match Num.getText s 48 with
      | none => none
      | some (a, i) => match Num.getText (s.drop i) 48 with
        | none => none
        | some (b, j) => (ofLoop k ((s.drop i).drop j)).map ((a, b) :: ·)
/-- The labels that a key tells. -/
def ofB (key : List UInt8) : Option (List Lb) := match ofLoop key.length key with
  | none => none
  | some L => if checkE L = 0 then some L else none
def lbCells (L : List Lb) : List Value := L.flatMap fun x => [.string (bs x.1), .string (bs x.2)]
theorem lbCells_len (L : List Lb) : (lbCells L).length = L.length * 2 := by
  induction L with
  | nil => rfl
  | cons x l ih => unfold lbCells at *; simp only [List.flatMap_cons, List.length_append, List.length_cons, List.length_nil, ih]; omega
theorem lbCells_at : ∀ (L : List Lb) (i : Nat) x, L[i]? = some x → (lbCells L)[i * 2]? = some (.string (bs x.1)) ∧ (lbCells L)[i * 2 + 1]? = some (.string (bs x.2))
  | [], i, x, h => by simp at h
  | y :: l, 0, x, h => by
    obtain rfl : y = x := by simpa using h
    exact ⟨rfl, rfl⟩
  | y :: l, i + 1, x, h => by
    have ih := lbCells_at l i x (by simpa using h)
    have e : lbCells (y :: l) = .string (bs y.1) :: .string (bs y.2) :: lbCells l := rfl
    rw [e, show (i + 1) * 2 = i * 2 + 1 + 1 by omega]
    exact ih
theorem addr_add (g j : Nat) : (⟨g, 0, none⟩ : Addr).add j = ⟨g, j, none⟩ := by unfold Addr.add; split <;> simp_all
theorem cells_list_new (w : World) (xs : List Value) (t : TypeId) : ∀ j u, xs[j]? = some u → (w.alloc (.cells xs.toArray t)).cell? ((⟨w.heap.size, 0, none⟩ : Addr).add j) = some u := fun j u h => by
  rw [addr_add, World.cell?_alloc_new]
  simpa using h
theorem labsAt_row {w : World} {B : Nat} {v : Value} {L : List Lb} (h : w.ownsRow B 53 2 v L.length (lbCells L)) (hn : L.length ≤ 1048576) (hl : ∀ x ∈ L, x.1.length ≤ 1048576 ∧ x.2.length ≤ 1048576) : LabsAt w v L := by
  have hcells : ∀ g, v.ownBlock = some g → ∀ j u, (lbCells L)[j]? = some u → w.cell? ((⟨g, 0, none⟩ : Addr).add j) = some u := fun g hg => h.cells (g := g) hg
  rcases h.2 with ⟨e, e0⟩ | ⟨g, cap, cur, e, e1, e2, e3⟩
  · refine ⟨none, 0, by rw [e, e0], hn, fun i x hx => ?_⟩
    rw [List.length_eq_zero_iff.1 e0] at hx
    simp at hx
  · refine ⟨some ⟨g, 0, none⟩, cap, e, hn, fun i x hx => ?_⟩
    obtain ⟨h1, h2⟩ := hl x (List.mem_of_getElem? hx)
    obtain ⟨h3, h4⟩ := lbCells_at L i x hx
    refine ⟨h1, h2, g, 0, rfl, ?_, ?_⟩
    · have := hcells g (by rw [e]; rfl) _ _ h3
      rw [addr_add] at this
      rw [Nat.zero_add]
      exact this
    · have := hcells g (by rw [e]; rfl) _ _ h4
      rw [addr_add] at this
      rw [Nat.zero_add]
      exact this

def tT (c : List UInt8 × Bool) (n : Int) : List UInt8 := if c.2 then [] else gsval (Num.getText c.1 n)
def nT (c : List UInt8 × Bool) (n : Int) : List UInt8 × Bool := Num.nxt c (Num.getText c.1 n)
theorem CT (g : Nat) (c : List UInt8 × Bool) (n : Int) (w : World) (hB : Cur w g c.1 c.2) (hs : c.1.length ≤ 1099511627776) (h1 : -9223372036854775808 ≤ n) (h2 : n ≤ 9223372036854775807) :
    Calls Tryz.prog 59 #[.pointer (some ⟨g, 0, none⟩), .int .i64 n] w fun e w' => e = .returned (.string (bs (tT c n))) ∧ Cur w' g (nT c n).1 (nT c n).2 ∧ w.grownBy w' (some g) := CText g c.1 c.2 n w hB hs h1 h2
theorem getText_bd (l : List UInt8) (m : Int) (t : List UInt8) (k : Nat) (h : Num.getText l m = some (t, k)) : (t.length : Int) ≤ m ∧ 1 + t.length ≤ k ∧ k ≤ l.length := by
  unfold Num.getText at h
  cases hs : Num.getSmall l with
  | none => rw [hs] at h; cases h
  | some x =>
    obtain ⟨n, i⟩ := x
    obtain ⟨_, b1, b2, b3⟩ := getSmall_bd l n i hs
    rw [hs] at h
    simp only at h
    split at h
    · cases h
    · rename_i hc
      obtain ⟨rfl, rfl⟩ := Prod.mk.inj (Option.some.inj h)
      rw [List.length_take, List.length_drop]
      omega
/-- One label of a key. -/
theorem of_step (k : Nat) (s : List UInt8) (hs : s ≠ []) (hk : s.length ≤ k) :
    let c1 := nT (s, false) 48
    let c2 := nT c1 48
    let a := tT (s, false) 48
    let b := tT c1 48
    c1.1.length ≤ s.length ∧ c2.1.length ≤ s.length ∧ a.length ≤ 48 ∧ b.length ≤ 48 ∧ c2.1.length * 2 + (if c2.2 then 0 else 1) < s.length * 2 + 1 ∧ (c2.2 = true → ofLoop k s = none) ∧
      (c2.2 = false → c2.1.length + 1 ≤ s.length ∧ c2.1.length ≤ k - 1 ∧ ofLoop k s = (ofLoop (k - 1) c2.1).map ((a, b) :: ·)) := by
  intro c1 c2 a b
  have hpos : 0 < s.length := List.length_pos_iff.2 hs
  obtain ⟨k, rfl⟩ : ∃ m, k = m + 1 := ⟨k - 1, by omega⟩
  have hO : ofLoop (k + 1) s = match Num.getText s 48 with
      | none => none
      | some (a, i) => match Num.getText (s.drop i) 48 with
        | none => none
        | some (b, j) => (ofLoop k ((s.drop i).drop j)).map ((a, b) :: ·) := by
    conv => lhs; unfold ofLoop
    rw [if_neg hs]
  cases h1 : Num.getText s 48 with
  | none =>
    have e1 : c1 = (s, true) := by show nT (s, false) 48 = _; unfold nT; rw [h1]; rfl
    have e2 : c2 = (s, true) := by show nT c1 48 = _; rw [e1]; rfl
    have ea : a = [] := by show tT (s, false) 48 = _; unfold tT; rw [h1]; rfl
    have eb : b = [] := by show tT c1 48 = _; rw [e1]; rfl
    rw [h1] at hO
    rw [e1, e2, ea, eb]
    exact ⟨Nat.le_refl _, Nat.le_refl _, by simp, by simp, by simp, fun _ => hO, fun h => by cases h⟩
  | some x =>
    obtain ⟨a', i⟩ := x
    obtain ⟨b1, b2, b3⟩ := getText_bd _ _ _ _ h1
    have e1 : c1 = (s.drop i, false) := by show nT (s, false) 48 = _; unfold nT; rw [h1]; rfl
    have ea : a = a' := by show tT (s, false) 48 = _; unfold tT; rw [h1]; rfl
    rw [h1] at hO
    simp only at hO
    cases h2 : Num.getText (s.drop i) 48 with
    | none =>
      have e2 : c2 = (s.drop i, true) := by show nT c1 48 = _; rw [e1]; unfold nT; rw [h2]; rfl
      have eb : b = [] := by show tT c1 48 = _; rw [e1]; unfold tT; rw [h2]; rfl
      rw [h2] at hO
      rw [e1, e2, ea, eb]
      have : (s.drop i).length = s.length - i := List.length_drop
      exact ⟨by simp, by simp, by omega, by simp, by simp only [if_true]; omega, fun _ => hO, fun h => by cases h⟩
    | some y =>
      obtain ⟨b', j⟩ := y
      obtain ⟨d1, d2, d3⟩ := getText_bd _ _ _ _ h2
      have e2 : c2 = ((s.drop i).drop j, false) := by show nT c1 48 = _; rw [e1]; unfold nT; rw [h2]; rfl
      have eb : b = b' := by show tT c1 48 = _; rw [e1]; unfold tT; rw [h2]; rfl
      rw [h2] at hO
      rw [e1, e2, ea, eb]
      have l1 : (s.drop i).length = s.length - i := List.length_drop
      have l2 : ((s.drop i).drop j).length = (s.drop i).length - j := List.length_drop
      simp only
      exact ⟨by omega, by omega, by omega, by omega, by simp only [Bool.false_eq_true, if_false]; omega, (fun h => by cases h), fun _ => ⟨by omega, by omega, hO⟩⟩

/-- Labels in a block of labels. -/
def LabsOwn (w : World) (v : Value) (L : List Lb) : Prop := LabsAt w v L ∧ ∀ b, v.ownBlock = some b → tag w b = some (some 53)
theorem tag_kept {w w' : World} {S : Nat → Prop} {b : Nat} {x : Option TypeId} (h : tag w b = some x) (hk : Kept w w' S) (hS : ¬ S b) : tag w' b = some x := by
  have hlt := tag_lt h
  unfold tag at *
  rw [hk.block b hlt hS]
  exact h
theorem LabsOwn.kept {w w' : World} {S : Nat → Prop} {v : Value} {L : List Lb} (h : LabsOwn w v L) (hk : Kept w w' S) (hS : ∀ b, tag w b = some (some 53) → ¬ S b) : LabsOwn w' v L := by
  obtain ⟨⟨a, c, rfl, h2, h3⟩, h4⟩ := h
  refine ⟨⟨a, c, rfl, h2, fun i x hx => ?_⟩, fun b hb => tag_kept (h4 b hb) hk (hS b (h4 b hb))⟩
  obtain ⟨h5, h6, b, o, rfl, h7, h8⟩ := h3 i x hx
  have hb := hS b (h4 b rfl)
  exact ⟨h5, h6, b, o, rfl, hk.cell h7 hb, hk.cell h8 hb⟩
theorem LabsOwn.below {w w' : World} {v : Value} {L : List Lb} (h : LabsOwn w v L) (hb : Below w.heap.size w w') : LabsOwn w' v L := h.kept (Kept.of_below (S := fun _ => False) hb) fun _ _ e => e
theorem labsOwn_row {w : World} {B : Nat} {v : Value} {L : List Lb} (h : w.ownsRow B 53 2 v L.length (lbCells L)) (hn : L.length ≤ 1048576) (hl : ∀ x ∈ L, x.1.length ≤ 1048576 ∧ x.2.length ≤ 1048576) : LabsOwn w v L := ⟨labsAt_row h hn hl, fun _ hb => tag_row h hb⟩
def OfIs (key : List UInt8) (e : Ending) (w' : World) : Prop := match ofB key with
  | none => e = .returned (.tuple #[.slice none 0 0, .bool false])
  | some L => ∃ v, e = .returned (.tuple #[v, .bool true]) ∧ LabsOwn w' v L
set_option maxRecDepth 100000 in
set_option maxHeartbeats 2000000 in
theorem LOf_any (key : List UInt8) (w : World) (hl : key.length ≤ 1000000) :
    Calls Tryz.prog 58 #[.string (bs key)] w fun e w' => OfIs key e w' ∧ Below w.heap.size w w' := by
  have k0 : Cur (w.alloc (.cells #[.string (bs key), .bool false] 120)) w.heap.size key false := Blk.new _ _ _
  have b0 := one_alloc w (.cells #[.string (bs key), .bool false] 120)
  have HN : ofLoop key.length key = none → ofB key = none := fun e => by unfold ofB; rw [e]
  have HS : ∀ L, ofLoop key.length key = some L → ofB key = if checkE L = 0 then some L else none := fun L e => by unfold ofB; rw [e]
  have HF : ∀ w', ofB key = none → OfIs key (.returned (.tuple #[.slice none 0 0, .bool false])) w' := fun w' e => by unfold OfIs; rw [e]
  have HT : ∀ w' L v, ofB key = some L → LabsOwn w' v L → OfIs key (.returned (.tuple #[v, .bool true])) w' := fun w' L v e h => by unfold OfIs; rw [e]; exact ⟨v, rfl, h⟩
  have HN := Lib.hid HN
  have HS := Lib.hid HS
  have HF := Lib.hid HF
  have HT := Lib.hid HT
  generalize hG : w.heap.size = G at *
  go_enter Tryz.func58, Tryz.ntmps58
  go_wp2_with fail
  go_loopw [5] (fun vl wr => ∃ (s : List UInt8) (bad : Bool) (L : List Lb), wr.ownsRow G 53 2 vl L.length (lbCells L) ∧ vl.ownBlock ≠ some G ∧ Cur wr G s bad ∧ Below G w wr ∧ s.length + L.length ≤ key.length + (if bad then 1 else 0) ∧ s.length ≤ key.length ∧ (bad = true → ofLoop key.length key = none) ∧ (bad = false → ∃ k, s.length ≤ k ∧ ofLoop key.length key = (ofLoop k s).map (L ++ ·)) ∧ ∀ x ∈ L, x.1.length ≤ 48 ∧ x.2.length ≤ 48)
    (fun _ wr => match wr.cell? ⟨G, 0, none⟩, wr.cell? ⟨G, 1, none⟩ with
      | some (.string s), some (.bool bad) => s.size * 2 + (if bad then 0 else 1)
      | _, _ => 0)
  case atStart => exact ⟨key, false, [], World.ownsRow_nil _ _ _ _, by simp [Value.ownBlock], k0, b0, by simp, by simp, by simp, fun _ => ⟨key.length, Nat.le_refl _, by cases ofLoop key.length key <;> simp⟩, by simp⟩
  clear k0 b0
  obtain ⟨s, bad, L, hown, hne, hC, hb, hsl, hsk, hbad, hgood, hL⟩ := hrel
  have c0 := hC.c0
  have c1 := hC.c1
  cases bad with
  | true =>
    have HE := Lib.hid (HF.out wr (HN.out (hbad rfl)))
    clear hbad hgood HN HS HF HT
    go_wp2_with fail
    go_ret2
    exact ⟨HE.out, hb⟩
  | false =>
    obtain ⟨k, hk, hof⟩ := hgood rfl
    simp only [Bool.false_eq_true, if_false, Nat.add_zero] at hsl
    clear hbad hgood
    by_cases hs : s = []
    · subst hs
      have HE := Lib.hid (HS.out L (by rw [hof]; unfold ofLoop; simp))
      have q := Lib.hid (Check_any L u5 wr (labsAt_row hown (by simp at hsl; omega) (fun x hx => by have := hL x hx; omega)))
      clear HN HS hof
      go_wp2_with fail
      refine q.out.mono ?_
      rintro e w1 ⟨rfl, hb1⟩
      by_cases hc : checkE L = 0
      · have h1 := HE.out
        rw [if_pos hc] at h1
        rw [hc]
        have HE := Lib.hid (HT.out w1 L u5 h1 ((labsOwn_row hown (by simp at hsl; omega) (fun x hx => by have := hL x hx; omega)).below hb1))
        clear h1 HF HT q
        go_wp2_with fail
        go_ret2
        exact ⟨HE.out, hb.trans (hb1.mono (by rw [← hG]; exact hb.size))⟩
      · have h1 := HE.out
        rw [if_neg hc] at h1
        have HE := Lib.hid (HF.out w1 h1)
        have hz : (checkE L == 0) = false := by simpa using hc
        clear h1 HF HT q
        go_wp2_with fail
        go_ret2
        exact ⟨HE.out, hb.trans (hb1.mono (by rw [← hG]; exact hb.size))⟩
    · have hse : s.isEmpty = false := by simpa using hs
      obtain ⟨f1, f2, f3, f4, f5, f6, f7⟩ := of_step k s hs hk
      have q1 := Lib.hid (CT G (s, false) 48 wr hC (by simp only; omega) (by omega) (by omega))
      have q2 := Lib.hid (fun W h => CT G (nT (s, false) 48) 48 W h (by omega) (by omega) (by omega))
      clear HN HS HF HT
      generalize tT (s, false) 48 = a at *
      generalize nT (s, false) 48 = x1 at *
      generalize tT x1 48 = b at *
      generalize nT x1 48 = x2 at *
      clear hk
      go_wp2_with fail
      refine q1.out.mono ?_
      rintro e w1 ⟨rfl, hC1, hg1⟩
      go_wp2_with fail
      refine (q2.out _ hC1).mono ?_
      rintro e w2 ⟨rfl, hC2, hg2⟩
      have ⟨i0, hi, hz0, hz1, hz2⟩ := info_parts (show (Tryz.prog.info? 53).map (fun i => (i.zero, i.size, i.bytes)) = some (some (.agg #[.string ⟨#[]⟩, .string ⟨#[]⟩]), 2, 32) by kernel_rfl)
      have hk2 := fun k hk => hg2.block k (Nat.lt_of_lt_of_le (owns_lt hown hk) hg1.size) (fun e => hne (hk.trans e))
      have hk1 := fun k hk => hg1.block k (owns_lt hown hk) (fun e => hne (hk.trans e))
      have hown2 := owns_same hown (fun k hk => (hk2 k hk).trans (hk1 k hk))
      have hgg := grown_trans' hg1 hg2
      have hb2 : Below G w w2 := hb.grown hgg (by rw [← hG]; exact hb.size) (fun k hk => by cases hk; exact Nat.le_refl _)
      have hGs : G ≤ w2.heap.size := by rw [← hG]; exact hb2.size
      have hGl : G < w2.heap.size := Blk.lt hC2
      clear hk2 hk1 q1 q2 hg1 hg2 hgg hC1 c0 c1 hown hb
      go_wp2_with (at_builtin; refine (wpList_append_own_at _ rfl _ _ 48 rfl G 53 i0 (.agg #[.string ⟨#[]⟩, .string ⟨#[]⟩]) 2 32 Tryz.underlying48 hi hz0 hz1 hz2 rfl (by decide) _ _ _ rfl (World.ownsRow.alloc hown2 _) ⟨_, 0, none⟩ 1 1 [.string (bs a), .string (bs b)] rfl rfl (cells_list_new _ _ _) (by simp [Value.oneCell']) (by unfold maxLen; omega) (by omega) (by simp; omega) ?_); intro v' w5 hown' hgrow hnil hloc)
      have hC3 : Cur w5 G x2.1 x2.2 := Cur.grown (Blk.below hC2 (one_alloc w2 _) hGl) hgrow (fun e => hne e.symm)
      have hb3 : Below G w w5 := (hb2.alloc hGs _).grown hgrow (by simp; omega) (fun k hk => (hown2.lt k hk).1)
      have hne3 : v'.ownBlock ≠ some G := by
        rcases hloc with e | e
        · rw [e]; exact hne
        · rw [e]; intro e2; have := Option.some.inj e2; simp at this; omega
      have hL3 : w5.ownsRow G 53 2 v' (L ++ [(a, b)]).length (lbCells (L ++ [(a, b)])) := by
        have e : lbCells (L ++ [(a, b)]) = lbCells L ++ [.string (bs a), .string (bs b)] := by unfold lbCells; rw [List.flatMap_append]; simp
        rw [e, List.length_append]
        exact hown'
      have d0 := hC.c0
      have d1 := hC.c1
      have d2 := hC3.c0
      have d3 := hC3.c1
      clear hown' hgrow hnil hloc hown2 hC2 hb2 i0 hi hz0 hz1 hz2 hne
      go_roundw
      case rel =>
        refine ⟨x2.1, x2.2, L ++ [(a, b)], hL3, hne3, hC3, hb3, ?_, by omega, fun e => ?_, fun e => ?_, fun x hx => ?_⟩
        · rw [List.length_append]
          cases hx2 : x2.2 with
          | true => simp only [if_true, List.length_cons, List.length_nil]; omega
          | false => have := (f7 hx2).1; simp only [List.length_cons, List.length_nil]; omega
        · rw [hof, f6 e]; rfl
        · obtain ⟨g1, g2, g3⟩ := f7 e
          refine ⟨k - 1, g2, ?_⟩
          rw [hof, g3]
          cases ofLoop (k - 1) x2.1 <;> simp
        · rcases List.mem_append.1 hx with h | h
          · exact hL x h
          · simp only [List.mem_cons, List.not_mem_nil, or_false] at h
            subst h
            exact ⟨f3, f4⟩
      case measure =>
        rw [d0, d1, d2, d3]
        simp only [bs_size]
        simpa using f5
end Go.Proofs.YtipdeiiipdnacaaGreat
namespace Go.Proofs.YtipdeiiipdnacaaGreat
open Go.RowKit
attribute [local go_sem] bs_toList bs_size

/-- A change. -/
structure Rc where
  kind : Int
  labels : List Lb
  t : Int
  u : Int
  v : Nat
def Rc.ok (x : Rc) : Prop := -9223372036854775808 ≤ x.kind ∧ x.kind ≤ 9223372036854775807 ∧ -9223372036854775808 ≤ x.t ∧ x.t ≤ 9223372036854775807 ∧ -9223372036854775808 ≤ x.u ∧ x.u ≤ 9223372036854775807 ∧ x.v < 18446744073709551616
def recCells (x : Rc) (sl : Value) : List Value := [.int .i64 x.kind, sl, .int .i64 x.t, .int .i64 x.u, .int .u64 (x.v : Int)]
def recV (x : Rc) (sl : Value) : Value := .agg #[.int .i64 x.kind, sl, .int .i64 x.t, .int .i64 x.u, .int .u64 (x.v : Int)]
def timelyB (t : Int) : Bool := decide (0 ≤ t) && decide (t ≤ 1125899906842624)
/-- May a change be? -/
def rightB (x : Rc) : Bool :=
  if x.kind = 0 then decide (checkE x.labels = 0) && (timelyB x.t && decide (x.u = 0))
  else if x.kind = 1 then decide (checkE x.labels = 0) && (decide (x.t ≤ x.u) && decide (x.v = 0))
  else if x.kind = 2 then decide (x.labels.length = 0) && (timelyB x.t && (decide (x.u = 0) && decide (x.v = 0)))
  else false
def validE (x : Rc) (g : Int) : Int := if rightB x = false then 1 else if limitG g < (longestB x.labels : Int) then 3 else 0

set_option maxRecDepth 100000 in
theorem timely_any (t : Int) (w : World) : Calls Tryz.prog 29 #[.int .i64 t] w fun e w' => e = .returned (.bool (timelyB t)) ∧ w = w' := by
  by_cases h : 0 ≤ t
  · have hd : decide (0 ≤ t) = true := by simpa using h
    have hb : timelyB t = decide (t ≤ 1125899906842624) := by unfold timelyB; rw [hd]; rfl
    rw [hb]
    clear hb
    go_enter Tryz.func29, Tryz.ntmps29
    go_wp2
    go_ret
    exact ⟨rfl, rfl⟩
  · have hd : decide (0 ≤ t) = false := by simpa using h
    have hb : timelyB t = false := by unfold timelyB; rw [hd]; rfl
    rw [hb]
    clear hb
    go_enter Tryz.func29, Tryz.ntmps29
    go_wp2
    go_ret
    exact ⟨rfl, rfl⟩
def knownB (g : Int) : Bool := decide (1 ≤ g) && decide (g ≤ 3)
set_option maxRecDepth 100000 in
theorem known_any (t : Int) (w : World) : Calls Tryz.prog 22 #[.int .i64 t] w fun e w' => e = .returned (.bool (knownB t)) ∧ w = w' := by
  by_cases h : 1 ≤ t
  · have hd : decide (1 ≤ t) = true := by simpa using h
    have hb : knownB t = decide (t ≤ 3) := by unfold knownB; rw [hd]; rfl
    rw [hb]
    clear hb
    go_enter Tryz.func22, Tryz.ntmps22
    go_wp2
    go_ret
    exact ⟨rfl, rfl⟩
  · have hd : decide (1 ≤ t) = false := by simpa using h
    have hb : knownB t = false := by unfold knownB; rw [hd]; rfl
    rw [hb]
    clear hb
    go_enter Tryz.func22, Tryz.ntmps22
    go_wp2
    go_ret
    exact ⟨rfl, rfl⟩

set_option maxRecDepth 100000 in
set_option maxHeartbeats 4000000 in
theorem Valid_any (x : Rc) (sl : Value) (g : Int) (w : World) (hx : x.ok) (hL : LabsAt w sl x.labels) (h1 : -9223372036854775808 ≤ g) (h2 : g ≤ 9223372036854775807) :
    Calls Tryz.prog 23 #[recV x sl, .int .i64 g] w fun e w' => e = .returned (.int .i64 (validE x g)) ∧ Below w.heap.size w w' := by
  obtain ⟨k, L, t, u, v⟩ := x
  obtain ⟨x1, x2, x3, x4, x5, x6, x7⟩ := hx
  simp only at x1 x2 x3 x4 x5 x6 x7 hL
  rw [show recV ⟨k, L, t, u, v⟩ sl = .agg #[.int .i64 k, sl, .int .i64 t, .int .i64 u, .int .u64 (v : Int)] from rfl]
  have hb0 := one_alloc w (.cells #[.int .i64 k, sl, .int .i64 t, .int .i64 u, .int .u64 (v : Int)] 51)
  have hk0 : Blk (w.alloc (.cells #[.int .i64 k, sl, .int .i64 t, .int .i64 u, .int .u64 (v : Int)] 51)) w.heap.size 51 #[.int .i64 k, sl, .int .i64 t, .int .i64 u, .int .u64 (v : Int)] := Blk.new _ _ _
  generalize hW0 : w.alloc (.cells #[.int .i64 k, sl, .int .i64 t, .int .i64 u, .int .u64 (v : Int)] 51) = W0 at *
  have hC := fun (W : World) (hb : Below W0.heap.size W0 W) =>
    (show W.cell? ⟨w.heap.size, 0, none⟩ = some (.int .i64 k) ∧ W.cell? ⟨w.heap.size, 1, none⟩ = some sl ∧ W.cell? ⟨w.heap.size, 2, none⟩ = some (.int .i64 t) ∧ W.cell? ⟨w.heap.size, 3, none⟩ = some (.int .i64 u) ∧ W.cell? ⟨w.heap.size, 4, none⟩ = some (.int .u64 (v : Int)) ∧ LabsAt W sl L ∧ Below w.heap.size w W from
      ⟨((Blk.below hk0 hb hk0.lt).cell 0).trans rfl, ((Blk.below hk0 hb hk0.lt).cell 1).trans rfl, ((Blk.below hk0 hb hk0.lt).cell 2).trans rfl, ((Blk.below hk0 hb hk0.lt).cell 3).trans rfl, ((Blk.below hk0 hb hk0.lt).cell 4).trans rfl, (hL.below hb0).below hb, hb0.trans (hb.mono hb0.size)⟩)
  have qC := Lib.hid (fun (W : World) (hb : Below W0.heap.size W0 W) => (Check_any L sl W (hC W hb).2.2.2.2.2.1).mono fun e w' ⟨h1, h2⟩ => (show e = Ending.returned (.int .i64 (checkE L)) ∧ Below W0.heap.size W0 w' from ⟨h1, hb.trans (h2.mono hb.size)⟩))
  have qL := Lib.hid (fun (W : World) (hb : Below W0.heap.size W0 W) => (Longest_any L sl W (hC W hb).2.2.2.2.2.1).mono fun e w' ⟨h1, h2⟩ => (show e = Ending.returned (.int .i64 (longestB L : Int)) ∧ Below W0.heap.size W0 w' from ⟨h1, hb.trans (h2.mono hb.size)⟩))
  have qM := Lib.hid (fun (W : World) => Limit_any g W h1 h2)
  have qT := Lib.hid (fun (W : World) => timely_any t W)
  have HC := Lib.hid hC
  have HE1 := Lib.hid (show rightB ⟨k, L, t, u, v⟩ = false → validE ⟨k, L, t, u, v⟩ g = 1 from fun e => by unfold validE; rw [if_pos e])
  have HE2 := Lib.hid (show rightB ⟨k, L, t, u, v⟩ = true → validE ⟨k, L, t, u, v⟩ g = if limitG g < (longestB L : Int) then 3 else 0 from fun e => by unfold validE; rw [e]; rfl)
  obtain ⟨c0, c1, c2, c3, c4, _, hB⟩ := HC.out W0 (Below.refl _ _)
  obtain ⟨sa, sc, rfl, hln, _⟩ := hL
  clear hC hb0 hk0
  have HR := Lib.hid (show rightB ⟨k, L, t, u, v⟩ = if k = 0 then decide (checkE L = 0) && (timelyB t && decide (u = 0))
    else if k = 1 then decide (checkE L = 0) && (decide (t ≤ u) && decide (v = 0))
    else if k = 2 then decide (L.length = 0) && (timelyB t && (decide (u = 0) && decide (v = 0)))
    else false from rfl)
  rw [show decide (v = 0) = decide ((v : Int) = 0) from decide_eq_decide.2 (by omega)] at HR
  generalize rightB ⟨k, L, t, u, v⟩ = R at *
  generalize validE ⟨k, L, t, u, v⟩ g = V at *
  have hv0 : 0 ≤ (v : Int) := by omega
  have hv1 : (v : Int) < 18446744073709551616 := by omega
  clear x7
  generalize (v : Int) = v at *
  generalize checkE L = ce at *
  generalize timelyB t = tb at *
  generalize longestB L = lo at *
  generalize limitG g = lm at *
  go_enter Tryz.func23, Tryz.ntmps23
  have hR := HR.out
  have HC0 := HC.out W0 (Below.refl _ _)
  clear HR HC0
  by_cases k0 : k = 0
  · subst k0
    rw [if_pos rfl] at hR
    by_cases hce : ce = 0
    · subst hce
      cases tb with
      | false =>
        have HR := Lib.hid (show R = false by rw [hR]; simp)
        clear hR
        go_wp2_with fail
        refine (qC.out _ (Below.refl _ _)).mono ?_
        rintro e w1 ⟨rfl, hb1⟩
        obtain ⟨d0, d1, d2, d3, d4, _, hB1⟩ := HC.out w1 hb1
        clear qC c0 c1 c2 c3 c4
        go_wp2_with fail
        refine (qT.out _).mono ?_
        rintro e _ ⟨rfl, rfl⟩
        clear HE2 qL qM
        go_wp2
        go_ret
        exact ⟨by rw [HE1.out HR.out]; rfl, hB1⟩
      | true =>
        by_cases hu : u = 0
        · subst hu
          have HR := Lib.hid (show R = true by rw [hR]; simp)
          clear hR
          go_wp2_with fail
          refine (qC.out _ (Below.refl _ _)).mono ?_
          rintro e w1 ⟨rfl, hb1⟩
          obtain ⟨d0, d1, d2, d3, d4, _, hB1⟩ := HC.out w1 hb1
          clear qC c0 c1 c2 c3 c4
          go_wp2_with fail
          refine (qT.out _).mono ?_
          rintro e _ ⟨rfl, rfl⟩
          have hE := HE2.out HR.out
          go_wp2_with fail
          refine (qL.out _ hb1).mono ?_
          rintro e w2 ⟨rfl, hb2⟩
          obtain ⟨_, _, _, _, _, _, hB2⟩ := HC.out w2 hb2
          clear HC
          go_wp2_with fail
          refine (qM.out _).mono ?_
          rintro e _ ⟨rfl, rfl⟩
          by_cases hlm : lm < (lo : Int)
          · have hd : decide (lm < (lo : Int)) = true := by simpa using hlm
            rw [if_pos hlm] at hE
            have hE := Lib.hid hE
            clear HE1 HE2
            go_wp2
            go_ret
            exact ⟨by rw [hE.out]; rfl, hB2⟩
          · have hd : decide (lm < (lo : Int)) = false := by simpa using hlm
            rw [if_neg hlm] at hE
            have hE := Lib.hid hE
            clear HE1 HE2
            go_wp2
            go_ret
            exact ⟨by rw [hE.out]; rfl, hB2⟩
        · have hz : (u == 0) = false := by simpa using hu
          have HR := Lib.hid (show R = false by rw [hR]; simp [hu])
          clear hR hu
          go_wp2_with fail
          refine (qC.out _ (Below.refl _ _)).mono ?_
          rintro e w1 ⟨rfl, hb1⟩
          obtain ⟨d0, d1, d2, d3, d4, _, hB1⟩ := HC.out w1 hb1
          clear qC c0 c1 c2 c3 c4
          go_wp2_with fail
          refine (qT.out _).mono ?_
          rintro e _ ⟨rfl, rfl⟩
          clear HE2 qL qM
          go_wp2
          go_ret
          exact ⟨by rw [HE1.out HR.out]; rfl, hB1⟩
    · have hz : (ce == 0) = false := by simpa using hce
      have HR := Lib.hid (show R = false by rw [hR]; simp [hce])
      clear hR hce qT
      go_wp2_with fail
      refine (qC.out _ (Below.refl _ _)).mono ?_
      rintro e w1 ⟨rfl, hb1⟩
      obtain ⟨d0, d1, d2, d3, d4, _, hB1⟩ := HC.out w1 hb1
      clear qC c0 c1 c2 c3 c4
      clear HE2 qL qM
      go_wp2
      go_ret
      exact ⟨by rw [HE1.out HR.out]; rfl, hB1⟩
  rw [if_neg k0] at hR
  have hk0 : (k == 0) = false := by simpa using k0
  clear k0
  by_cases k1 : k = 1
  · subst k1
    rw [if_pos rfl] at hR
    by_cases hce : ce = 0
    · subst hce
      by_cases htu : t ≤ u
      · have hd : decide (t ≤ u) = true := by simpa using htu
        by_cases hv : v = 0
        · subst hv
          have HR := Lib.hid (show R = true by rw [hR]; simp [htu])
          clear hR qT
          go_wp2_with fail
          refine (qC.out _ (Below.refl _ _)).mono ?_
          rintro e w1 ⟨rfl, hb1⟩
          obtain ⟨d0, d1, d2, d3, d4, _, hB1⟩ := HC.out w1 hb1
          clear qC c0 c1 c2 c3 c4
          have hE := HE2.out HR.out
          go_wp2_with fail
          refine (qL.out _ hb1).mono ?_
          rintro e w2 ⟨rfl, hb2⟩
          obtain ⟨_, _, _, _, _, _, hB2⟩ := HC.out w2 hb2
          clear HC
          go_wp2_with fail
          refine (qM.out _).mono ?_
          rintro e _ ⟨rfl, rfl⟩
          by_cases hlm : lm < (lo : Int)
          · have hd : decide (lm < (lo : Int)) = true := by simpa using hlm
            rw [if_pos hlm] at hE
            have hE := Lib.hid hE
            clear HE1 HE2
            go_wp2
            go_ret
            exact ⟨by rw [hE.out]; rfl, hB2⟩
          · have hd : decide (lm < (lo : Int)) = false := by simpa using hlm
            rw [if_neg hlm] at hE
            have hE := Lib.hid hE
            clear HE1 HE2
            go_wp2
            go_ret
            exact ⟨by rw [hE.out]; rfl, hB2⟩
        · have hz : (v == 0) = false := by simpa using hv
          have HR := Lib.hid (show R = false by rw [hR]; simp [hv])
          clear hR hv qT
          go_wp2_with fail
          refine (qC.out _ (Below.refl _ _)).mono ?_
          rintro e w1 ⟨rfl, hb1⟩
          obtain ⟨d0, d1, d2, d3, d4, _, hB1⟩ := HC.out w1 hb1
          clear qC c0 c1 c2 c3 c4
          clear HE2 qL qM
          go_wp2
          go_ret
          exact ⟨by rw [HE1.out HR.out]; rfl, hB1⟩
      · have hd : decide (t ≤ u) = false := by simpa using htu
        have HR := Lib.hid (show R = false by rw [hR]; simp [htu])
        clear hR htu qT
        go_wp2_with fail
        refine (qC.out _ (Below.refl _ _)).mono ?_
        rintro e w1 ⟨rfl, hb1⟩
        obtain ⟨d0, d1, d2, d3, d4, _, hB1⟩ := HC.out w1 hb1
        clear qC c0 c1 c2 c3 c4
        clear HE2 qL qM
        go_wp2
        go_ret
        exact ⟨by rw [HE1.out HR.out]; rfl, hB1⟩
    · have hz : (ce == 0) = false := by simpa using hce
      have HR := Lib.hid (show R = false by rw [hR]; simp [hce])
      clear hR hce qT
      go_wp2_with fail
      refine (qC.out _ (Below.refl _ _)).mono ?_
      rintro e w1 ⟨rfl, hb1⟩
      obtain ⟨d0, d1, d2, d3, d4, _, hB1⟩ := HC.out w1 hb1
      clear qC c0 c1 c2 c3 c4
      clear HE2 qL qM
      go_wp2
      go_ret
      exact ⟨by rw [HE1.out HR.out]; rfl, hB1⟩
  rw [if_neg k1] at hR
  have hk1 : (k == 1) = false := by simpa using k1
  clear k1
  by_cases k2 : k = 2
  · subst k2
    rw [if_pos rfl] at hR
    generalize L.length = n at *
    by_cases hl0 : n = 0
    · subst hl0
      cases tb with
      | false =>
        have HR := Lib.hid (show R = false by rw [hR]; simp)
        clear hR qC
        go_wp2_with fail
        refine (qT.out _).mono ?_
        rintro e _ ⟨rfl, rfl⟩
        clear HE2 qL qM
        go_wp2
        go_ret
        exact ⟨by rw [HE1.out HR.out]; rfl, hB⟩
      | true =>
        by_cases hu : u = 0
        · subst hu
          by_cases hv : v = 0
          · subst hv
            have HR := Lib.hid (show R = true by rw [hR]; simp)
            clear hR
            go_wp2_with fail
            refine (qT.out _).mono ?_
            rintro e _ ⟨rfl, rfl⟩
            have hE := HE2.out HR.out
            go_wp2_with fail
            refine (qL.out _ (Below.refl _ _)).mono ?_
            rintro e w2 ⟨rfl, hb2⟩
            obtain ⟨_, _, _, _, _, _, hB2⟩ := HC.out w2 hb2
            clear HC
            go_wp2_with fail
            refine (qM.out _).mono ?_
            rintro e _ ⟨rfl, rfl⟩
            by_cases hlm : lm < (lo : Int)
            · have hd : decide (lm < (lo : Int)) = true := by simpa using hlm
              rw [if_pos hlm] at hE
              have hE := Lib.hid hE
              clear HE1 HE2
              go_wp2
              go_ret
              exact ⟨by rw [hE.out]; rfl, hB2⟩
            · have hd : decide (lm < (lo : Int)) = false := by simpa using hlm
              rw [if_neg hlm] at hE
              have hE := Lib.hid hE
              clear HE1 HE2
              go_wp2
              go_ret
              exact ⟨by rw [hE.out]; rfl, hB2⟩
          · have hz : (v == 0) = false := by simpa using hv
            have HR := Lib.hid (show R = false by rw [hR]; simp [hv])
            clear hR hv qC
            go_wp2_with fail
            refine (qT.out _).mono ?_
            rintro e _ ⟨rfl, rfl⟩
            clear HE2 qL qM
            go_wp2
            go_ret
            exact ⟨by rw [HE1.out HR.out]; rfl, hB⟩
        · have hz : (u == 0) = false := by simpa using hu
          have HR := Lib.hid (show R = false by rw [hR]; simp [hu])
          clear hR hu qC
          go_wp2_with fail
          refine (qT.out _).mono ?_
          rintro e _ ⟨rfl, rfl⟩
          clear HE2 qL qM
          go_wp2
          go_ret
          exact ⟨by rw [HE1.out HR.out]; rfl, hB⟩
    · have hz : (n == 0) = false := by simpa using hl0
      have HR := Lib.hid (show R = false by rw [hR]; simp [hl0])
      clear hR qT qC
      have hz' : ((n : Int) == 0) = false := by simp; omega
      clear hl0
      clear HE2 qL qM
      go_wp2
      go_ret
      exact ⟨by rw [HE1.out HR.out]; rfl, hB⟩
  rw [if_neg k2] at hR
  have hk2 : (k == 2) = false := by simpa using k2
  clear k2
  have HR := Lib.hid hR
  clear hR qT qC
  clear HE2 qL qM
  go_wp2
  go_ret
  exact ⟨by rw [HE1.out HR.out]; rfl, hB⟩
end Go.Proofs.YtipdeiiipdnacaaGreat
namespace Go.Proofs.YtipdeiiipdnacaaGreat
open Go.RowKit
attribute [local go_sem] bs_toList bs_size

theorem results_tct {P : Program} {fn : Func} {t p u : Tmp} {ty : TypeId} (h : fn.results = #[.tmp t, .cell p ty, .tmp u]) (tmps : Array Value) (w : World) (g : Nat) (tb : TypeId) (cs : Array Value) (d : TypeDesc)
    (hp : tmps.getD p undef = .pointer (some ⟨g, 0, none⟩)) (hg : Blk w g tb cs)
    (hu : P.underlying ty = some d) (hd : (match d with | .struct _ | .array _ _ => true | _ => false) = true) (hi : (P.info? ty).map (·.size) = some cs.size) :
    (results fn tmps).run P w = .ok (.tuple #[tmps.getD t undef, .agg cs, tmps.getD u undef]) w := by
  have hp' : tmps[p]?.getD undef = .pointer (some ⟨g, 0, none⟩) := by simpa using hp
  simp [results, h, hp', asAddr, run_loadVar_row w g tb ty cs (0, 0) d hg hu hd hi]

def magicB : List UInt8 := [65, 87, 65, 76]
def writerV (g : Int) (kv : Value) : Value := .agg #[.int .i64 g, kv]
def beginV (g : Int) : Value := if knownB g then .tuple #[.string (bs (headB magicB g.toNat 0)), writerV g (.slice none 0 0), .int .i64 0] else .tuple #[.string ⟨#[]⟩, writerV 0 (.slice none 0 0), .int .i64 1]
set_option maxRecDepth 100000 in
set_option maxHeartbeats 1000000 in
theorem Begin_any (g : Int) (w : World) : Calls Tryz.prog 16 #[.int .i64 g] w fun e w' => e = .returned (beginV g) ∧ Below w.heap.size w w' := by
  have qk := Lib.hid (fun W => known_any g W)
  have hb0 := one_alloc w (.cells #[.int .i64 0, .slice none 0 0] 32)
  have hk0 : Blk (w.alloc (.cells #[.int .i64 0, .slice none 0 0] 32)) w.heap.size 32 #[.int .i64 0, .slice none 0 0] := Blk.new _ _ _
  have HV := Lib.hid (show beginV g = if knownB g then .tuple #[.string (bs (headB magicB g.toNat 0)), writerV g (.slice none 0 0), .int .i64 0] else .tuple #[.string ⟨#[]⟩, writerV 0 (.slice none 0 0), .int .i64 1] from rfl)
  have HG : knownB g = true → ∃ n : Nat, g = n ∧ n < 256 ∧ g.toNat = n := fun h => by
    unfold knownB at h
    simp only [Bool.and_eq_true, decide_eq_true_eq] at h
    exact ⟨g.toNat, by omega, by omega, rfl⟩
  generalize beginV g = V at *
  go_enter Tryz.func16, Tryz.ntmps16
  go_wp2_with fail
  refine (qk.out _).mono ?_
  rintro e _ ⟨rfl, rfl⟩
  generalize hW0 : w.alloc (.cells #[.int .i64 0, .slice none 0 0] 32) = W0 at *
  cases hkb : knownB g with
  | false =>
    have hV := HV.out
    rw [if_neg (by simp [hkb])] at hV
    have HV := Lib.hid hV
    clear hV HG
    have h1 := Blk.set_ (Blk.set_ hk0 0 (.int .i64 0)) 1 (.slice none 0 0)
    have f0 := Blk.frozen hk0 0
    have f1 := Blk.frozen hk0 1
    have c0 : W0.cell? ⟨w.heap.size, 0, none⟩ = some (.int .i64 0) := (Blk.cell hk0 0).trans rfl
    have c1 : W0.cell? ⟨w.heap.size, 1, none⟩ = some (.slice none 0 0) := (Blk.cell hk0 1).trans rfl
    go_wp2_with fail
    (try simp only [Exit.inBlock, Exit.then])
    refine bodyPost_ret (results_tct rfl _ _ w.heap.size 32 #[.int .i64 0, .slice none 0 0] _ rfl h1 Tryz.underlying32 rfl (by kernel_rfl)) rfl ?_
    refine ⟨by rw [HV.out]; rfl, ?_⟩
    exact (hb0.setCell (p := ⟨w.heap.size, 0, none⟩) (Nat.le_refl _) _).setCell (p := ⟨w.heap.size, 1, none⟩) (Nat.le_refl _) _
  | true =>
    obtain ⟨n, rfl, hn, hn2⟩ := HG hkb
    have hV := HV.out
    rw [if_pos hkb, hn2] at hV
    have HV := Lib.hid hV
    clear hV HG hkb qk
    have q := Lib.hid (Head_any magicB n 0 hn (by decide) (by decide) W0)
    have hm : (⟨#[65, 87, 65, 76]⟩ : ByteArray) = bs magicB := rfl
    go_wp2_with fail
    refine q.out.mono ?_
    rintro e w1 ⟨rfl, hb1⟩
    have hk1 := Blk.below hk0 hb1 hk0.lt
    have h1 := Blk.set_ (Blk.set_ hk1 0 (.int .i64 (n : Int))) 1 (.slice none 0 0)
    have f0 := Blk.frozen hk1 0
    have f1 := Blk.frozen hk1 1
    have c0 : w1.cell? ⟨w.heap.size, 0, none⟩ = some (.int .i64 0) := (Blk.cell hk1 0).trans rfl
    have c1 : w1.cell? ⟨w.heap.size, 1, none⟩ = some (.slice none 0 0) := (Blk.cell hk1 1).trans rfl
    have hb2 := hb0.trans (hb1.mono hb0.size)
    go_wp2_with fail
    (try simp only [Exit.inBlock, Exit.then])
    refine bodyPost_ret (results_tct rfl _ _ w.heap.size 32 #[.int .i64 (n : Int), .slice none 0 0] _ rfl h1 Tryz.underlying32 rfl (by kernel_rfl)) rfl ?_
    refine ⟨by rw [HV.out]; rfl, ?_⟩
    exact (hb2.setCell (p := ⟨w.heap.size, 0, none⟩) (Nat.le_refl _) _).setCell (p := ⟨w.heap.size, 1, none⟩) (Nat.le_refl _) _
end Go.Proofs.YtipdeiiipdnacaaGreat
namespace Go.Proofs.YtipdeiiipdnacaaGreat
open Go.RowKit Go.Maps Go.WideMaps
attribute [local go_sem] bs_toList bs_size

/-- How a number reads in a map of numbers. -/
def intR (v : Value) : Option (DataW Unit × List MemPlace) :=
  match v with
  | .int .i64 n => some (.lit (.int .i64 n), [])
  | _ => none
theorem intR_lit {v : Value} {n : Int} {ps : List MemPlace} (h : intR v = some (.lit (.int .i64 n), ps)) : v = .int .i64 n := by
  unfold intR at h
  split at h
  · simp only [Option.some.injEq, Prod.mk.injEq, DataW.lit.injEq, Lit.int.injEq] at h
    rw [h.1.2]
  · cases h
/-- The map tells where each key is first. -/
def KeyMap (D : DataW Unit) (K : List (List UInt8)) : Prop := ∀ l : List UInt8, Maps.has D (.string l) = decide (l ∈ K) ∧ (l ∈ K → ∀ z, D.atKey (.string l) z = .lit (.int .i64 (K.idxOf l : Nat)))
theorem keyMap_old {D : DataW Unit} {K : List (List UInt8)} {l : List UInt8} (h : KeyMap D K) (hl : l ∈ K) : KeyMap D (K ++ [l]) := fun x => by
  obtain ⟨h1, h2⟩ := h x
  have hm : x ∈ K ++ [l] ↔ x ∈ K := by
    simp only [List.mem_append, List.mem_cons, List.not_mem_nil, or_false]
    exact ⟨fun e => e.elim id fun e => e ▸ hl, .inl⟩
  refine ⟨by rw [h1]; exact decide_eq_decide.2 hm.symm, fun hx z => ?_⟩
  rw [h2 (hm.1 hx) z, List.idxOf_append, if_pos (hm.1 hx)]
theorem keyMap_new {D : DataW Unit} {K : List (List UInt8)} {l : List UInt8} (hD : IsMap D) (h : KeyMap D K) (hl : l ∉ K) : KeyMap (D.put (.string l) (.lit (.int .i64 (K.length : Nat)))) (K ++ [l]) := fun x => by
  obtain ⟨h1, h2⟩ := h x
  by_cases e : x = l
  · subst e
    refine ⟨by rw [has_put_same hD (by trivial)]; simp, fun _ z => ?_⟩
    rw [atKey_put_same hD (by trivial), List.idxOf_append, if_neg hl]
    simp
  · have hne : (Lit.string x) ≠ Lit.string l := fun h => e (Lit.string.inj h)
    have hm : x ∈ K ++ [l] ↔ x ∈ K := by simp [e]
    refine ⟨by rw [has_put_other hne, h1]; exact decide_eq_decide.2 hm.symm, fun hx z => ?_⟩
    rw [atKey_put_other hne, h2 (hm.1 hx) z, List.idxOf_append, if_pos (hm.1 hx)]

def strs (K : List (List UInt8)) : List Value := K.map fun k => .string (bs k)
/-- Keys in memory: their block, their row, their map. -/
structure NamesIs (w : World) (B n : Nat) (K : List (List UInt8)) (kv : Value) (m : Nat) (D : DataW Unit) : Prop where
  blk : Blk w n 68 #[kv, .map (some m)]
  row : w.ownsRow B 9 1 kv K.length (strs K)
  map : w.ownsMap Tryz.prog 9 intR m K.length D
  dict : KeyMap D K
  lo : B ≤ n ∧ B ≤ m
/-- The blocks that keys hold. -/
def NF (n m : Nat) (kv : Value) : Nat → Prop := fun k => k = n ∨ k = m ∨ kv.ownBlock = some k

section
variable {w w' : World} {B n m : Nat} {K : List (List UInt8)} {kv : Value} {D : DataW Unit}
theorem NamesIs.kept {S : Nat → Prop} (h : NamesIs w B n K kv m D) (hk : Kept w w' S) (hS : ∀ k, NF n m kv k → ¬ S k) : NamesIs w' B n K kv m D :=
  ⟨h.blk.keptK hk (hS n (.inl rfl)), ownsRow_kept h.row hk (fun k e => hS k (.inr (.inr e))), ownsMap_kept h.map hk (hS m (.inr (.inl rfl))), h.dict, h.lo⟩
theorem NamesIs.below (h : NamesIs w B n K kv m D) (hb : Below w.heap.size w w') : NamesIs w' B n K kv m D := h.kept (Kept.of_below (S := fun _ => False) hb) fun _ _ e => e
theorem NamesIs.form (h : NamesIs w B n K kv m D) : ∃ a c, kv = .slice a K.length c := by
  rcases h.row.2 with ⟨e, e0⟩ | ⟨g, cap, cur, e, _⟩
  · exact ⟨none, 0, by rw [e, e0]⟩
  · exact ⟨_, _, e⟩
theorem NamesIs.ne_nm (h : NamesIs w B n K kv m D) : n ≠ m := fun e => by
  have h1 := tag_blk h.blk
  rw [e, tag_map h.map] at h1
  simp at h1
theorem NamesIs.ne_nk (h : NamesIs w B n K kv m D) : kv.ownBlock ≠ some n := fun e => by
  have h1 := tag_blk h.blk
  rw [tag_row h.row e] at h1
  simp at h1
theorem NamesIs.ne_mk (h : NamesIs w B n K kv m D) : kv.ownBlock ≠ some m := fun e => by
  have h1 := tag_map h.map
  rw [tag_row h.row e] at h1
  simp at h1
theorem strs_snoc (K : List (List UInt8)) (l : List UInt8) : strs (K ++ [l]) = strs K ++ [.string (bs l)] := by unfold strs; simp
/-- The end of an append of a key: the row's new value is stored. -/
theorem names_push {w5 : World} {kv' : Value} {D' : DataW Unit} {l : List UInt8} {o : Obj} (hblk : Blk w n 68 #[kv, .map (some m)]) (hrow : w.ownsRow B 9 1 kv K.length (strs K)) (hD : w.ownsMap Tryz.prog 9 intR m (K ++ [l]).length D') (hd : KeyMap D' (K ++ [l])) (hlo : B ≤ n ∧ B ≤ m)
    (hown : w5.ownsRow B 9 1 kv' (K.length + 1) (strs K ++ [.string (bs l)])) (hg : (w.alloc o).grownBy w5 kv.ownBlock) (hloc : kv'.ownBlock = kv.ownBlock ∨ kv'.ownBlock = some (w.alloc o).heap.size) :
    Blk w5 n 68 #[kv, .map (some m)] ∧ NamesIs (w5.setCell ⟨n, 0, none⟩ kv') B n (K ++ [l]) kv' m D' ∧ Turn w (w5.setCell ⟨n, 0, none⟩ kv') (NF n m kv) (NF n m kv') := by
  have n1 : n ≠ m := fun e => by
    have h1 := tag_blk hblk
    rw [e, tag_map hD] at h1
    simp at h1
  have n2 : kv.ownBlock ≠ some n := fun e => by
    have h1 := tag_blk hblk
    rw [tag_row hrow e] at h1
    simp at h1
  have n3 : kv.ownBlock ≠ some m := fun e => by
    have h1 := tag_map hD
    rw [tag_row hrow e] at h1
    simp at h1
  have hk0 : Kept w (w.alloc o) (fun _ => False) := Kept.alloc w o _
  have hk1 : Kept w w5 (fun k => kv.ownBlock = some k) := (hk0.weaken (fun _ e => e.elim)).trans (Kept.of_grown hg fun k e => e)
  have hb5 := hblk.keptK hk1 n2
  have hk2 : Kept w (w5.setCell ⟨n, 0, none⟩ kv') (NF n m kv) := (hk1.weaken fun k e => .inr (.inr e)).trans (Kept.of_grown (grown_set w5 n 0 kv') fun k e => .inl (Option.some.inj e).symm)
  have hnn : kv'.ownBlock ≠ some n := by
    rcases hloc with e | e
    · rw [e]; exact n2
    · rw [e]
      intro e2
      have := hblk.lt
      have := Option.some.inj e2
      simp at this
      omega
  refine ⟨hb5, ⟨(Blk.set_ hb5 0 kv'), ?_, ?_, hd, hlo⟩, hk2, fun k hk => ?_⟩
  · rw [strs_snoc, List.length_append]
    exact ownsRow_kept hown (Kept.of_grown (S := fun k => k = n) (grown_set w5 n 0 kv') fun k e => (Option.some.inj e).symm) (fun b e e2 => hnn (e2 ▸ e))
  · exact ownsMap_kept (ownsMap_kept hD hk1 n3) (Kept.of_grown (S := fun k => k = n) (grown_set w5 n 0 kv') fun k e => (Option.some.inj e).symm) (fun e => n1 e.symm)
  · rcases hk with e | e | e
    · exact .inl (.inl e)
    · exact .inl (.inr (.inl e))
    · rcases hloc with e2 | e2
      · exact .inl (.inr (.inr (e2 ▸ e)))
      · rw [e2] at e
        have := Option.some.inj e
        simp at this
        exact .inr (by omega)
theorem row_form {e : TypeId} {size c : Nat} {v : Value} {xs : List Value} (h : w.ownsRow B e size v c xs) : ∃ a cap, v = .slice a c cap := by
  rcases h.2 with ⟨e, e0⟩ | ⟨g, cap, cur, e, _⟩
  · exact ⟨none, 0, by rw [e, e0]⟩
  · exact ⟨_, _, e⟩
theorem NamesIs.ge (h : NamesIs w B n K kv m D) : ∀ k, NF n m kv k → B ≤ k := fun k hk => by
  rcases hk with rfl | rfl | e
  · exact h.lo.1
  · exact h.lo.2
  · exact (h.row.lt k e).1

set_option maxRecDepth 100000 in
set_option maxHeartbeats 2000000 in
theorem add_any (l : List UInt8) (h : NamesIs w B n K kv m D) (hl : l.length ≤ 1048576) (hK : K.length ≤ 1048576) (hB : B ≤ w.heap.size) :
    Calls Tryz.prog 26 #[.pointer (some ⟨n, 0, none⟩), .string (bs l)] w fun e w' => e = .returned (.tuple #[]) ∧ ∃ kv' D', NamesIs w' B n (K ++ [l]) kv' m D' ∧ Turn w w' (NF n m kv) (NF n m kv') := by
  have hkey : keyOf Tryz.prog 9 (.string (bs l)) = some (.string l) := keyOf_string_mk Tryz.underlying9 (by rw [bs_size]; unfold maxLen; omega)
  obtain ⟨sa, sc, rfl⟩ := h.form
  have c0 : w.cell? ⟨n, 0, none⟩ = some (.slice sa K.length sc) := (Blk.cell h.blk 0).trans rfl
  have c1 : w.cell? ⟨n, 1, none⟩ = some (.map (some m)) := (Blk.cell h.blk 1).trans rfl
  have HM := Lib.hid h.map
  by_cases hm : l ∈ K
  · have hh : Maps.has D (.string l) = true := by rw [(h.dict l).1]; simpa using hm
    go_enter Tryz.func26, Tryz.ntmps26
    have ⟨i0, hi, hz0, hz1, hz2⟩ := info_parts (show (Tryz.prog.info? 9).map (fun i => (i.zero, i.size, i.bytes)) = some (some (.string ⟨#[]⟩), 1, 16) by kernel_rfl)
    have hD2 : w.ownsMap Tryz.prog 9 intR m (K ++ [l]).length D := h.map.mono (by simp)
    have HP := Lib.hid (fun w5 kv' (a : w5.ownsRow B 9 1 kv' (K.length + 1) (strs K ++ [.string (bs l)])) b c => names_push (w5 := w5) (kv' := kv') (D' := D) (l := l) (o := .cells #[.string (bs l)] 9) h.blk h.row hD2 (keyMap_old h.dict hm) h.lo a b c)
    have hrow := h.row
    clear hD2 h
    go_wp2_with (first | (at_lookup; refine wpList_lookup_own_ok _ rfl _ _ 66 rfl 9 3 (string_keyed Tryz.underlying9) Tryz.underlying66 intR (z := .int .i64 0) (by kernel_rfl) (.lit (.int .i64 0)) [] rfl m K.length D rfl HM.out _ _ rfl hkey ?_; intro x ps hx; rw [hh]; clear hx) | (at_builtin; refine wpList_append_own_at _ rfl _ _ 30 rfl B 9 i0 (.string ⟨#[]⟩) 1 16 Tryz.underlying30 hi hz0 hz1 hz2 rfl (by decide) _ _ _ rfl (World.ownsRow.alloc hrow _) ⟨_, 0, none⟩ 1 1 [.string (bs l)] rfl rfl (cell_one_new _ _ _) (by simp [Value.oneCell']) (by unfold maxLen; omega) (by omega) (by simp; omega) ?_; intro v' w5 hown' hgrow hnil hloc; have HH := Lib.hid (HP.out w5 v' hown' hgrow hloc); obtain ⟨sa', sc', rfl⟩ := row_form hown'; have d0 : w5.cell? ⟨n, 0, none⟩ = some _ := (Blk.cell HH.out.1 0).trans rfl; have f0 := Blk.frozen HH.out.1 0; clear hown' hgrow hnil hloc HP hrow HM))
    go_end0
    exact ⟨rfl, _, _, HH.out.2.1, HH.out.2.2⟩
  · have hh : Maps.has D (.string l) = false := by rw [(h.dict l).1]; simpa using hm
    have ⟨i0, hi, hz0, hz1, hz2⟩ := info_parts (show (Tryz.prog.info? 9).map (fun i => (i.zero, i.size, i.bytes)) = some (some (.string ⟨#[]⟩), 1, 16) by kernel_rfl)
    have hdict := keyMap_new h.map.isMap h.dict hm
    have HX := Lib.hid h
    clear h
    go_enter Tryz.func26, Tryz.ntmps26
    have g0 := grow_cell c0
    have g1 := grow_cell c1
    go_wp2_with (at_lookup; refine wpList_lookup_own_ok _ rfl _ _ 66 rfl 9 3 (string_keyed Tryz.underlying9) Tryz.underlying66 intR (z := .int .i64 0) (by kernel_rfl) (.lit (.int .i64 0)) [] rfl m K.length D rfl HM.out _ _ rfl hkey ?_; intro x ps hx; rw [hh]; clear hx)
    refine wp_region_led (R := GrowR) (by kernel_rfl) (by kernel_rfl) rfl (by kernel_rfl) ?_
    (refine lex_one (by kernel_rfl) (by kernel_rfl) (by kernel_rfl) (fun K hK => ?_); go_big_quiet_step (fail); refine wpQuiet_nil (hK _ ?_); clear hK K); (refine lex_one (by kernel_rfl) (by kernel_rfl) (by kernel_rfl) (fun K hK => ?_); go_big_quiet_step (fail); refine wpQuiet_nil (hK _ ?_); clear hK K); (refine lex_one (by kernel_rfl) (by kernel_rfl) (by kernel_rfl) (fun K hK => ?_); go_big_quiet_step (fail); refine wpQuiet_nil (hK _ ?_); clear hK K); (refine lex_one (by kernel_rfl) (by kernel_rfl) (by kernel_rfl) (fun K hK => ?_); go_big_quiet_step (fail); refine wpQuiet_nil (hK _ ?_); clear hK K); (refine lex_one (by kernel_rfl) (by kernel_rfl) (by kernel_rfl) (fun K hK => ?_); go_big_quiet_step (fail); refine wpQuiet_nil (hK _ ?_); clear hK K); (refine lex_one (by kernel_rfl) (by kernel_rfl) (by kernel_rfl) (fun K hK => ?_); go_big_quiet_step (fail); refine wpQuiet_nil (hK _ ?_); clear hK K); (refine lex_one (by kernel_rfl) (by kernel_rfl) (by kernel_rfl) (fun K hK => ?_); go_big_quiet_step (fail); refine wpQuiet_nil (hK _ ?_); clear hK K); (refine lex_one (by kernel_rfl) (by kernel_rfl) (by kernel_rfl) (fun K hK => ?_); go_big_quiet_step (fail); refine wpQuiet_nil (hK _ ?_); clear hK K); (refine lex_one (by kernel_rfl) (by kernel_rfl) (by kernel_rfl) (fun K hK => ?_); go_big_quiet_step (fail); refine wpQuiet_nil (hK _ ?_); clear hK K)
    (refine lex_val (v := .int .i64 (K.length : Int)) (by kernel_rfl) (fun _ _ h => by cases h) (by kernel_rfl) (by kernel_rfl) (fun _ _ => by go_simp) (lex_put (type := 0) (pos := "") (fun K hK => ?_)); go_big_quiet_step (fail); refine wpQuiet_nil (hK _ ?_); clear hK K)
    refine lex_nil (by kernel_rfl) (by kernel_rfl) (by kernel_rfl) ?_
    intro w0 hb0
    simp only [hideAll]
    have HX0 := Lib.hid (HX.out.below hb0)
    have HM := Lib.hid HX0.out.map
    have hB0 : B ≤ w0.heap.size := Nat.le_trans hB hb0.size
    have HT0 := Lib.hid (show Turn w w0 (NF n m (.slice sa K.length sc)) (NF n m (.slice sa K.length sc)) from Turn.of_below hb0)
    clear hb0 HX
    refine wpList_mapUpdate_own _ rfl _ _ _ 66 rfl 9 3 (string_keyed Tryz.underlying9) Tryz.underlying66 intR m K.length D rfl HM.out (by unfold maxLen; omega) _ _ _ rfl rfl hkey (.lit (.int .i64 (K.length : Int))) [] rfl ?_
    intro w1 hown1 hgrow1
    have hkm : Kept w0 w1 (fun k => k = m) := Kept.of_grown hgrow1 fun k e => (Option.some.inj e).symm
    have hblk1 := HX0.out.blk.keptK hkm HX0.out.ne_nm
    have hrow := ownsRow_kept HX0.out.row hkm (fun b e e2 => HX0.out.ne_mk (e2 ▸ e))
    have hB1 : B ≤ w1.heap.size := Nat.le_trans hB0 hkm.size
    have hD2 : w1.ownsMap Tryz.prog 9 intR m (K ++ [l]).length (D.put (.string l) (.lit (.int .i64 (K.length : Int)))) := hown1.mono (by simp)
    have HP := Lib.hid (fun w5 kv' (a : w5.ownsRow B 9 1 kv' (K.length + 1) (strs K ++ [.string (bs l)])) b c => names_push (w5 := w5) (kv' := kv') (l := l) (o := .cells #[.string (bs l)] 9) hblk1 hrow hD2 hdict HX0.out.lo a b c)
    have HT := Lib.hid (show Turn w0 w1 (NF n m (.slice sa K.length sc)) (NF n m (.slice sa K.length sc)) from Turn.of_kept (hkm.weaken fun k e => .inr (.inl e)))
    have k0 : w1.cell? ⟨n, 0, none⟩ = some (.slice sa K.length sc) := (Blk.cell hblk1 0).trans rfl
    clear hD2 hown1 hgrow1 hkm hblk1 hdict g0 g1
    go_wp2_with (at_builtin; refine wpList_append_own_at _ rfl _ _ 30 rfl B 9 i0 (.string ⟨#[]⟩) 1 16 Tryz.underlying30 hi hz0 hz1 hz2 rfl (by decide) _ _ _ rfl (World.ownsRow.alloc hrow _) ⟨_, 0, none⟩ 1 1 [.string (bs l)] rfl rfl (cell_one_new _ _ _) (by simp [Value.oneCell']) (by unfold maxLen; omega) (by omega) (by simp; omega) ?_; intro v' w5 hown' hgrow hnil hloc; have HH := Lib.hid (HP.out w5 v' hown' hgrow hloc); obtain ⟨sa', sc', rfl⟩ := row_form hown'; have d0 : w5.cell? ⟨n, 0, none⟩ = some _ := (Blk.cell HH.out.1 0).trans rfl; have f0 := Blk.frozen HH.out.1 0; clear hown' hgrow hnil hloc HP hrow HM)
    go_end0
    exact ⟨rfl, _, _, HH.out.2.1, HT0.out.trans (HT.out.trans HH.out.2.2)⟩
end
end Go.Proofs.YtipdeiiipdnacaaGreat
namespace Go.Proofs.YtipdeiiipdnacaaGreat
open Go.RowKit Go.Maps Go.WideMaps
attribute [local go_sem] bs_toList bs_size

/-- A slice of keys. -/
def KeysAt (w : World) (v : Value) (K : List (List UInt8)) : Prop :=
  ∃ a c, v = .slice a K.length c ∧ K.length ≤ 1048576 ∧ ∀ (i : Nat) x, K[i]? = some x → x.length ≤ 1048576 ∧ ∃ b o, a = some ⟨b, o, none⟩ ∧ w.cell? ⟨b, o + i, none⟩ = some (.string (bs x))
theorem KeysAt.below {w w' : World} {v : Value} {K : List (List UInt8)} (h : KeysAt w v K) (hb : Below w.heap.size w w') : KeysAt w' v K := by
  obtain ⟨a, c, h1, h2, h3⟩ := h
  refine ⟨a, c, h1, h2, fun i x hx => ?_⟩
  obtain ⟨h4, b, o, h6, h7⟩ := h3 i x hx
  exact ⟨h4, b, o, h6, (Below.cell hb (World.block_lt_of_cell? _ _ h7)).trans h7⟩
theorem keysAt_row {w : World} {B : Nat} {v : Value} {K : List (List UInt8)} (h : w.ownsRow B 9 1 v K.length (strs K)) (hn : K.length ≤ 1048576) (hl : ∀ x ∈ K, x.length ≤ 1048576) : KeysAt w v K := by
  have hcells : ∀ g, v.ownBlock = some g → ∀ j u, (strs K)[j]? = some u → w.cell? ((⟨g, 0, none⟩ : Addr).add j) = some u := fun g hg => h.cells (g := g) hg
  rcases h.2 with ⟨e, e0⟩ | ⟨g, cap, cur, e, e1, e2, e3⟩
  · refine ⟨none, 0, by rw [e, e0], hn, fun i x hx => ?_⟩
    rw [List.length_eq_zero_iff.1 e0] at hx
    simp at hx
  · refine ⟨some ⟨g, 0, none⟩, cap, e, hn, fun i x hx => ?_⟩
    refine ⟨hl x (List.mem_of_getElem? hx), g, 0, rfl, ?_⟩
    have := hcells g (by rw [e]; rfl) i (.string (bs x)) (by unfold strs; rw [List.getElem?_map, hx]; rfl)
    rw [addr_add] at this
    rw [Nat.zero_add]
    exact this

theorem keyMap_nil : KeyMap (.map []) [] := fun l => ⟨by simp [Maps.has], fun h => by cases h⟩
set_option maxRecDepth 100000 in
set_option maxHeartbeats 2000000 in
theorem of_any (g : Int) (kv : Value) (K : List (List UInt8)) (w : World) (h : KeysAt w kv K) :
    Calls Tryz.prog 19 #[writerV g kv] w fun e w' => ∃ n m kv' D, e = .returned (.pointer (some ⟨n, 0, none⟩)) ∧ NamesIs w' w.heap.size n K kv' m D ∧ Below w.heap.size w w' := by
  have hmm := @run_makeMap Tryz.prog
  obtain ⟨a, c, rfl, hn, hc⟩ := h
  have HC := Lib.hid hc
  clear hc
  rw [show writerV g (.slice a K.length c) = .agg #[.int .i64 g, .slice a K.length c] from rfl]
  have e0 : Below w.heap.size w (((w.alloc (.cells #[.int .i64 g, .slice a K.length c] 32)).alloc (.map #[] 0)).alloc (.cells #[.slice none 0 0, .map (some (w.heap.size + 1))] 68)) := (((Below.refl _ w).alloc (Nat.le_refl _) _).alloc (by simp) _).alloc (by simp; omega) _
  have m0 : ((w.alloc (.cells #[.int .i64 g, .slice a K.length c] 32)).alloc (.map #[] 0)).ownsMap Tryz.prog 9 intR (w.heap.size + 1) 0 (.map []) := by
    have := World.ownsMap_made (w.alloc (.cells #[.int .i64 g, .slice a K.length c] 32)) Tryz.prog 9 intR
    rwa [World.size_alloc] at this
  have n0 : NamesIs (((w.alloc (.cells #[.int .i64 g, .slice a K.length c] 32)).alloc (.map #[] 0)).alloc (.cells #[.slice none 0 0, .map (some (w.heap.size + 1))] 68)) w.heap.size (w.heap.size + 1 + 1) [] (.slice none 0 0) (w.heap.size + 1) (.map []) := by
    refine ⟨?_, World.ownsRow_nil _ _ _ _, World.ownsMap.alloc m0 _, keyMap_nil, by omega, by omega⟩
    have := Blk.new ((w.alloc (.cells #[.int .i64 g, .slice a K.length c] 32)).alloc (.map #[] 0)) 68 #[.slice none 0 0, .map (some (w.heap.size + 1))]
    rwa [World.size_alloc, World.size_alloc] at this
  clear m0
  go_enter Tryz.func19, Tryz.ntmps19
  go_wp2
  go_loopw [12] (fun vi wr => ∃ (i : Nat) (kv' : Value) (D : DataW Unit), i ≤ K.length ∧ vi = .int .i64 (i : Int) ∧ NamesIs wr w.heap.size (w.heap.size + 1 + 1) (K.take i) kv' (w.heap.size + 1) D ∧ Below w.heap.size w wr) (fun vi _ => K.length - (intOf vi).toNat)
  case atStart => exact ⟨0, _, _, Nat.zero_le _, rfl, n0, e0⟩
  clear n0 e0
  obtain ⟨i, kv', D, hi, rfl, hN, hb⟩ := hrel
  rcases (show i < K.length ∨ i = K.length by omega) with hil | rfl
  · have HT := Lib.hid (show K.take i ++ [K[i]] = K.take (i + 1) from (List.take_succ_eq_append_getElem hil).symm)
    obtain ⟨hx1, b, o, rfl, d0⟩ := HC.out i _ (List.getElem?_eq_getElem hil)
    have e0 := hb.cell (World.block_lt_of_cell? _ _ d0)
    rw [d0] at e0
    have q := Lib.hid (add_any K[i] hN hx1 (by rw [List.length_take]; omega) hb.size)
    rw [HT.out] at q
    clear d0 HT
    generalize K[i] = x at *
    go_wp2_with fail
    refine q.out.mono ?_
    rintro e w1 ⟨rfl, kv2, D2, hN2, hT⟩
    go_wp2_with fail
    go_roundw
    case rel => exact ⟨i + 1, kv2, D2, by omega, by go_num, hN2, hb.trans (hT.kept.below hb.size hN.ge)⟩
    case measure => simp [intOf]; omega
  · rw [List.take_length] at hN
    go_wp2_with fail
    go_ret
    exact ⟨_, _, _, _, rfl, hN, hb⟩

/-- A series as bytes, behind keys; and the keys then. -/
def namesPut (K : List (List UInt8)) (L : List Lb) : List UInt8 × List (List UInt8) :=
  if keyB L ∈ K then (Num.small (K.idxOf (keyB L)), K) else (Num.small K.length ++ Num.text (keyB L), K ++ [keyB L])
section
variable {w w' : World} {B n m : Nat} {K : List (List UInt8)} {kv : Value} {D : DataW Unit}
set_option maxRecDepth 100000 in
set_option maxHeartbeats 2000000 in
theorem put_any (L : List Lb) (v : Value) (h : NamesIs w B n K kv m D) (hL : LabsAt w v L) (hl : (keyB L).length ≤ 1048576) (hK : K.length ≤ 1048576) (hB : B ≤ w.heap.size) :
    Calls Tryz.prog 56 #[.pointer (some ⟨n, 0, none⟩), v] w fun e w' => e = .returned (.string (bs (namesPut K L).1)) ∧ ∃ kv' D', NamesIs w' B n (namesPut K L).2 kv' m D' ∧ Turn w w' (NF n m kv) (NF n m kv') := by
  have q1 := Lib.hid (Key_any L v w hL)
  obtain ⟨va, vc, rfl, _⟩ := hL
  have hP : namesPut K L = if keyB L ∈ K then (Num.small (K.idxOf (keyB L)), K) else (Num.small K.length ++ Num.text (keyB L), K ++ [keyB L]) := rfl
  generalize keyB L = l at *
  have hkey : keyOf Tryz.prog 9 (.string (bs l)) = some (.string l) := keyOf_string_mk Tryz.underlying9 (by rw [bs_size]; unfold maxLen; omega)
  by_cases hm : l ∈ K
  · rw [if_pos hm] at hP
    rw [hP]
    have hh : Maps.has D (.string l) = true := by rw [(h.dict l).1]; simpa using hm
    have hat := (h.dict l).2 hm (.lit (.int .i64 0))
    have hix : K.idxOf l < K.length := List.idxOf_lt_length_of_mem hm
    clear hP
    generalize K.idxOf l = j at *
    go_enter Tryz.func56, Tryz.ntmps56
    go_wp2_with fail
    refine q1.out.mono ?_
    rintro e w1 ⟨rfl, hb1⟩
    have hN1 := h.below hb1
    have hT1 : Turn w w1 (NF n m kv) (NF n m kv) := Turn.of_below hb1
    have hB1 : B ≤ w1.heap.size := Nat.le_trans hB hb1.size
    clear q1 hb1 h
    obtain ⟨sa, sc, rfl⟩ := hN1.form
    have c0 : w1.cell? ⟨n, 0, none⟩ = some (.slice sa K.length sc) := (Blk.cell hN1.blk 0).trans rfl
    have c1 : w1.cell? ⟨n, 1, none⟩ = some (.map (some m)) := (Blk.cell hN1.blk 1).trans rfl
    have HM := Lib.hid hN1.map
    have q2 := Lib.hid (fun W => num_Small_any (j : Int) W (by omega) (by omega))
    rw [show ((j : Int).toNat) = j from rfl] at q2
    have hw : IntKind.u64.wrap (j : Int) = j := by simp [IntKind.wrap, IntKind.bits, IntKind.signed]; omega
    have HN := Lib.hid hN1
    have HT := Lib.hid hT1
    clear hN1 hT1
    go_wp2_with (at_lookup; refine wpList_lookup_own_ok _ rfl _ _ 66 rfl 9 3 (string_keyed Tryz.underlying9) Tryz.underlying66 intR (z := .int .i64 0) (by kernel_rfl) (.lit (.int .i64 0)) [] rfl m K.length D rfl HM.out _ _ rfl hkey ?_; intro x ps hx; rw [hat] at hx; obtain rfl := intR_lit hx; clear hx; rw [hh])
    clear hat hh
    go_wp2_with fail
    refine (q2.out _).mono ?_
    rintro e w2 ⟨rfl, hb2⟩
    go_wp2_with fail
    go_ret
    exact ⟨rfl, _, _, HN.out.below hb2, HT.out.trans (Turn.of_below hb2)⟩
  · rw [if_neg hm] at hP
    rw [hP]
    go_enter Tryz.func56, Tryz.ntmps56
    go_wp2_with fail
    refine q1.out.mono ?_
    rintro e w1 ⟨rfl, hb1⟩
    have hN1 := h.below hb1
    have hT1 : Turn w w1 (NF n m kv) (NF n m kv) := Turn.of_below hb1
    have hB1 : B ≤ w1.heap.size := Nat.le_trans hB hb1.size
    clear q1 hb1 h
    obtain ⟨sa, sc, rfl⟩ := hN1.form
    have c0 : w1.cell? ⟨n, 0, none⟩ = some (.slice sa K.length sc) := (Blk.cell hN1.blk 0).trans rfl
    have c1 : w1.cell? ⟨n, 1, none⟩ = some (.map (some m)) := (Blk.cell hN1.blk 1).trans rfl
    have HM := Lib.hid hN1.map
    have hh : Maps.has D (.string l) = false := by rw [(hN1.dict l).1]; simpa using hm
    have q2 := Lib.hid (fun W => num_Small_any (K.length : Int) W (by omega) (by omega))
    rw [show ((K.length : Int).toNat) = K.length from rfl] at q2
    have q3 := Lib.hid (fun W => num_Text_any l W (by omega))
    have z1 := Num.small_len K.length
    have z2 : (Num.text l).length ≤ 2000000 := by rw [Num.text_len]; have := Num.small_len l.length; omega
    have hadd : ∀ W, (Op.stringOp .add (bs (Num.small K.length)) (bs (Num.text l))).run Tryz.prog W = .ok (.string (bs (Num.small K.length ++ Num.text l))) W := fun W => run_add_bs (P := Tryz.prog) _ _ (by omega) W
    have qA := Lib.hid (fun W (hb : Below w1.heap.size w1 W) => add_any l (hN1.below hb) hl hK (Nat.le_trans hB1 hb.size))
    have HT := Lib.hid hT1
    generalize hr : Num.small K.length ++ Num.text l = r at *
    clear hP hT1 hN1 hm z1 z2
    have hw : IntKind.u64.wrap (K.length : Int) = K.length := by simp [IntKind.wrap, IntKind.bits, IntKind.signed]; omega
    have g0 := grow_cell c0
    go_wp2_with (at_lookup; refine wpList_lookup_own_ok _ rfl _ _ 66 rfl 9 3 (string_keyed Tryz.underlying9) Tryz.underlying66 intR (z := .int .i64 0) (by kernel_rfl) (.lit (.int .i64 0)) [] rfl m K.length D rfl HM.out _ _ rfl hkey ?_; intro x ps hx; rw [hh]; clear hx)
    refine (q2.out _).mono ?_
    rintro e w2 ⟨rfl, hb2⟩
    go_wp2_with fail
    refine (q3.out _).mono ?_
    rintro e w3 ⟨rfl, hb3⟩
    have hb := hb2.trans (hb3.mono hb2.size)
    have HT2 := Lib.hid (HT.out.trans (Turn.of_below hb))
    have qA2 := Lib.hid (qA.out _ hb)
    clear hb hb2 hb3 qA HT q2 q3
    go_wp2_with fail
    refine qA2.out.mono ?_
    rintro e w4 ⟨rfl, kv2, D2, hN2, hT2⟩
    go_wp2_with fail
    go_ret
    exact ⟨by subst hr; rfl, _, _, hN2, HT2.out.trans hT2⟩
end
end Go.Proofs.YtipdeiiipdnacaaGreat
namespace Go.Proofs.YtipdeiiipdnacaaGreat
open Go.RowKit Go.Maps Go.WideMaps
attribute [local go_sem] bs_toList bs_size

abbrev CS := List UInt8 × Bool
def sV (c : CS) : Int := if c.2 then 0 else gval (Num.getSmall c.1)
def sN (c : CS) : CS := Num.nxt c (Num.getSmall c.1)
def wV (c : CS) : Int := if c.2 then 0 else gval (Num.getWide c.1)
def wN (c : CS) : CS := Num.nxt c (Num.getWide c.1)
theorem CSm (g : Nat) (c : CS) (w : World) (hB : Cur w g c.1 c.2) (hs : c.1.length ≤ 1099511627776) :
    Calls Tryz.prog 57 #[.pointer (some ⟨g, 0, none⟩)] w fun e w' => e = .returned (.int .u64 (sV c)) ∧ Cur w' g (sN c).1 (sN c).2 ∧ w.grownBy w' (some g) := CSmall g c.1 c.2 w hB hs
theorem CWd (g : Nat) (c : CS) (w : World) (hB : Cur w g c.1 c.2) (hs : c.1.length ≤ 1099511627776) :
    Calls Tryz.prog 74 #[.pointer (some ⟨g, 0, none⟩)] w fun e w' => e = .returned (.int .u64 (wV c)) ∧ Cur w' g (wN c).1 (wN c).2 ∧ w.grownBy w' (some g) := CWide g c.1 c.2 w hB hs
theorem nxt_len {α : Type} (c : CS) (g : Option (α × Nat)) : (Num.nxt c g).1.length ≤ c.1.length := by
  unfold Num.nxt
  split
  · exact Nat.le_refl _
  · cases g with
    | none => exact Nat.le_refl _
    | some x => simp
theorem sV_nat (c : CS) : ∃ n : Nat, sV c = n ∧ n < 18446744073709551616 := by
  unfold sV
  split
  · exact ⟨0, rfl, by omega⟩
  · cases h : Num.getSmall c.1 with
    | none => exact ⟨0, rfl, by omega⟩
    | some x =>
      obtain ⟨n, k⟩ := x
      exact ⟨n, rfl, (getSmall_bd _ _ _ h).1⟩

theorem keyLit (l : List UInt8) (hl : l.length ≤ maxLen) : keyOf Tryz.prog 9 (.string (bs l)) = some (.string l) := keyOf_string_mk Tryz.underlying9 (by rw [bs_size]; exact hl)
/-- The series that bytes begin with, behind keys, and the keys then; and what is left. -/
def namesGet (K : List (List UInt8)) (c : CS) : Option (List Lb × List (List UInt8)) × CS :=
  if (sN c).2 = true ∨ (K.length : Int) < sV c then (none, sN c)
  else if sV c < (K.length : Int) then
    ((ofB (K.getD (sV c).toNat [])).bind fun L => if K.idxOf (K.getD (sV c).toNat []) = (sV c).toNat then some (L, K) else none, sN c)
  else if (nT (sN c) 600).2 = true ∨ tT (sN c) 600 ∈ K then (none, nT (sN c) 600)
  else ((ofB (tT (sN c) 600)).map fun L => (L, K ++ [tT (sN c) 600]), nT (sN c) 600)

section
variable {w w' : World} {B n m gc : Nat} {K : List (List UInt8)} {kv : Value} {D : DataW Unit}
theorem lookup_run {l : List UInt8} (hl : l.length ≤ maxLen) (h : NamesIs w B n K kv m D) (hm : l ∈ K) : (Instr.lookup 66 (.map (some m)) (.string (bs l)) false).run Tryz.prog w = .ok (.int .i64 (K.idxOf l : Nat)) w := by
  obtain ⟨v, ps, h1, h2⟩ := World.ownsMap.lookup (t := 66) (e := 3) h.map (string_keyed Tryz.underlying9) Tryz.underlying66 (z := .int .i64 0) (by kernel_rfl) (zd := .lit (.int .i64 0)) (zp := []) rfl (keyLit l hl)
  rw [(h.dict l).2 hm] at h2
  obtain rfl := intR_lit h2
  exact h1
theorem key_cell {j : Nat} {l : List UInt8} (h : NamesIs w B n K kv m D) (hj : K[j]? = some l) : ∃ g c, kv = .slice (some ⟨g, 0, none⟩) K.length c ∧ w.cell? ⟨g, j, none⟩ = some (.string (bs l)) := by
  have hcells : ∀ g, kv.ownBlock = some g → ∀ j u, (strs K)[j]? = some u → w.cell? ((⟨g, 0, none⟩ : Addr).add j) = some u := fun g hg => h.row.cells (g := g) hg
  rcases h.row.2 with ⟨e, e0⟩ | ⟨g, cap, cur, e, e1, e2, e3⟩
  · rw [List.length_eq_zero_iff.1 e0] at hj
    simp at hj
  · refine ⟨g, cap, e, ?_⟩
    have := hcells g (by rw [e]; rfl) j (.string (bs l)) (by unfold strs; rw [List.getElem?_map, hj]; rfl)
    rw [addr_add] at this
    exact this
theorem cur_away (h : NamesIs w B n K kv m D) {s : List UInt8} {bad : Bool} (hc : Cur w gc s bad) : ∀ k, NF n m kv k → k ≠ gc := fun k hk e => by
  have h0 := tag_blk hc
  rcases hk with rfl | rfl | hk
  · rw [← e, tag_blk h.blk] at h0
    simp at h0
  · rw [← e, tag_map h.map] at h0
    simp at h0
  · rw [← e, tag_row h.row hk] at h0
    simp at h0

theorem names_tag (h : NamesIs w B n K kv m D) : ∀ k, NF n m kv k → tag w k ≠ some (some 53) := fun k hk e => by
  rcases hk with rfl | rfl | hk
  · rw [tag_blk h.blk] at e
    simp at e
  · rw [tag_map h.map] at e
    simp at e
  · rw [tag_row h.row hk] at e
    simp at e
/-- What get answers. -/
def GetIs (w : World) (B n m gc : Nat) (kv : Value) (r : Option (List Lb × List (List UInt8)) × CS) (e : Ending) (w' : World) : Prop :=
  Kept w w' (fun k => NF n m kv k ∨ k = gc) ∧ match r.1 with
    | none => ∃ v, e = .returned (.tuple #[v, .bool false])
    | some (L, K') => ∃ v kv' D', e = .returned (.tuple #[v, .bool true]) ∧ LabsOwn w' v L ∧ Cur w' gc r.2.1 r.2.2 ∧ NamesIs w' B n K' kv' m D' ∧ ∀ k, NF n m kv' k → NF n m kv k ∨ w.heap.size ≤ k
set_option maxRecDepth 100000 in
set_option maxHeartbeats 4000000 in
theorem get_any (c : CS) (h : NamesIs w B n K kv m D) (hC : Cur w gc c.1 c.2) (hl : c.1.length ≤ 1000000) (hK : K.length ≤ 1048576) (hKl : ∀ k ∈ K, k.length ≤ 1000000) (hB : B ≤ w.heap.size) :
    Calls Tryz.prog 55 #[.pointer (some ⟨n, 0, none⟩), .pointer (some ⟨gc, 0, none⟩)] w (GetIs w B n m gc kv (namesGet K c)) := by
  have q1 := Lib.hid (CSm gc c w hC (by omega))
  obtain ⟨a, ha, ha2⟩ := sV_nat c
  have hG : namesGet K c = if (sN c).2 = true ∨ (K.length : Int) < a then (none, sN c)
      else if (a : Int) < (K.length : Int) then
        ((ofB (K.getD a [])).bind fun L => if K.idxOf (K.getD a []) = a then some (L, K) else none, sN c)
      else if (nT (sN c) 600).2 = true ∨ tT (sN c) 600 ∈ K then (none, nT (sN c) 600)
      else ((ofB (tT (sN c) 600)).map fun L => (L, K ++ [tT (sN c) 600]), nT (sN c) 600) := by
    unfold namesGet
    rw [ha]
    rfl
  rw [ha] at q1
  have hl1 : (sN c).1.length ≤ 1000000 := Nat.le_trans (nxt_len _ _) hl
  have hcl := cur_away h hC
  generalize namesGet K c = R at *
  generalize sN c = c1 at *
  clear ha hC
  have hKw : IntKind.u64.wrap (K.length : Int) = K.length := by simp [IntKind.wrap, IntKind.bits, IntKind.signed]; omega
  by_cases hb1 : c1.2 = true
  · rw [if_pos (.inl hb1)] at hG
    subst hG
    rw [hb1] at q1
    go_enter Tryz.func55, Tryz.ntmps55
    go_wp2_with fail
    refine q1.out.mono ?_
    rintro e w1 ⟨rfl, hC1, hg1⟩
    have d1 := hC1.c1
    go_wp2_with fail
    go_ret2
    exact ⟨Kept.of_grown hg1 fun k e => .inr (Option.some.inj e).symm, _, rfl⟩
  have hb1 : c1.2 = false := by simpa using hb1
  rw [hb1] at q1
  by_cases hlt : K.length < a
  · rw [if_pos (.inr (by omega))] at hG
    subst hG
    obtain ⟨sa, sc, rfl⟩ := h.form
    have HN := Lib.hid h
    have hd : decide ((K.length : Int) < (a : Int)) = true := by simpa using hlt
    go_enter Tryz.func55, Tryz.ntmps55
    go_wp2_with fail
    refine q1.out.mono ?_
    rintro e w1 ⟨rfl, hC1, hg1⟩
    have d1 := hC1.c1
    have hbk := HN.out.blk.grown hg1 (fun e => hcl n (.inl rfl) (Option.some.inj e))
    have d0 : w1.cell? ⟨n, 0, none⟩ = some (.slice sa K.length sc) := (Blk.cell hbk 0).trans rfl
    go_wp2_with fail
    go_ret2
    exact ⟨Kept.of_grown hg1 fun k e => .inr (Option.some.inj e).symm, _, rfl⟩
  rw [if_neg (by rw [hb1]; simp; omega)] at hG
  by_cases hlt2 : a < K.length
  · rw [if_pos (by omega)] at hG
    have hKa : K[a]? = some K[a] := List.getElem?_eq_getElem hlt2
    have hmem : K[a] ∈ K := List.getElem_mem hlt2
    rw [show K.getD a [] = K[a] from by rw [List.getD_eq_getElem?_getD, hKa]; rfl] at hG
    generalize K[a] = l at *
    have hll := hKl l hmem
    have HG := Lib.hid hG
    clear hG
    obtain ⟨g, sc, rfl, _⟩ := key_cell h hKa
    have HN := Lib.hid h
    have d1 : decide ((K.length : Int) < (a : Int)) = false := by simp; omega
    have d2 : decide ((a : Int) < (K.length : Int)) = true := by simp; omega
    have d1' : decide (K.length < a) = false := by simp; omega
    have d2' : decide (a < K.length) = true := by simp; omega
    have hal : (a : Int) < (K.length : Int) := by omega
    have q2 := Lib.hid (fun W => LOf_any l W hll)
    have hiw : IntKind.i64.wrap (a : Int) = a := by simp [IntKind.wrap, IntKind.bits, IntKind.signed]; omega
    go_enter Tryz.func55, Tryz.ntmps55
    go_wp2_with fail
    refine q1.out.mono ?_
    rintro e w1 ⟨rfl, hC1, hg1⟩
    have hk1 : Kept w w1 (fun k => k = gc) := Kept.of_grown hg1 fun k e => (Option.some.inj e).symm
    have hN1 := HN.out.kept hk1 hcl
    have c1 := hC1.c1
    have c0 : w1.cell? ⟨n, 0, none⟩ = some (.slice (some ⟨g, 0, none⟩) K.length sc) := (Blk.cell hN1.blk 0).trans rfl
    have c2 : w1.cell? ⟨g, a, none⟩ = some (.string (bs l)) := by
      obtain ⟨g', sc', e, hc⟩ := key_cell hN1 hKa
      cases e
      exact hc
    go_wp2_with fail
    refine (q2.out _).mono ?_
    rintro e w2 ⟨hOf, hb2⟩
    have hkk := (hk1.weaken (T := fun k => NF n m (.slice (some ⟨g, 0, none⟩) K.length sc) k ∨ k = gc) fun k e => .inr e).trans (Kept.of_below hb2)
    have hN2 := hN1.below hb2
    have hC2 : Cur w2 gc _ _ := Blk.below hC1 hb2 hC1.lt
    unfold OfIs at hOf
    cases hof : ofB l with
    | none =>
      rw [hof] at hOf
      obtain rfl := hOf
      have hGr : R.1 = none := by rw [HG.out, hof]; rfl
      have HK := Lib.hid hkk
      clear hkk hN1 hN2 hC1 hC2 hg1 hk1 q1 q2 c0 c1 c2 hb2
      go_wp2_with fail
      refine wp_region_at (R := GrowR) (by kernel_rfl) (by kernel_rfl) ?_
      (refine lex_one (by kernel_rfl) (by kernel_rfl) (by kernel_rfl) (fun K hK => ?_); go_big_quiet_step (fail); refine wpQuiet_nil (hK _ ?_); clear hK K); (refine lex_one (by kernel_rfl) (by kernel_rfl) (by kernel_rfl) (fun K hK => ?_); go_big_quiet_step (fail); refine wpQuiet_nil (hK _ ?_); clear hK K); (refine lex_one (by kernel_rfl) (by kernel_rfl) (by kernel_rfl) (fun K hK => ?_); go_big_quiet_step (fail); refine wpQuiet_nil (hK _ ?_); clear hK K)
      (refine lex_none (by kernel_rfl) (by kernel_rfl) (by kernel_rfl) (fun K hK => ?_); go_big_quiet_step (fail); refine wpQuiet_nil (hK _ ?_); clear hK K); (refine lex_none (by kernel_rfl) (by kernel_rfl) (by kernel_rfl) (fun K hK => ?_); go_big_quiet_step (fail); refine wpQuiet_nil (hK _ ?_); clear hK K); (refine lex_none (by kernel_rfl) (by kernel_rfl) (by kernel_rfl) (fun K hK => ?_); go_big_quiet_step (fail); refine wpQuiet_nil (hK _ ?_); clear hK K); (refine lex_none (by kernel_rfl) (by kernel_rfl) (by kernel_rfl) (fun K hK => ?_); go_big_quiet_step (fail); refine wpQuiet_nil (hK _ ?_); clear hK K); (refine lex_none (by kernel_rfl) (by kernel_rfl) (by kernel_rfl) (fun K hK => ?_); go_big_quiet_step (fail); refine wpQuiet_nil (hK _ ?_); clear hK K); (refine lex_none (by kernel_rfl) (by kernel_rfl) (by kernel_rfl) (fun K hK => ?_); go_big_quiet_step (fail); refine wpQuiet_nil (hK _ ?_); clear hK K); (refine lex_none (by kernel_rfl) (by kernel_rfl) (by kernel_rfl) (fun K hK => ?_); go_big_quiet_step (fail); refine wpQuiet_nil (hK _ ?_); clear hK K); (refine lex_none (by kernel_rfl) (by kernel_rfl) (by kernel_rfl) (fun K hK => ?_); go_big_quiet_step (fail); refine wpQuiet_nil (hK _ ?_); clear hK K); (refine lex_none (by kernel_rfl) (by kernel_rfl) (by kernel_rfl) (fun K hK => ?_); go_big_quiet_step (fail); refine wpQuiet_nil (hK _ ?_); clear hK K); (refine lex_none (by kernel_rfl) (by kernel_rfl) (by kernel_rfl) (fun K hK => ?_); go_big_quiet_step (fail); refine wpQuiet_nil (hK _ ?_); clear hK K); (refine lex_none (by kernel_rfl) (by kernel_rfl) (by kernel_rfl) (fun K hK => ?_); go_big_quiet_step (fail); refine wpQuiet_nil (hK _ ?_); clear hK K); (refine lex_none (by kernel_rfl) (by kernel_rfl) (by kernel_rfl) (fun K hK => ?_); go_big_quiet_step (fail); refine wpQuiet_nil (hK _ ?_); clear hK K); (refine lex_none (by kernel_rfl) (by kernel_rfl) (by kernel_rfl) (fun K hK => ?_); go_big_quiet_step (fail); refine wpQuiet_nil (hK _ ?_); clear hK K); (refine lex_none (by kernel_rfl) (by kernel_rfl) (by kernel_rfl) (fun K hK => ?_); go_big_quiet_step (fail); refine wpQuiet_nil (hK _ ?_); clear hK K); (refine lex_none (by kernel_rfl) (by kernel_rfl) (by kernel_rfl) (fun K hK => ?_); go_big_quiet_step (fail); refine wpQuiet_nil (hK _ ?_); clear hK K)
      (refine lex_one (by kernel_rfl) (by kernel_rfl) (by kernel_rfl) (fun K hK => ?_); go_big_quiet_step (fail); refine wpQuiet_nil (hK _ ?_); clear hK K); (refine lex_one (by kernel_rfl) (by kernel_rfl) (by kernel_rfl) (fun K hK => ?_); go_big_quiet_step (fail); refine wpQuiet_nil (hK _ ?_); clear hK K); (refine lex_one (by kernel_rfl) (by kernel_rfl) (by kernel_rfl) (fun K hK => ?_); go_big_quiet_step (fail); refine wpQuiet_nil (hK _ ?_); clear hK K)
      refine lex_nil (by kernel_rfl) (by kernel_rfl) (by kernel_rfl) ?_
      intro w3 hb3
      simp only [hideAll]
      go_wp2_with fail
      go_ret2
      unfold GetIs
      rw [hGr]
      exact ⟨HK.out.trans (Kept.of_below hb3), _, rfl⟩
    | some L =>
      rw [hof] at hOf
      obtain ⟨v, rfl, hLa⟩ := hOf
      have HK := Lib.hid hkk
      have hHG := HG.out
      rw [hof] at hHG
      obtain ⟨va, vc, rfl, _⟩ := id hLa.1
      have HLa := Lib.hid hLa
      have hlk := fun (W : World) (hW : GrowR w2 W) => lookup_run (l := l) (by unfold maxLen; omega) (hN2.below hW) hmem
      have c0' : w2.cell? ⟨n, 0, none⟩ = some (.slice (some ⟨g, 0, none⟩) K.length sc) := (Blk.cell hN2.blk 0).trans rfl
      have c1' : w2.cell? ⟨n, 1, none⟩ = some (.map (some m)) := (Blk.cell hN2.blk 1).trans rfl
      have c2' := (hb2.cell (World.block_lt_of_cell? _ _ c2)).trans c2
      have g0 := grow_cell c0'
      have g1 := grow_cell c1'
      have g2 := grow_cell c2'
      have HHG := Lib.hid hHG
      have HC2 := Lib.hid hC2
      have HN2 := Lib.hid hN2
      have HLK := Lib.hid hlk
      have hix : ∃ j : Nat, K.idxOf l = j := ⟨_, rfl⟩
      obtain ⟨j, hj⟩ := hix
      rw [hj] at HLK HHG
      clear hkk hN1 hN2 hC1 hC2 hg1 hk1 q1 q2 c0 c1 c2 hb2 hLa hlk c0' c1' c2' hHG HG
      by_cases hja : j = a
      · subst hja
        have HR := Lib.hid (show R = (some (L, K), c1) by rw [HHG.out]; simp)
        go_wp2_with fail
        refine wp_region_at (R := GrowR) (by kernel_rfl) (by kernel_rfl) ?_
        (refine lex_one (by kernel_rfl) (by kernel_rfl) (by kernel_rfl) (fun K hK => ?_); go_big_quiet_step (fail); refine wpQuiet_nil (hK _ ?_); clear hK K); (refine lex_one (by kernel_rfl) (by kernel_rfl) (by kernel_rfl) (fun K hK => ?_); go_big_quiet_step (fail); refine wpQuiet_nil (hK _ ?_); clear hK K); (refine lex_one (by kernel_rfl) (by kernel_rfl) (by kernel_rfl) (fun K hK => ?_); go_big_quiet_step (fail); refine wpQuiet_nil (hK _ ?_); clear hK K); (refine lex_one (by kernel_rfl) (by kernel_rfl) (by kernel_rfl) (fun K hK => ?_); go_big_quiet_step (fail); refine wpQuiet_nil (hK _ ?_); clear hK K); (refine lex_one (by kernel_rfl) (by kernel_rfl) (by kernel_rfl) (fun K hK => ?_); go_big_quiet_step (fail); refine wpQuiet_nil (hK _ ?_); clear hK K); (refine lex_one (by kernel_rfl) (by kernel_rfl) (by kernel_rfl) (fun K hK => ?_); go_big_quiet_step (fail); refine wpQuiet_nil (hK _ ?_); clear hK K); (refine lex_one (by kernel_rfl) (by kernel_rfl) (by kernel_rfl) (fun K hK => ?_); go_big_quiet_step (fail); refine wpQuiet_nil (hK _ ?_); clear hK K); (refine lex_one (by kernel_rfl) (by kernel_rfl) (by kernel_rfl) (fun K hK => ?_); go_big_quiet_step (fail); refine wpQuiet_nil (hK _ ?_); clear hK K); (refine lex_one (by kernel_rfl) (by kernel_rfl) (by kernel_rfl) (fun K hK => ?_); go_big_quiet_step (fail); refine wpQuiet_nil (hK _ ?_); clear hK K); (refine lex_one (by kernel_rfl) (by kernel_rfl) (by kernel_rfl) (fun K hK => ?_); go_big_quiet_step (fail); refine wpQuiet_nil (hK _ ?_); clear hK K); (refine lex_one (by kernel_rfl) (by kernel_rfl) (by kernel_rfl) (fun K hK => ?_); go_big_quiet_step (fail); refine wpQuiet_nil (hK _ ?_); clear hK K)
        (refine lex_one (by kernel_rfl) (by kernel_rfl) (by kernel_rfl) (fun K hK => ?_); go_big_quiet_step (fail); refine wpQuiet_nil (hK _ ?_); clear hK K); (refine lex_one (by kernel_rfl) (by kernel_rfl) (by kernel_rfl) (fun K hK => ?_); go_big_quiet_step (fail); refine wpQuiet_nil (hK _ ?_); clear hK K); (refine lex_one (by kernel_rfl) (by kernel_rfl) (by kernel_rfl) (fun K hK => ?_); go_big_quiet_step (fail); refine wpQuiet_nil (hK _ ?_); clear hK K)
        (refine lex_val (v := .int .i64 (j : Int)) (by kernel_rfl) (fun _ _ h => by cases h) (by kernel_rfl) (by kernel_rfl) (fun W hW => by have hl := HLK.out W hW; go_simp) (lex_put (type := 0) (pos := "") (fun K hK => ?_)); go_big_quiet_step (fail); refine wpQuiet_nil (hK _ ?_); clear hK K)
        (refine lex_one (by kernel_rfl) (by kernel_rfl) (by kernel_rfl) (fun K hK => ?_); go_big_quiet_step (fail); refine wpQuiet_nil (hK _ ?_); clear hK K); (refine lex_one (by kernel_rfl) (by kernel_rfl) (by kernel_rfl) (fun K hK => ?_); go_big_quiet_step (fail); refine wpQuiet_nil (hK _ ?_); clear hK K); (refine lex_one (by kernel_rfl) (by kernel_rfl) (by kernel_rfl) (fun K hK => ?_); go_big_quiet_step (fail); refine wpQuiet_nil (hK _ ?_); clear hK K)
        (refine lex_one (by kernel_rfl) (by kernel_rfl) (by kernel_rfl) (fun K hK => ?_); go_big_quiet_step (fail); refine wpQuiet_nil (hK _ ?_); clear hK K); (refine lex_one (by kernel_rfl) (by kernel_rfl) (by kernel_rfl) (fun K hK => ?_); go_big_quiet_step (fail); refine wpQuiet_nil (hK _ ?_); clear hK K); (refine lex_one (by kernel_rfl) (by kernel_rfl) (by kernel_rfl) (fun K hK => ?_); go_big_quiet_step (fail); refine wpQuiet_nil (hK _ ?_); clear hK K)
        refine lex_nil (by kernel_rfl) (by kernel_rfl) (by kernel_rfl) ?_
        intro w3 hb3
        simp only [hideAll]
        go_wp2_with fail
        go_ret2
        unfold GetIs
        rw [HR.out]
        exact ⟨HK.out.trans (Kept.of_below hb3), _, _, _, rfl, HLa.out.below hb3, by show Cur w3 gc c1.1 c1.2; rw [hb1]; exact Blk.below HC2.out hb3 HC2.out.lt, HN2.out.below hb3, fun k hk => .inl hk⟩
      · have hz : (j == a) = false := by simpa using hja
        have hz' : ((j : Int) == (a : Int)) = false := by simp; omega
        have HR := Lib.hid (show R = (none, c1) by rw [HHG.out]; simp [hja])
        clear hja
        go_wp2_with fail
        refine wp_region_at (R := GrowR) (by kernel_rfl) (by kernel_rfl) ?_
        (refine lex_one (by kernel_rfl) (by kernel_rfl) (by kernel_rfl) (fun K hK => ?_); go_big_quiet_step (fail); refine wpQuiet_nil (hK _ ?_); clear hK K); (refine lex_one (by kernel_rfl) (by kernel_rfl) (by kernel_rfl) (fun K hK => ?_); go_big_quiet_step (fail); refine wpQuiet_nil (hK _ ?_); clear hK K); (refine lex_one (by kernel_rfl) (by kernel_rfl) (by kernel_rfl) (fun K hK => ?_); go_big_quiet_step (fail); refine wpQuiet_nil (hK _ ?_); clear hK K); (refine lex_one (by kernel_rfl) (by kernel_rfl) (by kernel_rfl) (fun K hK => ?_); go_big_quiet_step (fail); refine wpQuiet_nil (hK _ ?_); clear hK K); (refine lex_one (by kernel_rfl) (by kernel_rfl) (by kernel_rfl) (fun K hK => ?_); go_big_quiet_step (fail); refine wpQuiet_nil (hK _ ?_); clear hK K); (refine lex_one (by kernel_rfl) (by kernel_rfl) (by kernel_rfl) (fun K hK => ?_); go_big_quiet_step (fail); refine wpQuiet_nil (hK _ ?_); clear hK K); (refine lex_one (by kernel_rfl) (by kernel_rfl) (by kernel_rfl) (fun K hK => ?_); go_big_quiet_step (fail); refine wpQuiet_nil (hK _ ?_); clear hK K); (refine lex_one (by kernel_rfl) (by kernel_rfl) (by kernel_rfl) (fun K hK => ?_); go_big_quiet_step (fail); refine wpQuiet_nil (hK _ ?_); clear hK K); (refine lex_one (by kernel_rfl) (by kernel_rfl) (by kernel_rfl) (fun K hK => ?_); go_big_quiet_step (fail); refine wpQuiet_nil (hK _ ?_); clear hK K); (refine lex_one (by kernel_rfl) (by kernel_rfl) (by kernel_rfl) (fun K hK => ?_); go_big_quiet_step (fail); refine wpQuiet_nil (hK _ ?_); clear hK K); (refine lex_one (by kernel_rfl) (by kernel_rfl) (by kernel_rfl) (fun K hK => ?_); go_big_quiet_step (fail); refine wpQuiet_nil (hK _ ?_); clear hK K)
        (refine lex_one (by kernel_rfl) (by kernel_rfl) (by kernel_rfl) (fun K hK => ?_); go_big_quiet_step (fail); refine wpQuiet_nil (hK _ ?_); clear hK K); (refine lex_one (by kernel_rfl) (by kernel_rfl) (by kernel_rfl) (fun K hK => ?_); go_big_quiet_step (fail); refine wpQuiet_nil (hK _ ?_); clear hK K); (refine lex_one (by kernel_rfl) (by kernel_rfl) (by kernel_rfl) (fun K hK => ?_); go_big_quiet_step (fail); refine wpQuiet_nil (hK _ ?_); clear hK K)
        (refine lex_val (v := .int .i64 (j : Int)) (by kernel_rfl) (fun _ _ h => by cases h) (by kernel_rfl) (by kernel_rfl) (fun W hW => by have hl := HLK.out W hW; go_simp) (lex_put (type := 0) (pos := "") (fun K hK => ?_)); go_big_quiet_step (fail); refine wpQuiet_nil (hK _ ?_); clear hK K)
        (refine lex_one (by kernel_rfl) (by kernel_rfl) (by kernel_rfl) (fun K hK => ?_); go_big_quiet_step (fail); refine wpQuiet_nil (hK _ ?_); clear hK K); (refine lex_one (by kernel_rfl) (by kernel_rfl) (by kernel_rfl) (fun K hK => ?_); go_big_quiet_step (fail); refine wpQuiet_nil (hK _ ?_); clear hK K); (refine lex_one (by kernel_rfl) (by kernel_rfl) (by kernel_rfl) (fun K hK => ?_); go_big_quiet_step (fail); refine wpQuiet_nil (hK _ ?_); clear hK K)
        (refine lex_one (by kernel_rfl) (by kernel_rfl) (by kernel_rfl) (fun K hK => ?_); go_big_quiet_step (fail); refine wpQuiet_nil (hK _ ?_); clear hK K); (refine lex_one (by kernel_rfl) (by kernel_rfl) (by kernel_rfl) (fun K hK => ?_); go_big_quiet_step (fail); refine wpQuiet_nil (hK _ ?_); clear hK K); (refine lex_one (by kernel_rfl) (by kernel_rfl) (by kernel_rfl) (fun K hK => ?_); go_big_quiet_step (fail); refine wpQuiet_nil (hK _ ?_); clear hK K)
        refine lex_nil (by kernel_rfl) (by kernel_rfl) (by kernel_rfl) ?_
        intro w3 hb3
        simp only [hideAll]
        go_wp2_with fail
        go_ret2
        unfold GetIs
        rw [HR.out]
        exact ⟨HK.out.trans (Kept.of_below hb3), _, rfl⟩
  · rw [if_neg (by omega)] at hG
    obtain rfl : a = K.length := by omega
    obtain ⟨sa, sc, rfl⟩ := h.form
    have HG := Lib.hid hG
    have HN := Lib.hid h
    have d1 : decide ((K.length : Int) < (K.length : Int)) = false := by simp
    have d1' : decide (K.length < K.length) = false := by simp
    have hl2 : (nT c1 600).1.length ≤ 1000000 := Nat.le_trans (nxt_len _ _) hl1
    have htl : (tT c1 600).length ≤ 600 := by
      unfold tT
      rw [hb1]
      cases ht : Num.getText c1.1 600 with
      | none => simp [gsval]
      | some x =>
        obtain ⟨x, k⟩ := x
        have := (getText_bd _ _ _ _ ht).1
        simp [gsval]
        omega
    have q2 := Lib.hid (fun W (hW : Cur W gc c1.1 c1.2) => CT gc c1 600 W hW (by omega) (by omega) (by omega))
    rw [hb1] at q2
    generalize tT c1 600 = l at *
    generalize nT c1 600 = c2 at *
    clear hG h
    have hkey := keyLit l (by unfold maxLen; omega)
    have q3 := Lib.hid (fun W => LOf_any l W (by omega))
    have qA := Lib.hid (fun (W : World) (hN : NamesIs W B n K (.slice sa K.length sc) m D) (hs : B ≤ W.heap.size) => add_any l hN (by omega) hK hs)
    go_enter Tryz.func55, Tryz.ntmps55
    go_wp2_with fail
    refine q1.out.mono ?_
    rintro e w1 ⟨rfl, hC1, hg1⟩
    have hk1 : Kept w w1 (fun k => k = gc) := Kept.of_grown hg1 fun k e => (Option.some.inj e).symm
    have hN1 := HN.out.kept hk1 hcl
    have d2 := hC1.c1
    have c0 : w1.cell? ⟨n, 0, none⟩ = some (.slice sa K.length sc) := (Blk.cell hN1.blk 0).trans rfl
    go_wp2_with fail
    refine (q2.out _ hC1).mono ?_
    rintro e w2 ⟨rfl, hC2, hg2⟩
    have hk2 : Kept w1 w2 (fun k => k = gc) := Kept.of_grown hg2 fun k e => (Option.some.inj e).symm
    have hN2 := hN1.kept hk2 hcl
    have HK := Lib.hid ((hk1.trans hk2).weaken (T := fun k => NF n m (.slice sa K.length sc) k ∨ k = gc) fun k e => .inr e)
    have HM := Lib.hid hN2.map
    have HN2 := Lib.hid hN2
    have c1' : w2.cell? ⟨n, 1, none⟩ = some (.map (some m)) := (Blk.cell hN2.blk 1).trans rfl
    have hgcl : gc < w2.heap.size := hC2.lt
    have HC2 := Lib.hid hC2
    clear hk1 hk2 hN1 hN2 hg1 hg2 hC1 hC2 c0 d2 q1 q2 HN
    have hh : Maps.has D (.string l) = decide (l ∈ K) := (HN2.out.dict l).1
    generalize hmm : decide (l ∈ K) = mm at *
    go_wp2_with (at_lookup; refine wpList_lookup_own_ok _ rfl _ _ 66 rfl 9 3 (string_keyed Tryz.underlying9) Tryz.underlying66 intR (z := .int .i64 0) (by kernel_rfl) (.lit (.int .i64 0)) [] rfl m K.length D rfl HM.out _ _ rfl hkey ?_; intro x ps hx; rw [hh]; clear hx)
    refine (q3.out _).mono ?_
    rintro e w3 ⟨hOf, hb3⟩
    have HK3 := Lib.hid (HK.out.trans (Kept.of_below hb3))
    have hC3 : Cur w3 gc _ _ := Blk.below HC2.out hb3 hgcl
    have c3 := hC3.c1
    have HC3 := Lib.hid hC3
    have HN3 := Lib.hid (HN2.out.below hb3)
    clear hC3 HC2 HN2 HK HM hb3 c1' q3
    unfold OfIs at hOf
    cases hof : ofB l with
    | none =>
      rw [hof] at hOf
      obtain rfl := hOf
      have HR := Lib.hid (show R = (none, c2) by rw [HG.out, hof]; split <;> rfl)
      clear HG
      cases hcb : c2.2 with
      | true =>
        rw [hcb] at c3
        go_wp2_with fail
        go_ret2
        unfold GetIs
        rw [HR.out]
        exact ⟨HK3.out, _, rfl⟩
      | false =>
        rw [hcb] at c3
        cases mm with
        | true =>
          go_wp2_with fail
          go_ret2
          unfold GetIs
          rw [HR.out]
          exact ⟨HK3.out, _, rfl⟩
        | false =>
          go_wp2_with fail
          go_ret2
          unfold GetIs
          rw [HR.out]
          exact ⟨HK3.out, _, rfl⟩
    | some L =>
      rw [hof] at hOf
      obtain ⟨v, rfl, hLa⟩ := hOf
      obtain ⟨va, vc, rfl, _⟩ := id hLa.1
      have HLa := Lib.hid hLa
      clear hLa
      cases hcb : c2.2 with
      | true =>
        have HR := Lib.hid (show R = (none, c2) by rw [HG.out, if_pos (.inl hcb)])
        clear HG
        rw [hcb] at c3
        go_wp2_with fail
        go_ret2
        unfold GetIs
        rw [HR.out]
        exact ⟨HK3.out, _, rfl⟩
      | false =>
        rw [hcb] at c3
        cases mm with
        | true =>
          have HR := Lib.hid (show R = (none, c2) by rw [HG.out, if_pos (.inr (of_decide_eq_true hmm))])
          clear HG
          go_wp2_with fail
          go_ret2
          unfold GetIs
          rw [HR.out]
          exact ⟨HK3.out, _, rfl⟩
        | false =>
          have HR := Lib.hid (show R = (some (L, K ++ [l]), c2) by rw [HG.out, if_neg (by rw [hcb]; simp; exact of_decide_eq_false hmm), hof]; rfl)
          clear HG
          have hw3 : B ≤ w3.heap.size := Nat.le_trans hB HK3.out.size
          go_wp2_with fail
          refine (qA.out _ HN3.out hw3).mono ?_
          rintro e w4 ⟨rfl, kv4, D4, hN4, hT4⟩
          have HC4 := Lib.hid (show Cur w4 gc c2.1 c2.2 from Blk.keptK HC3.out hT4.kept (fun e => hcl _ e rfl))
          have HLa4 := Lib.hid (show LabsOwn w4 (.slice va L.length vc) L from HLa.out.kept hT4.kept fun b hb e => names_tag HN3.out b e hb)
          go_wp2_with fail
          go_ret2
          unfold GetIs
          rw [HR.out]
          exact ⟨HK3.out.trans (hT4.kept.weaken fun k e => .inl e), _, _, _, rfl, HLa4.out, HC4.out, hN4, fun k hk => (hT4.grow k hk).imp id fun e => Nat.le_trans HK3.out.size e⟩
end
end Go.Proofs.YtipdeiiipdnacaaGreat
