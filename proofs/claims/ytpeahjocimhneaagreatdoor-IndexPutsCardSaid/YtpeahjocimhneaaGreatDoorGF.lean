/- Labels of entries: who has one; all names and values: the walks. All names and values: the walk of Symbols. strings.Builder's WriteString and WriteByte, with what they leave as it lay: after the kit's shelf texts, over this program. Entries as bytes: small parts; entries of generation 1: the walks. Entries of generation 1 as bytes: the walk. -/
import Derived.Test.YtpeahjocimhneaaGreatDoorGE
import Derived.Test.YtpeahjocimhneaaGreatDoorShelfM
import Derived.Test.YtpeahjocimhneaaGreatDoorShelfF
import Derived.Laws.StructEq
import Derived.Test.YtpeahjocimhneaaGreatDoorGD
import Derived.Lib.FrozenHead2
import Derived.Lib.OthersKept
import Derived.Test.YtpeahjocimhneaaGreatDoorGB
namespace Go.Proofs.YtpeahjocimhneaaGreatDoor
open Go.RowKit Go.Maps Go.WideMaps
attribute [local go_sem] bs_toList bs_size

def encLb (x : Lb) : List Value := [.string (bs x.1), .string (bs x.2)]
theorem lb_eq (x y : Lb) : (x.1 == y.1 && x.2 == y.2) = decide (x = y) := by
  rw [Bool.eq_iff_iff]
  simp only [Bool.and_eq_true, beq_iff_eq, decide_eq_true_eq]
  exact ⟨fun ⟨a, b⟩ => Prod.ext a b, fun e => by subst e; exact ⟨rfl, rfl⟩⟩
set_option maxRecDepth 100000 in
theorem eqLb_run (x y : Lb) (w : World) : (binOp .eql 37 (.agg (encLb x).toArray) (.agg (encLb y).toArray)).run Tryz.prog w = .ok (.bool (decide (x = y))) w := by
  have u3 := Tryz.underlying9
  have hS : Tryz.prog.underlying 37 = some (.struct (Tryz.prog.fieldsOf 37)) := by kernel_rfl
  have hp : Tryz.prog.stoodInHeld 37 = false := by kernel_rfl
  have h1 := lb_eq x y
  simp only [encLb]
  rw [run_eql_struct, show (10000 : Nat) = 9999 + 1 from rfl, run_equalIn_agg w 9999 37 _ _ hS hp]
  simp only [Program.fieldsOf, Tryz.underlying37]
  go_simp
  rw [← h1]
  by_cases h2 : x.1 = y.1 <;> by_cases h3 : x.2 = y.2 <;> simp [h2, h3]
theorem eqLb : Go.Proofs.EqlAt Tryz.prog 37 (fun x : Lb => .agg (encLb x).toArray) (fun x y => decide (x = y)) :=
  ⟨eqLb_run, Go.Proofs.GuardAt.agg _ (by kernel_rfl)⟩
set_option maxRecDepth 100000 in
theorem Contains_any (L : List Lb) (v : Value) (y : Lb) (w : World) (h : LabsAt w v L) :
    Calls Tryz.prog 54 #[v, .agg #[.string (bs y.1), .string (bs y.2)]] w fun e w' => e = .returned (.bool (decide (y ∈ L))) ∧ Below w.heap.size w w' := by
  obtain ⟨a, c, rfl, hn, hx⟩ := h
  cases L with
  | nil =>
    have q : Calls Tryz.prog 88 #[.slice a 0 c, .agg #[.string (bs y.1), .string (bs y.2)]] (w.alloc (.cells #[.string (bs y.1), .string (bs y.2)] 37)) fun e w' => e = .returned (.int .i64 (-1)) ∧ Below (w.alloc (.cells #[.string (bs y.1), .string (bs y.2)] 37)).heap.size (w.alloc (.cells #[.string (bs y.1), .string (bs y.2)] 37)) w' := by
      go_enter Tryz.func88, Tryz.ntmps88
      go_wp2_with fail
      refine wp_loop_rounds 1 ?_
      rw [rounds_succ]
      go_wp2_with fail
      go_ret
      exact ⟨rfl, one_alloc _ _⟩
    have b0 := one_alloc w (.cells #[.string (bs y.1), .string (bs y.2)] 37)
    have Q := Lib.hid q
    clear q hx
    rw [show ([] : List Lb).length = 0 from rfl]
    go_enter Tryz.func54, Tryz.ntmps54
    go_wp2_with fail
    refine Q.out.mono ?_
    rintro e w2 ⟨rfl, hb2⟩
    go_wp2_with fail
    go_ret
    exact ⟨by simp, b0.trans (hb2.mono b0.size)⟩
  | cons z L =>
    obtain ⟨_, _, b, o, rfl, _⟩ := hx 0 z rfl
    refine (Tryz.slices_Contains 2 Tryz.isAgg37 Tryz.sizeOf37 encLb (fun _ => rfl) _ eqLb b o (z :: L).length c (z :: L) y w (Nat.le_refl _) (by omega) (fun j hj i u hu => ?_)).mono ?_
    · obtain ⟨_, _, b', o', e, d0, d1⟩ := hx j _ (List.getElem?_eq_getElem hj)
      obtain ⟨rfl, rfl, _⟩ := Addr.mk.inj (Option.some.inj e)
      rw [show (z :: L)[j]! = (z :: L)[j] from getElem!_pos _ j hj] at hu
      match i, hu with
      | 0, hu =>
        obtain rfl := Option.some.inj hu
        exact d0
      | 1, hu =>
        obtain rfl := Option.some.inj hu
        exact d1
      | n + 2, hu => simp [encLb] at hu
    · rintro e w' ⟨rfl, hb⟩
      refine ⟨?_, hb⟩
      rw [List.take_of_length_le (Nat.le_refl _)]
      congr 2
      rw [Bool.eq_iff_iff, List.any_eq_true, decide_eq_true_eq]
      constructor
      · rintro ⟨x, hx, e⟩
        rw [decide_eq_true_eq] at e
        exact e ▸ hx
      · exact fun e => ⟨y, e, by simp⟩
/-- Who has a label: places. -/
def hasI (E : List En) (y : Lb) (i : Nat) : Bool := decide (y ∈ (E.getD i zeroEn).labels)
def whoN (E : List En) (y : Lb) : List Nat := (List.range E.length).filter (hasI E y)
def intsN (l : List Nat) : List Int := l.map fun (i : Nat) => (i : Int)
theorem who_snoc (E : List En) (y : Lb) (i : Nat) : (List.range (i + 1)).filter (hasI E y) = (List.range i).filter (hasI E y) ++ if hasI E y i then [i] else [] := by
  rw [List.range_succ, List.filter_append, List.filter_cons, List.filter_nil]
theorem ints_cells_snoc (l : List Nat) (i : Nat) : (intsN l).map (Value.int .i64) ++ [.int .i64 (i : Int)] = (intsN (l ++ [i])).map (Value.int .i64) := by unfold intsN; simp
theorem filter_range_len (p : Nat → Bool) (n : Nat) : ((List.range n).filter p).length ≤ n := by
  have := List.length_filter_le p (List.range n)
  rwa [List.length_range] at this
theorem intsN_len (l : List Nat) : (intsN l).length = l.length := by unfold intsN; simp
theorem intsN_bd {l : List Nat} {n : Nat} (hn : n ≤ 100000) (h : ∀ x ∈ l, x < n) : ∀ x ∈ intsN l, -9223372036854775808 ≤ x ∧ x ≤ 9223372036854775807 := fun x hx => by
  unfold intsN at hx
  obtain ⟨i, hi, rfl⟩ := List.mem_map.1 hx
  have := h i hi
  omega
set_option maxRecDepth 100000 in
set_option maxHeartbeats 2000000 in
theorem Postings_any (E : List En) (v : Value) (y : Lb) (w : World) (h : EntsAt w v E) :
    Calls Tryz.prog 21 #[v, .agg #[.string (bs y.1), .string (bs y.2)]] w fun e w' => ∃ pv, e = .returned pv ∧ IntsAt w' pv (intsN (whoN E y)) ∧ Below w.heap.size w w' := by
  obtain ⟨a, c, rfl, hnil, hl, hlc, hx⟩ := h
  have HX := Lib.hid hx
  clear hx
  have QC := Lib.hid (fun W L lv (hL : LabsAt W lv L) => Contains_any L lv y W hL)
  have b0 := one_alloc w (.cells #[.string (bs y.1), .string (bs y.2)] 37)
  have c0 : (w.alloc (.cells #[.string (bs y.1), .string (bs y.2)] 37)).cell? ⟨w.heap.size, 0, none⟩ = some (.string (bs y.1)) := (World.cell?_alloc_new _ _ _ _).trans rfl
  have c1 : (w.alloc (.cells #[.string (bs y.1), .string (bs y.2)] 37)).cell? ⟨w.heap.size, 1, none⟩ = some (.string (bs y.2)) := (World.cell?_alloc_new _ _ _ _).trans rfl
  have ⟨i0, hin, hz0, hz1, hz2⟩ := info_parts (show (Tryz.prog.info? 3).map (fun i => (i.zero, i.size, i.bytes)) = some (some (.int .i64 0), 1, 8) by kernel_rfl)
  have r0 : (w.alloc (.cells #[.string (bs y.1), .string (bs y.2)] 37)).ownsRow (w.heap.size + 1) 3 1 (.slice none 0 0) ((List.range 0).filter (hasI E y)).length ((intsN ((List.range 0).filter (hasI E y))).map (Value.int .i64)) := World.ownsRow_nil _ _ _ _
  go_enter Tryz.func21, Tryz.ntmps21
  go_wp2_with fail
  go_loopw [5, 10] (fun vo vi wr => ∃ i : Nat, i ≤ E.length ∧ vi = .int .i64 (i : Int) ∧ wr.ownsRow (w.heap.size + 1) 3 1 vo ((List.range i).filter (hasI E y)).length ((intsN ((List.range i).filter (hasI E y))).map (Value.int .i64)) ∧ Below w.heap.size w wr ∧ wr.cell? ⟨w.heap.size, 0, none⟩ = some (.string (bs y.1)) ∧ wr.cell? ⟨w.heap.size, 1, none⟩ = some (.string (bs y.2)) ∧ w.heap.size + 1 ≤ wr.heap.size) (fun _ vi _ => E.length - (intOf vi).toNat)
  case atStart => exact ⟨0, Nat.zero_le _, rfl, r0, b0, c0, c1, by simp⟩
  clear b0 c0 c1 r0
  obtain ⟨i, hi, rfl, hrow, hb, c0, c1, hs⟩ := hrel
  obtain ⟨sa, sc, rfl⟩ := row_form hrow
  rcases (show i < E.length ∨ i = E.length by omega) with hil | rfl
  · obtain ⟨hok, b, o, rfl, a', c', d0, hL, d1, d2, d3⟩ := HX.out i E[i] (List.getElem?_eq_getElem hil)
    have e0 := (hb.cell (World.block_lt_of_cell? _ _ d0)).trans d0
    have e1 := (hb.cell (World.block_lt_of_cell? _ _ d1)).trans d1
    have e2 := (hb.cell (World.block_lt_of_cell? _ _ d2)).trans d2
    have e3 := (hb.cell (World.block_lt_of_cell? _ _ d3)).trans d3
    have HS := Lib.hid (who_snoc E y i)
    have hh : hasI E y i = decide (y ∈ E[i].labels) := by
      unfold hasI
      rw [List.getD_eq_getElem?_getD, List.getElem?_eq_getElem hil]
      rfl
    have bA := one_alloc wr (.cells #[.slice a' E[i].labels.length c', .int .i64 E[i].last, .int .i64 E[i].off, .int .i64 E[i].len] 59)
    have q := Lib.hid (QC.out _ _ _ ((hL.below hb).below bA))
    rw [← hh] at q
    have hlen := filter_range_len (hasI E y) i
    have c0A := (Below.cell bA (World.block_lt_of_cell? _ _ c0)).trans c0
    have c1A := (Below.cell bA (World.block_lt_of_cell? _ _ c1)).trans c1
    have BA := Lib.hid (hb.trans (bA.mono hb.size))
    have hrowA := World.ownsRow.alloc hrow (.cells #[.slice a' E[i].labels.length c', .int .i64 E[i].last, .int .i64 E[i].off, .int .i64 E[i].len] 59)
    have HC := Lib.hid (ints_cells_snoc ((List.range i).filter (hasI E y)) i)
    clear d0 d1 d2 d3 hL hok hrow hh
    generalize hasI E y i = bo at *
    generalize E[i] = x at *
    generalize (List.range i).filter (hasI E y) = P at *
    generalize hP2 : (List.range (i + 1)).filter (hasI E y) = P2 at *
    have HP2 := Lib.hid hP2
    clear hP2
    go_wp2_with fail
    refine q.out.mono ?_
    rintro e w2 ⟨rfl, hb2⟩
    have r2 := ownsRow_kept hrowA (Kept.of_below (S := fun _ => False) hb2) (fun _ _ e => e)
    have B2 := BA.out.trans (hb2.mono BA.out.size)
    have c02 := (Below.cell hb2 (World.block_lt_of_cell? _ _ c0A)).trans c0A
    have c12 := (Below.cell hb2 (World.block_lt_of_cell? _ _ c1A)).trans c1A
    have hs2 : w.heap.size + 1 ≤ w2.heap.size := by have := hb2.size; rw [World.size_alloc] at this; omega
    clear q hb2 BA hrowA c0A c1A c0 c1 bA
    cases bo with
    | true =>
      have HP := Lib.hid (show P2 = P ++ [i] from HS.out)
      clear HS
      go_wp2_with (at_builtin; refine wpList_append_own_at _ rfl _ _ 43 rfl (w.heap.size + 1) 3 i0 (.int .i64 0) 1 8 Tryz.underlying43 hin hz0 hz1 hz2 rfl (by decide) _ _ _ rfl (World.ownsRow.alloc r2 _) ⟨_, 0, none⟩ 1 1 [.int .i64 (i : Int)] rfl rfl (cell_one_new _ _ _) (by simp [Value.oneCell']) (by unfold maxLen; omega) (by omega) (by simp; omega) ?_; intro v' w5 hown' hgrow hnil2 hloc; obtain ⟨sa', sc', rfl⟩ := row_form hown')
      go_roundw
      case rel =>
        have hk : Kept w2 w5 (fun k => w.heap.size + 1 ≤ k) := (Kept.alloc w2 _ _).trans (Kept.of_grown hgrow fun k e => (r2.lt k e).1)
        refine ⟨i + 1, by omega, by go_num, ?_, B2.trans (hk.below B2.size fun k e => by omega), hk.cell c02 (by simp), hk.cell c12 (by simp), Nat.le_trans hs2 hk.size⟩
        rw [HP2.out, HP.out, ← HC.out, List.length_append]
        exact hown'
      case measure => simp [intOf]; omega
    | false =>
      have HP := Lib.hid (show P2 = P ++ [] from HS.out)
      clear HS
      go_wp2_with fail
      go_roundw
      case rel => exact ⟨i + 1, by omega, by go_num, by rw [HP2.out, HP.out, List.append_nil]; exact r2, B2, c02, c12, hs2⟩
      case measure => simp [intOf]; omega
  · have hlen := filter_range_len (hasI E y) E.length
    go_wp2_with fail
    go_ret
    refine ⟨_, rfl, ints_of_own hrow (by rw [intsN_len]; rfl) (by rw [intsN_len]; unfold whoN; omega) (intsN_bd hl fun x hx => List.mem_range.1 (List.mem_filter.1 hx).1), hb⟩
end Go.Proofs.YtpeahjocimhneaaGreatDoor
namespace Go.Proofs.YtpeahjocimhneaaGreatDoor
open Go.RowKit Go.Maps Go.WideMaps
attribute [local go_sem] bs_toList bs_size

def textsL (L : List Lb) : List (List UInt8) := L.flatMap fun y => [y.1, y.2]
theorem texts_def (E : List En) : textsOf E = E.flatMap fun x => textsL x.labels := rfl
theorem texts_take (E : List En) {i : Nat} (h : i < E.length) : textsOf (E.take (i + 1)) = textsOf (E.take i) ++ textsL E[i].labels := by
  rw [texts_def, texts_def, List.take_succ_eq_append_getElem h, List.flatMap_append]
  simp
theorem textsL_take (L : List Lb) {k : Nat} (h : k < L.length) : textsL (L.take (k + 1)) = textsL (L.take k) ++ [L[k].1, L[k].2] := by
  unfold textsL
  rw [List.take_succ_eq_append_getElem h, List.flatMap_append]
  simp
theorem textsL_len (L : List Lb) : (textsL L).length = L.length * 2 := by
  unfold textsL
  induction L with
  | nil => rfl
  | cons y L ih =>
    rw [List.flatMap_cons, List.length_append, ih]
    simp
    omega
theorem texts_part (E : List En) {i : Nat} (h : i < E.length) (k : Nat) : (textsOf (E.take i) ++ textsL (E[i].labels.take k)).length ≤ (textsOf E).length := by
  have e : textsOf E = textsOf (E.take (i + 1)) ++ textsOf (E.drop (i + 1)) := by
    rw [texts_def, texts_def, texts_def, ← List.flatMap_append, List.take_append_drop]
  rw [e, texts_take E h, List.length_append, List.length_append, List.length_append, textsL_len, textsL_len, List.length_take]
  omega
theorem texts_bd {w : World} {v : Value} {E : List En} (h : EntsAt w v E) : ∀ s ∈ textsOf E, s.length ≤ 1048576 := by
  intro s hs
  obtain ⟨a, c, rfl, hnil, hl, hlc, hx⟩ := h
  rw [texts_def, List.mem_flatMap] at hs
  obtain ⟨x, hxe, hs⟩ := hs
  obtain ⟨i, hi, rfl⟩ := List.mem_iff_getElem.1 hxe
  obtain ⟨_, b, o, _, a', c', _, hL, _⟩ := hx i _ (List.getElem?_eq_getElem hi)
  unfold textsL at hs
  rw [List.mem_flatMap] at hs
  obtain ⟨y, hy, hs⟩ := hs
  obtain ⟨j, hj, rfl⟩ := List.mem_iff_getElem.1 hy
  obtain ⟨_, _, _, _, hLx⟩ := hL
  obtain ⟨h1, h2, _⟩ := hLx j _ (List.getElem?_eq_getElem hj)
  simp only [List.mem_cons, List.not_mem_nil, or_false] at hs
  rcases hs with rfl | rfl
  · exact h1
  · exact h2
theorem strC_snoc (S : List (List UInt8)) (s t : List UInt8) : strC S ++ [.string (bs s), .string (bs t)] = strC (S ++ [s, t]) := by unfold strC; simp
theorem strC_enc (S : List (List UInt8)) : strC S = S.map encStr := by
  unfold strC
  apply List.map_congr_left
  intro s _
  rfl
theorem cells_new (w : World) (l : List Value) (T : TypeId) (g : Nat) (hg : w.heap.size = g) : ∀ j u, l[j]? = some u → (w.alloc (.cells l.toArray T)).cell? ((⟨g, 0, none⟩ : Addr).add j) = some u := fun j u hu => by
  subst hg
  rw [add_at, World.cell?_alloc_new]
  simpa using hu
set_option maxRecDepth 100000 in
set_option maxHeartbeats 4000000 in
theorem ISymbols_any (E : List En) (v : Value) (w : World) (h : EntsAt w v E) (hT : (textsOf E).length ≤ 1048576) :
    Calls Tryz.prog 19 #[v] w fun e w' => ∃ sv, e = .returned sv ∧ w'.ownsRow w.heap.size 9 1 sv (symI E).length (strC (symI E)) ∧ Below w.heap.size w w' := by
  have HTB := Lib.hid (texts_bd h)
  have HP := Lib.hid (fun i (hi : i < E.length) k => Nat.le_trans (texts_part E hi k) hT)
  obtain ⟨a, c, rfl, hnil, hl, hlc, hx⟩ := h
  have HX := Lib.hid hx
  clear hx
  have ⟨i0, hin, hz0, hz1, hz2⟩ := info_parts (show (Tryz.prog.info? 9).map (fun i => (i.zero, i.size, i.bytes)) = some (some (.string ⟨#[]⟩), 1, 16) by kernel_rfl)
  have r0 : w.ownsRow w.heap.size 9 1 (.slice none 0 0) (textsOf (E.take 0)).length (strC (textsOf (E.take 0))) := World.ownsRow_nil _ _ _ _
  go_enter Tryz.func19, Tryz.ntmps19
  go_wp2_with fail
  go_loopw [3, 10] (fun vo vi wr => ∃ i : Nat, i ≤ E.length ∧ vi = .int .i64 (i : Int) ∧ wr.ownsRow w.heap.size 9 1 vo (textsOf (E.take i)).length (strC (textsOf (E.take i))) ∧ Below w.heap.size w wr) (fun _ vi _ => E.length - (intOf vi).toNat)
  case atStart => exact ⟨0, Nat.zero_le _, rfl, r0, Below.refl _ _⟩
  clear r0
  obtain ⟨i, hi, rfl, hrow, hb⟩ := hrel
  obtain ⟨sa, sc, rfl⟩ := row_form hrow
  rcases (show i < E.length ∨ i = E.length by omega) with hil | rfl
  · obtain ⟨hok, b, o, rfl, a', c', d0, hL, d1, d2, d3⟩ := HX.out i E[i] (List.getElem?_eq_getElem hil)
    have e0 := (hb.cell (World.block_lt_of_cell? _ _ d0)).trans d0
    have e1 := (hb.cell (World.block_lt_of_cell? _ _ d1)).trans d1
    have e2 := (hb.cell (World.block_lt_of_cell? _ _ d2)).trans d2
    have e3 := (hb.cell (World.block_lt_of_cell? _ _ d3)).trans d3
    have HTT := Lib.hid (texts_take E hil)
    have HPI := Lib.hid (fun k => HP.out i hil k)
    have hLw := hL
    clear d0 d1 d2 d3 hL hok
    generalize E[i] = x at *
    generalize textsOf (E.take i) = T at *
    generalize hT2 : textsOf (E.take (i + 1)) = T2 at *
    have HT2 := Lib.hid hT2
    clear hT2
    obtain ⟨L, la, of, le⟩ := x
    simp only at e0 e1 e2 e3 hLw HTT HPI
    obtain ⟨_, _, eL, hLn, hLx⟩ := hLw
    obtain ⟨rfl, _, rfl⟩ := Value.slice.inj eL
    have HLX := Lib.hid hLx
    clear hLx eL
    have bA := one_alloc wr (.cells #[.slice a' L.length c', .int .i64 la, .int .i64 of, .int .i64 le] 59)
    have BA := hb.trans (bA.mono hb.size)
    have kA : (wr.alloc (.cells #[.slice a' L.length c', .int .i64 la, .int .i64 of, .int .i64 le] 59)).ownsRow w.heap.size 9 1 (.slice sa T.length sc) (T ++ textsL (L.take 0)).length (strC (T ++ textsL (L.take 0))) := by
      rw [List.take_zero, show textsL [] = [] from rfl, List.append_nil]
      exact World.ownsRow.alloc hrow _
    go_wp2_with fail
    go_loopw [3, 17] (fun vo vk wq => ∃ k : Nat, k ≤ L.length ∧ vk = .int .i64 (k : Int) ∧ wq.ownsRow w.heap.size 9 1 vo (T ++ textsL (L.take k)).length (strC (T ++ textsL (L.take k))) ∧ Below w.heap.size w wq ∧ Kept wr wq (fun k => w.heap.size ≤ k)) (fun _ vk _ => L.length - (intOf vk).toNat)
    case atStart => exact ⟨0, Nat.zero_le _, rfl, kA, BA, Kept.alloc _ _ _⟩
    clear kA BA bA hrow
    obtain ⟨k, hk, rfl, hrow2, hb2, hkp⟩ := hrel
    obtain ⟨sa2, sc2, rfl⟩ := row_form hrow2
    rcases (show k < L.length ∨ k = L.length by omega) with hkl | rfl
    · obtain ⟨hy1, hy2, b3, o3, rfl, g0, g1⟩ := HLX.out k L[k] (List.getElem?_eq_getElem hkl)
      have x0 := (hb2.cell (World.block_lt_of_cell? _ _ g0)).trans g0
      have x1 := (hb2.cell (World.block_lt_of_cell? _ _ g1)).trans g1
      have HTK := Lib.hid (textsL_take L hkl)
      have HPK := HPI.out (k + 1)
      have HSN := Lib.hid (strC_snoc (T ++ textsL (L.take k)) L[k].1 L[k].2)
      rw [HTK.out, ← List.append_assoc, List.length_append] at HPK
      clear g0 g1
      generalize L[k] = y at *
      generalize hA : T ++ textsL (L.take k) = A at *
      have HA := Lib.hid hA
      clear hA
      have HA2 := Lib.hid (show T ++ textsL (L.take (k + 1)) = A ++ [y.1, y.2] by rw [HTK.out, ← List.append_assoc, HA.out])
      have hA : A.length ≤ 1048576 := by omega
      have hwq := hb2.size
      clear HTK HPK
      go_wp2_with (at_builtin; (refine wpList_append_own_at _ rfl _ _ 40 rfl w.heap.size 9 i0 (.string ⟨#[]⟩) 1 16 Tryz.underlying40 hin hz0 hz1 hz2 rfl (by decide) _ _ _ rfl (World.ownsRow.alloc (World.ownsRow.alloc hrow2 _) _) ⟨_, 0, none⟩ 2 2 [.string (bs y.1), .string (bs y.2)] rfl rfl (cells_new _ _ _ _ (World.size_alloc _ _)) (by simp [Value.oneCell']) (by unfold maxLen; omega) (by omega) (by simp; omega) ?_; intro v' w5 hown' hgrow hnil2 hloc; obtain ⟨sa', sc', rfl⟩ := row_form hown'))
      go_roundw
      case rel =>
        have hkq : Kept wr w5 (fun k => w.heap.size ≤ k) := ((Kept.alloc wr _ _).trans (Kept.alloc _ _ _)).trans (Kept.of_grown hgrow fun k e => (hrow2.lt k e).1)
        refine ⟨k + 1, by omega, by go_num, ?_, hb2.trans (hkq.below hwq fun k e => e), hkp.trans hkq⟩
        rw [HA2.out, ← HSN.out, List.length_append]
        exact hown'
      case measure => simp [intOf]; omega
    · rw [List.take_length] at hrow2
      have HE2 := Lib.hid (show textsOf (E.take (i + 1)) = T ++ textsL L by rw [HT2.out, HTT.out])
      go_wp2_with fail
      go_roundw
      case rel => exact ⟨i + 1, by omega, by go_num, by rw [HE2.out, List.take_length]; exact hrow2, hb2⟩
      case measure => simp [intOf]; omega
  · rw [List.take_length] at hrow ⊢
    have hlt : (textsOf E).length ≤ 1048576 := hT
    have HS := Lib.hid (show symI E = Lib.compact ((textsOf E).mergeSort fun x y => decide (x ≤ y)) from rfl)
    generalize textsOf E = T at *
    by_cases hT0 : T.length = 0
    · obtain rfl := List.length_eq_zero_iff.1 hT0
      have HRN := Lib.hid hrow
      have q1 := Lib.hid (fun W => Tryz.slices_Sort_string_none sa sc W)
      have q2 := Lib.hid (fun W => Tryz.slices_Compact_string_empty sa sc W)
      have HS2 := Lib.hid (show symI E = [] by rw [HS.out]; simp [Lib.compact, Lib.compactUpTo])
      clear hrow HS HTB HP HX hT hlt hT0
      rw [show ([] : List (List UInt8)).length = 0 from rfl]
      go_wp2_with fail
      refine (q1.out _).mono ?_
      rintro e w2 ⟨rfl, rfl⟩
      go_wp2_with fail
      refine (q2.out _).mono ?_
      rintro e w2 ⟨rfl, rfl⟩
      go_wp2_with fail
      go_ret
      refine ⟨_, rfl, ?_, hb⟩
      rw [HS2.out]
      exact HRN.out
    · have hrow' := hrow
      rw [strC_enc] at hrow'
      obtain ⟨g, cap, e, hgB, hgl, hncap, hcm, _, hH⟩ := Lib.holds_of_ownsRow hrow' (fun e => hT0 (Value.slice.inj e).2.1)
      obtain ⟨rfl, _, rfl⟩ := Value.slice.inj e
      have hzl : (T.mergeSort fun x y => decide (x ≤ y)).length = T.length := List.length_mergeSort _
      have hzb : ∀ s ∈ (T.mergeSort fun x y => decide (x ≤ y)), s.length ≤ 1048576 := fun s hs => HTB.out s (List.mem_mergeSort.1 hs)
      have q1 := Lib.hid (Tryz.slices_Sort_string g 0 sc T wr hH hgl (by omega))
      generalize (T.mergeSort fun x y => decide (x ≤ y)) = zs at *
      have HZB := Lib.hid hzb
      have HZL := Lib.hid hzl
      have HR := Lib.hid hrow'
      clear hH hrow e hzb hzl hrow'
      go_wp2_with fail
      refine q1.out.mono ?_
      rintro e w2 ⟨rfl, q, os, rfl⟩
      have r2 := Lib.ownsRow_putRow (q := q) (ys := zs) HR.out HZL.out (Nat.le_refl _)
      have hzl := HZL.out
      rw [List.take_of_length_le (by omega)] at r2
      have k2 : Kept wr (Go.Sort.grow (Go.Sort.putRow encStr (Go.Sort.ahead wr q) g 0 zs.toArray) os) (fun k => k = g) := (kept_putRow _ _ _ _ _).trans (kept_grow _ _ _)
      have r3 := ownsRow_kept r2 (kept_grow (Go.Sort.putRow encStr (Go.Sort.ahead wr q) g 0 zs.toArray) os (fun _ => False)) (fun _ _ e => e)
      generalize Go.Sort.grow (Go.Sort.putRow encStr (Go.Sort.ahead wr q) g 0 zs.toArray) os = w2 at *
      have B2 := hb.trans (k2.below hb.size fun k e => by omega)
      obtain ⟨g', cap', e, _, _, _, _, _, hH2⟩ := Lib.holds_of_ownsRow r3 (fun e => hT0 (Value.slice.inj e).2.1)
      obtain ⟨e3, _, rfl⟩ := Value.slice.inj e
      obtain ⟨rfl, _⟩ := Addr.mk.inj (Option.some.inj e3)
      have q2 := Tryz.slices_Compact_string g 0 sc zs w2 hH2 (by omega) (by omega)
      rw [hzl] at q2
      have hcl := compact_len_le zs
      have Q2 := Lib.hid q2
      have HZL2 := Lib.hid hzl
      have HR3 := Lib.hid r3
      clear q1 q2 r2 k2 hH2 e e3 HZL hzl HR r3
      go_wp2_with fail
      refine Q2.out.mono ?_
      rintro e w3 ⟨rfl, q, rfl⟩
      have r4 := Lib.ownsRow_putRow (q := q) (ys := Lib.compact zs ++ List.replicate (T.length - (Lib.compact zs).length) []) HR3.out (by rw [List.length_append, List.length_replicate]; omega) (show (Lib.compact zs).length ≤ T.length by have := HZL2.out; omega)
      rw [List.take_left' rfl, ← strC_enc] at r4
      have B3 := Lib.below_putRow (q := q) (enc := encStr) (d := (Lib.compact zs ++ List.replicate (T.length - (Lib.compact zs).length) []).toArray) B2 hgB
      clear Q2 HR3
      generalize Go.Sort.putRow encStr (Go.Sort.ahead w2 q) g 0 (Lib.compact zs ++ List.replicate (T.length - (Lib.compact zs).length) []).toArray = w3 at *
      have HR4 := Lib.hid r4
      clear r4
      go_wp2_with fail
      go_ret
      refine ⟨_, rfl, ?_, B3⟩
      rw [HS.out]
      exact HR4.out
theorem sym_bd {w : World} {v : Value} {E : List En} (h : EntsAt w v E) : ∀ s ∈ symI E, s.length ≤ 1048576 := fun s hs => texts_bd h s ((mem_symI E s).1 hs)
theorem sym_le (E : List En) : (symI E).length ≤ (textsOf E).length := by
  have := compact_len_le ((textsOf E).mergeSort fun x y => decide (x ≤ y))
  rw [List.length_mergeSort] at this
  exact this
end Go.Proofs.YtpeahjocimhneaaGreatDoor
namespace Go.Proofs.YtpeahjocimhneaaGreatDoor
open Go.RowKit Go.Maps Go.WideMaps
attribute [local go_sem] bs_toList bs_size

theorem copyCheck_k (B b : Nat) (l : List Value) (w : World) (h : Lib.IsBuilderF 97 5 B b l w) :
    Calls Tryz.prog 98 #[.pointer (some ⟨b, 0, none⟩)] w fun e w' => e = .returned (.tuple #[]) ∧ (Lib.BuilderAtF 97 5 B b (.pointer (some ⟨b, 0, none⟩)) l w' ∧ Below B w w' ∧ Lib.OthersKept 5 (some b) w w') := by
  rcases h with h | h
  · refine (copyCheck_fresh b w h.cell0 h.shape h.frozen0).mono ?_
    rintro e w' ⟨rfl, rfl⟩
    exact ⟨rfl, h.used _, (Below.refl B w).setCell (p := ⟨b, 0, none⟩) h.1 _, (Lib.OthersKept.refl _ _ w).setCell ⟨b, 0, none⟩ rfl _⟩
  · refine (copyCheck_used b w h.cell0).mono ?_
    rintro e w' ⟨rfl, rfl⟩
    exact ⟨rfl, h, Below.refl B _, Lib.OthersKept.refl _ _ _⟩
/-- What the calls on a builder leave as it lay. -/
def BK (B b : Nat) (w w' : World) : Prop := Below B w w' ∧ Lib.OthersKept 5 (some b) w w'
theorem BK.refl (B b : Nat) (w : World) : BK B b w w := ⟨Below.refl _ _, Lib.OthersKept.refl _ _ _⟩
theorem BK.trans {B b : Nat} {x y z : World} (h : BK B b x y) (k : BK B b y z) : BK B b x z := ⟨h.1.trans k.1, h.2.trans k.2⟩
theorem BK.of_below {B b : Nat} {w w' : World} (h : Below w.heap.size w w') (hB : B ≤ w.heap.size) : BK B b w w' := ⟨h.mono hB, fun k _ hk _ _ => (h.block k (Array.getElem?_eq_some_iff.1 hk).1).trans hk⟩
theorem BK.blk {B b g : Nat} {t : TypeId} {cs : Array Value} {w w' : World} (h : BK B b w w') (hb : Blk w g t cs) (hg : g ≠ b) (ht : t ≠ 5) : Blk w' g t cs := h.2 g _ hb (fun e => hg (Option.some.inj e)) (fun c fz e => ht (by cases e; rfl))
theorem BK.map {H : Type} {P : Program} {k : TypeId} {R : Value → Option (DataW H × List MemPlace)} {w w' : World} {B b g n : Nat} {D : DataW H} (h : BK B b w w') (hm : w.ownsMap P k R g n D) (hg : g ≠ b) : w'.ownsMap P k R g n D := by
  obtain ⟨es, clock, hb, F, hs, hD⟩ := hm
  exact ⟨es, clock, h.2 g _ hb (fun e => hg (Option.some.inj e)) (fun c fz e => by cases e), F, hs, hD⟩
theorem BK.row {B b base : Nat} {e : TypeId} {size n : Nat} {v : Value} {xs : List Value} {w w' : World} (h : BK B b w w') (hr : w.ownsRow base e size v n xs) (hg : v.ownBlock ≠ some b) (ht : e ≠ 5) : w'.ownsRow base e size v n xs := by
  refine ⟨hr.1, ?_⟩
  rcases hr.2 with h2 | ⟨g, cap, cur, rfl, h3, h4, h5⟩
  · exact .inl h2
  · exact .inr ⟨g, cap, cur, rfl, h3, h.2 g _ h4 (fun e => hg (by rw [← e]; rfl)) (fun c fz e2 => ht (by cases e2; rfl)), h5⟩
set_option maxRecDepth 100000 in
set_option maxHeartbeats 1000000 in
theorem writeString_k (B b : Nat) (l : List Value) (s : ByteArray) (w : World) (h : Lib.IsBuilderF 97 5 B b l w) (hlen : l.length + s.size ≤ 140737488355328) (hBw : B ≤ w.heap.size) :
    Calls Tryz.prog 59 #[.pointer (some ⟨b, 0, none⟩), .string s] w fun e w' => e = .returned (.tuple #[.int .i64 s.size, .nilIface]) ∧ (Lib.IsBuilderF 97 5 B b (l ++ Lib.strCells s) w' ∧ BK B b w w') := by
  have ⟨i0, hi, hz0, hz1, hz2⟩ := info_parts (show (Tryz.prog.info? 5).map (fun i => (i.zero, i.size, i.bytes)) = some (some (.int .u8 0), 1, 1) by kernel_rfl)
  have q := Lib.hid (fun w => copyCheck_k B b l w)
  go_enter Tryz.func59, Tryz.ntmps59
  go_wp2_with fail
  refine (q.out _ h).mono ?_
  rintro e w1 ⟨rfl, h1, hb1, hk1⟩
  obtain ⟨hB, v, hbk, hown, hne⟩ := h1
  have c0 : w1.cell? ⟨b, 0, none⟩ = some (.pointer (some ⟨b, 0, none⟩)) := by rw [Lib.cell_of_heap hbk]; rfl
  have c1 : w1.cell? ⟨b, 1, none⟩ = some v := by rw [Lib.cell_of_heap hbk]; rfl
  go_wp2_with (at_builtin; refine Lib.wpList_append_own_stringF _ rfl _ _ 63 9 rfl B 5 i0 Tryz.underlying63 Tryz.underlying9 hi hz0 hz1 hz2 _ _ _ rfl hown s rfl ?c3 ?c4 ?c5 ?_)
  case c3 => unfold maxLen; omega
  case c4 => omega
  case c5 => have := hb1.size; omega
  intro v' w2 hown' hgrow _
  have hlt : b < w1.heap.size := by
    rcases Nat.lt_or_ge b w1.heap.size with h' | h'
    · exact h'
    · simp [Array.getElem?_eq_none h'] at hbk
  have hb2 : w2.heap[b]? = some (.cells #[.pointer (some ⟨b, 0, none⟩), v] 97 (0, 0)) := by
    rw [hgrow.block b hlt (fun e => hne e.symm)]
    exact hbk
  have d0 : w2.cell? ⟨b, 0, none⟩ = some (.pointer (some ⟨b, 0, none⟩)) := by rw [Lib.cell_of_heap hb2]; rfl
  have d1 : w2.cell? ⟨b, 1, none⟩ = some v := by rw [Lib.cell_of_heap hb2]; rfl
  have f1 : w2.frozen? ⟨b, 1, none⟩ = false := Lib.frozen_of_heap hb2 1
  obtain ⟨ao, n', cap, rfl⟩ : ∃ ao n' cap, v' = .slice ao n' cap := by
    rcases hown'.2 with ⟨hv, _⟩ | ⟨g, cap, cur, fz, hv, _⟩
    · exact ⟨_, _, _, hv⟩
    · exact ⟨_, _, _, hv⟩
  go_wp2
  go_ret2
  refine ⟨rfl, Or.inr ?_, ?_⟩
  · exact Lib.BuilderAtF.put (T := 97) (e := 5) hB hb2 (bs' := l ++ Lib.strCells s) (by simpa [Lib.strCells_length] using hown') (by decide)
  · exact ⟨(hb1.grown hgrow (by have := hb1.size; omega) (fun k hk => (hown.lt k hk).1)).setCell (p := ⟨b, 1, none⟩) hB _, (hk1.grown hgrow (Lib.ownsRowF_kind hown)).setCell ⟨b, 1, none⟩ rfl _⟩
set_option maxRecDepth 100000 in
set_option maxHeartbeats 2000000 in
theorem writeByte_cells (B b : Nat) (l : List Value) (c : Int) (w : World) (h : Lib.IsBuilderF 97 5 B b l w) (hlen : l.length + 1 ≤ 140737488355328) (hBw : B ≤ w.heap.size) :
    Calls Tryz.prog 61 #[.pointer (some ⟨b, 0, none⟩), .int .u8 c] w fun e w' => e = .returned .nilIface ∧ (Lib.IsBuilderF 97 5 B b (l ++ [.int .u8 c]) w' ∧ BK B b w w') := by
  have ⟨i0, hi, hz0, hz1, hz2⟩ := info_parts (show (Tryz.prog.info? 5).map (fun i => (i.zero, i.size, i.bytes)) = some (some (.int .u8 0), 1, 1) by kernel_rfl)
  have q := Lib.hid (fun w => copyCheck_k B b l w)
  go_enter Tryz.func61, Tryz.ntmps61
  go_wp2_with fail
  refine (q.out _ h).mono ?_
  rintro e w1 ⟨rfl, h1, hb1, hk1⟩
  obtain ⟨hB, v, hbk, hown, hne⟩ := h1
  have c0 : w1.cell? ⟨b, 0, none⟩ = some (.pointer (some ⟨b, 0, none⟩)) := by rw [Lib.cell_of_heap hbk]; rfl
  have c1 : w1.cell? ⟨b, 1, none⟩ = some v := by rw [Lib.cell_of_heap hbk]; rfl
  go_wp2_with (at_builtin; refine wpList_append_ownF _ rfl _ _ 63 rfl B 5 i0 (.int .u8 0) 1 1 Tryz.underlying63 hi hz0 hz1 hz2 rfl (by decide) _ _ _ rfl (hown.alloc _) ⟨w1.heap.size, 0, none⟩ 1 1 [.int .u8 c] rfl rfl ?c1 ?c2 ?c3 ?c4 ?c5 ?_)
  case c1 =>
    intro j u hj
    match j, hj with
    | 0, hj => simp at hj; subst hj; simp [Addr.add]
  case c2 => intro u hu; simp at hu; subst hu; rfl
  case c3 => unfold maxLen; omega
  case c4 => omega
  case c5 => have := hb1.size; simp; omega
  intro v' w2 hown' hgrow _
  have hlt : b < w1.heap.size := by
    rcases Nat.lt_or_ge b w1.heap.size with h' | h'
    · exact h'
    · simp [Array.getElem?_eq_none h'] at hbk
  have hb2 : w2.heap[b]? = some (.cells #[.pointer (some ⟨b, 0, none⟩), v] 97 (0, 0)) := by
    rw [hgrow.block b (by simp; omega) (fun e => hne e.symm), Lib.alloc_old w1 _ b hlt]
    exact hbk
  have d0 : w2.cell? ⟨b, 0, none⟩ = some (.pointer (some ⟨b, 0, none⟩)) := by rw [Lib.cell_of_heap hb2]; rfl
  have d1 : w2.cell? ⟨b, 1, none⟩ = some v := by rw [Lib.cell_of_heap hb2]; rfl
  have f1 : w2.frozen? ⟨b, 1, none⟩ = false := Lib.frozen_of_heap hb2 1
  obtain ⟨ao, n', cap, rfl⟩ : ∃ ao n' cap, v' = .slice ao n' cap := by
    rcases hown'.2 with ⟨hv, _⟩ | ⟨g, cap, cur, fz, hv, _⟩
    · exact ⟨_, _, _, hv⟩
    · exact ⟨_, _, _, hv⟩
  go_wp2
  go_ret
  refine ⟨rfl, Or.inr ?_, ?_⟩
  · exact Lib.BuilderAtF.put (T := 97) (e := 5) hB hb2 (bs' := l ++ [.int .u8 c]) (by simpa using hown') (by decide)
  · exact ⟨((hb1.alloc (by have := hb1.size; omega) _).grown hgrow (by have := hb1.size; simp; omega) (fun k hk => (hown.lt k hk).1)).setCell (p := ⟨b, 1, none⟩) hB _, ((hk1.alloc _).grown hgrow (Lib.ownsRowF_kind (hown.alloc _))).setCell ⟨b, 1, none⟩ rfl _⟩
theorem writeByte_k (B b : Nat) (l : List UInt8) (c : UInt8) (x : Int) (hx : x = (c.toNat : Int)) (w : World) (h : BldAt B b l w) (hlen : l.length + 1 ≤ 140737488355328) (hBw : B ≤ w.heap.size) :
    Calls Tryz.prog 61 #[.pointer (some ⟨b, 0, none⟩), .int .u8 x] w fun e w' => e = .returned .nilIface ∧ BldAt B b (l ++ [c]) w' ∧ BK B b w w' := by
  subst hx
  refine (writeByte_cells B b (Lib.byteCells l) (c.toNat : Int) w h (by simpa [Lib.byteCells] using hlen) hBw).mono ?_
  rintro e w' ⟨rfl, h1, h2⟩
  refine ⟨rfl, ?_, h2⟩
  unfold BldAt
  rw [Lib.byteCells_append]
  exact h1
theorem write_k (B b : Nat) (l s : List UInt8) (w : World) (h : BldAt B b l w) (hlen : l.length + s.length ≤ 140737488355328) (hBw : B ≤ w.heap.size) :
    Calls Tryz.prog 59 #[.pointer (some ⟨b, 0, none⟩), .string (bs s)] w fun e w' => e = .returned (.tuple #[.int .i64 s.length, .nilIface]) ∧ BldAt B b (l ++ s) w' ∧ BK B b w w' := by
  refine (writeString_k B b (Lib.byteCells l) (bs s) w h (by rw [bs_size]; simpa [Lib.byteCells] using hlen) hBw).mono ?_
  rintro e w' ⟨rfl, h1, h2⟩
  refine ⟨by rw [bs_size], ?_, h2⟩
  unfold BldAt
  rw [Lib.byteCells_append, ← strCells_bs s]
  exact h1
end Go.Proofs.YtpeahjocimhneaaGreatDoor
namespace Go.Proofs.YtpeahjocimhneaaGreatDoor
open Go.RowKit Go.Maps Go.WideMaps
attribute [local go_sem] bs_toList bs_size

set_option maxRecDepth 100000 in
theorem ismall_any (n : Int) (w : World) :
    Calls Tryz.prog 64 #[.int .i64 n] w fun e w' => e = .returned (.string (bs (Num.small (u64N n)))) ∧ Below w.heap.size w w' := by
  have hw := u64N_wrap n
  have hl := u64N_lt n
  have q := Lib.hid (fun W => num_Small_any (u64N n : Int) W (by omega) (by omega))
  rw [Int.toNat_natCast] at q
  generalize u64N n = m at *
  go_enter Tryz.func64, Tryz.ntmps64
  go_wp2_with fail
  refine (q.out _).mono ?_
  rintro e w2 ⟨rfl, hb2⟩
  go_wp2_with fail
  go_ret
  exact ⟨rfl, hb2⟩
theorem common_take : ∀ (s t : List UInt8) (k : Nat) (h1 : k < s.length) (h2 : k < t.length), k ≤ common s t → s[k] = t[k] → k + 1 ≤ common s t
  | a :: s, b :: t, 0, _, _, _, e => by
    unfold common
    rw [if_pos (show a = b from e)]
    omega
  | a :: s, b :: t, k + 1, h1, h2, h, e => by
    unfold common at h ⊢
    split at h
    · rename_i hab
      rw [if_pos hab]
      have := common_take s t k (by simpa using h1) (by simpa using h2) (by omega) (by simpa using e)
      omega
    · omega
theorem common_stop : ∀ (s t : List UInt8) (k : Nat), k ≤ common s t → ((∀ (h1 : k < s.length) (h2 : k < t.length), s[k] ≠ t[k])) → common s t = k
  | [], t, k, h, _ => by unfold common at h ⊢; omega
  | a :: s, [], k, h, _ => by unfold common at h ⊢; omega
  | a :: s, b :: t, 0, h, e => by
    unfold common
    rw [if_neg (show ¬ a = b from e (by simp) (by simp))]
  | a :: s, b :: t, k + 1, h, e => by
    unfold common at h ⊢
    split at h
    · rename_i hab
      rw [if_pos hab, common_stop s t k (by omega) (fun h1 h2 => (show s[k] ≠ t[k] from e (Nat.succ_lt_succ h1) (Nat.succ_lt_succ h2)))]
    · omega
theorem run_min (a b : Nat) : min (a : Int) (b : Int) = ((min a b : Nat) : Int) := by omega
set_option maxRecDepth 100000 in
set_option maxHeartbeats 1000000 in
theorem common_any (s t : List UInt8) (w : World) (hs : s.length ≤ 1099511627776) :
    Calls Tryz.prog 65 #[.string (bs s), .string (bs t)] w fun e w' => e = .returned (.int .i64 (common s t : Int)) ∧ Below w.heap.size w w' := by
  have hix1 := fun (i : Nat) b (h : s[i]? = some b) k W => run_index_bs (P := Tryz.prog) 9 Tryz.underlying9 s i b h k W
  have hix2 := fun (i : Nat) b (h : t[i]? = some b) k W => run_index_bs (P := Tryz.prog) 9 Tryz.underlying9 t i b h k W
  have HI1 := Lib.hid hix1
  have HI2 := Lib.hid hix2
  have HCT := Lib.hid (common_take s t)
  have HCS := Lib.hid (common_stop s t)
  have hz1 := bs_size s
  have hz2 := bs_size t
  clear hix1 hix2
  have HCL := Lib.hid (common_le s t)
  go_enter Tryz.func65, Tryz.ntmps65
  go_wp2_with fail
  go_loopw [5] (fun vn wr => ∃ k : Nat, k ≤ common s t ∧ vn = .int .i64 (k : Int) ∧ Below w.heap.size w wr) (fun vn _ => common s t - (intOf vn).toNat)
  case atStart => exact ⟨0, Nat.zero_le _, rfl, Below.refl _ _⟩
  obtain ⟨k, hk, rfl, hb⟩ := hrel
  have hmin := run_min s.length t.length
  by_cases hlt : k < s.length ∧ k < t.length
  · obtain ⟨h1, h2⟩ := hlt
    have j1 := HI1.out k s[k] (List.getElem?_eq_getElem h1)
    have j2 := HI2.out k t[k] (List.getElem?_eq_getElem h2)
    have f1 : decide (k < min s.length t.length) = true := by simp; omega
    have f1' : decide ((k : Int) < min (s.length : Int) (t.length : Int)) = true := by simp; omega
    by_cases he : s[k] = t[k]
    · have HC := Lib.hid (HCT.out k h1 h2 hk he)
      rw [← he] at j2
      have f2 : ((s[k].toNat : Int) == (s[k].toNat : Int)) = true := by simp
      generalize s[k] = x at *
      clear HI1 HI2 HCS HCL he
      go_wp2_with fail
      go_quiet (fail)
      go_wp2_with fail
      go_roundw
      case rel => exact ⟨k + 1, HC.out, by go_num, below_drewN hb _⟩
      case measure => simp [intOf]; have := HC.out; omega
    · have HC := Lib.hid (HCS.out k hk fun _ _ => he)
      have f2 : ((s[k].toNat : Int) == (t[k].toNat : Int)) = false := by simpa using fun e => he (UInt8.toNat_inj.1 (by omega))
      generalize s[k] = x at *
      generalize t[k] = y at *
      clear HI1 HI2 HCS HCL he HCT
      go_wp2_with fail
      go_quiet (fail)
      go_wp2_with fail
      go_ret
      exact ⟨by rw [HC.out]; rfl, below_drewN hb _⟩
  · have HC := Lib.hid (HCS.out k hk fun h1 h2 => absurd ⟨h1, h2⟩ hlt)
    have f1 : decide (k < min s.length t.length) = false := by simp; omega
    have f1' : decide ((k : Int) < min (s.length : Int) (t.length : Int)) = false := by simp; omega
    clear HI1 HI2 HCS HCL HCT hlt
    go_wp2_with fail
    go_quiet (fail)
    go_wp2_with fail
    go_ret
    exact ⟨by rw [HC.out]; rfl, below_drewN hb _⟩
/-- Entries of generation 1 as bytes: their length. -/
theorem lab1_len (L : List Lb) : (L.flatMap lab1B).length = L.length * 26 := by
  induction L with
  | nil => rfl
  | cons y L ih =>
    have h : (lab1B y).length = 26 := by
      unfold lab1B
      rw [List.length_append, Num.fixed_len, Num.fixed_len]
      rfl
    rw [List.flatMap_cons, List.length_append, ih, h, List.length_cons]
    omega
theorem ent1_len (x : En) : (ent1B x).length = 1 + x.labels.length * 26 + 24 := by
  unfold ent1B
  rw [List.length_append, List.length_append, List.length_append, List.length_cons, lab1_len, Num.wide_len, Num.wide_len, Num.wide_len]
  omega
theorem flat_take {α β : Type} (f : α → List β) (L : List α) {k : Nat} (h : k < L.length) : (L.take (k + 1)).flatMap f = (L.take k).flatMap f ++ f L[k] := by
  rw [List.take_succ_eq_append_getElem h, List.flatMap_append]
  simp
theorem u8_len {n : Nat} (h : n ≤ 6) : IntKind.u8.wrap (n : Int) = ((UInt8.ofNat n).toNat : Int) := by
  rw [Num.ofNat_toNat _ (by omega)]
  simp [IntKind.wrap, IntKind.bits, IntKind.signed]
  omega
end Go.Proofs.YtpeahjocimhneaaGreatDoor
namespace Go.Proofs.YtpeahjocimhneaaGreatDoor
open Go.RowKit Go.Maps Go.WideMaps
attribute [local go_sem] bs_toList bs_size

theorem labs_len {x : En} (h : rightB x = true) : x.labels.length ≤ 6 ∧ ∀ y ∈ x.labels, y.1.length ≤ 48 ∧ y.2.length ≤ 48 := check_ok (right_parts h).1
theorem ents1_len (E : List En) (h : ∀ x ∈ E, rightB x = true) : (E.flatMap ent1B).length ≤ E.length * 200 := by
  induction E with
  | nil => exact Nat.le_refl _
  | cons x E ih =>
    rw [List.flatMap_cons, List.length_append, ent1_len, List.length_cons]
    have h1 := ih fun y hy => h y (List.mem_cons_of_mem _ hy)
    have h2 := (labs_len (h x List.mem_cons_self)).1
    omega
set_option maxRecDepth 100000 in
set_option maxHeartbeats 4000000 in
theorem one_any (E : List En) (v : Value) (w : World) (h : EntsAt w v E) (hr : ∀ x ∈ E, rightB x = true) (hE : E.length ≤ 20) :
    Calls Tryz.prog 30 #[v] w fun e w' => e = .returned (.string (bs (oneI E))) ∧ Below w.heap.size w w' := by
  have HR := Lib.hid hr
  have hO' := Lib.hid (show oneI E = Num.wide E.length ++ E.flatMap ent1B from rfl)
  have hEl := ents1_len E hr
  obtain ⟨a, c, rfl, hnil, hl, hlc, hx⟩ := h
  have HX := Lib.hid hx
  clear hx hr
  have qn := Lib.hid (fun W => num_Wide_any (E.length : Int) W (by omega) (by omega))
  rw [Int.toNat_natCast] at qn
  have hwrap : IntKind.u64.wrap (E.length : Int) = (E.length : Int) := by simp [IntKind.wrap, IntKind.bits, IntKind.signed]; omega
  have hwl := Num.wide_len E.length
  have hO : Hid (oneI E = Num.wide E.length ++ E.flatMap ent1B) := hO'
  clear hO'
  generalize Num.wide E.length = nb at *
  have B0 := BldAt.fresh w
  have b0 := one_alloc w (.cells #[.pointer none, .slice none 0 0] 97)
  have qw0 := Lib.hid (fun W (hW : BldAt w.heap.size w.heap.size [] W) (hs : w.heap.size ≤ W.heap.size) => write_k w.heap.size w.heap.size [] nb W hW (by simp; omega) hs)
  go_enter Tryz.func30, Tryz.ntmps30
  go_wp2_with fail
  refine (qn.out _).mono ?_
  rintro e w1 ⟨rfl, hb1⟩
  have B1 := B0.below hb1
  have bb1 := b0.trans (hb1.mono b0.size)
  clear B0 b0 hb1 qn
  go_wp2_with fail
  refine (qw0.out _ B1 bb1.size).mono ?_
  rintro e w2 ⟨rfl, B2, k2⟩
  have bb2 := bb1.trans k2.1
  have hpos : w.heap.size < w2.heap.size := Nat.lt_of_lt_of_le (B1.elim (fun h => heap_lt h.2.choose_spec.1) (fun h => heap_lt h.2.choose_spec.1)) k2.1.size
  have B2' : BldAt w.heap.size w.heap.size (nb ++ (E.take 0).flatMap ent1B) w2 := by rw [List.take_zero]; simpa using B2
  clear qw0 B1 bb1 B2 k2
  go_wp2_with fail
  go_loopw [15] (fun vi wr => ∃ i : Nat, i ≤ E.length ∧ vi = .int .i64 (i : Int) ∧ BldAt w.heap.size w.heap.size (nb ++ (E.take i).flatMap ent1B) wr ∧ Below w.heap.size w wr ∧ w.heap.size < wr.heap.size) (fun vi _ => E.length - (intOf vi).toNat)
  case atStart => exact ⟨0, Nat.zero_le _, rfl, B2', bb2, hpos⟩
  clear B2' bb2 hpos
  obtain ⟨i, hi, rfl, hB, hb, hpos⟩ := hrel
  rcases (show i < E.length ∨ i = E.length by omega) with hil | rfl
  · obtain ⟨hok, b, o, rfl, a', c', d0, hL, d1, d2, d3⟩ := HX.out i E[i] (List.getElem?_eq_getElem hil)
    have e0 := (hb.cell (World.block_lt_of_cell? _ _ d0)).trans d0
    have e1 := (hb.cell (World.block_lt_of_cell? _ _ d1)).trans d1
    have e2 := (hb.cell (World.block_lt_of_cell? _ _ d2)).trans d2
    have e3 := (hb.cell (World.block_lt_of_cell? _ _ d3)).trans d3
    have HT := Lib.hid (flat_take ent1B E hil)
    have hrx := HR.out _ (List.getElem_mem hil)
    obtain ⟨hl6, hl48⟩ := labs_len hrx
    have hnums := (right_parts hrx).2
    have hpl : ((E.take i).flatMap ent1B).length ≤ 4000 := by
      have := ents1_len (E.take i) fun x hx => HR.out x (List.mem_of_mem_take hx)
      rw [List.length_take] at this
      omega
    have he1 : ent1B E[i] = (UInt8.ofNat E[i].labels.length :: E[i].labels.flatMap lab1B) ++ ((Num.wide (u64N E[i].last) ++ Num.wide (u64N E[i].off)) ++ Num.wide (u64N E[i].len)) := rfl
    rw [he1] at HT
    clear he1 d0 d1 d2 d3 hrx hok
    generalize E[i] = x at *
    generalize hP : (E.take i).flatMap ent1B = P at *
    clear hP
    obtain ⟨L, la, of, le⟩ := x
    simp only at e0 e1 e2 e3 hL HT hl6 hl48 hnums
    have hb8 := u8_len hl6
    have B1 := hB.below (one_alloc wr (.cells #[.slice a' L.length c', .int .i64 la, .int .i64 of, .int .i64 le] 59))
    have k1 := Blk.new wr 59 #[.slice a' L.length c', .int .i64 la, .int .i64 of, .int .i64 le]
    have bA := hb.alloc hb.size (.cells #[.slice a' L.length c', .int .i64 la, .int .i64 of, .int .i64 le] 59)
    have qb := Lib.hid (fun W (hW : BldAt w.heap.size w.heap.size (nb ++ P) W) (hs : w.heap.size ≤ W.heap.size) => writeByte_k w.heap.size w.heap.size (nb ++ P) (UInt8.ofNat L.length) ((UInt8.ofNat L.length).toNat : Int) rfl W hW (by rw [List.length_append]; omega) hs)
    obtain ⟨⟨c0, c1, c2, c3⟩, _⟩ := cells4 k1
    go_wp2_with fail
    refine (qb.out _ B1 bA.size).mono ?_
    rintro e w3 ⟨rfl, B3, kp3⟩
    have hG : wr.heap.size ≠ w.heap.size := by omega
    have k3 := kp3.blk k1 hG (by decide)
    have b3 := bA.trans kp3.1
    have hp3 : wr.heap.size < w3.heap.size := Nat.lt_of_lt_of_le (lt_alloc wr _) kp3.1.size
    have B3' : BldAt w.heap.size w.heap.size ((nb ++ P) ++ (UInt8.ofNat L.length :: (L.take 0).flatMap lab1B)) w3 := B3
    generalize wr.heap.size = G at *
    obtain ⟨⟨c0, c1, c2, c3⟩, _⟩ := cells4 k3
    clear qb B1 B3 kp3 k1 bA e0 e1 e2 e3 hB hb
    go_wp2_with fail
    go_loopw [27] (fun vk wq => ∃ k : Nat, k ≤ L.length ∧ vk = .int .i64 (k : Int) ∧ BldAt w.heap.size w.heap.size ((nb ++ P) ++ (UInt8.ofNat L.length :: (L.take k).flatMap lab1B)) wq ∧ Below w.heap.size w wq ∧ Blk wq G 59 #[.slice a' L.length c', .int .i64 la, .int .i64 of, .int .i64 le] ∧ w.heap.size < wq.heap.size) (fun vk _ => L.length - (intOf vk).toNat)
    case atStart => exact ⟨0, Nat.zero_le _, rfl, B3', b3, k3, by omega⟩
    clear B3' b3 k3 c0 c1 c2 c3 hp3
    obtain ⟨k, hk, rfl, hB, hb, hX, hpos2⟩ := hrel
    have hll := lab1_len (L.take k)
    rw [List.length_take] at hll
    rcases (show k < L.length ∨ k = L.length by omega) with hkl | rfl
    · obtain ⟨_, _, eL, _, hLx⟩ := id hL
      obtain ⟨rfl, _, rfl⟩ := Value.slice.inj eL
      obtain ⟨_, _, b3, o3, rfl, g0, g1⟩ := hLx k L[k] (List.getElem?_eq_getElem hkl)
      have x0 := (hb.cell (World.block_lt_of_cell? _ _ g0)).trans g0
      have x1 := (hb.cell (World.block_lt_of_cell? _ _ g1)).trans g1
      have HTK := Lib.hid (flat_take lab1B L hkl)
      obtain ⟨y48, z48⟩ := hl48 _ (List.getElem_mem hkl)
      have hy2 : lab1B L[k] = Num.fixed L[k].1 12 ++ Num.fixed L[k].2 12 := rfl
      rw [hy2] at HTK
      clear g0 g1 hLx eL hL hl48 hy2
      generalize L[k] = y at *
      have q1 := Lib.hid (fun W => num_Fixed_any y.1 12 W (by omega) (by omega) (by omega))
      have q2 := Lib.hid (fun W => num_Fixed_any y.2 12 W (by omega) (by omega) (by omega))
      have t1 : (Num.fixed y.1 12).length = 13 := Num.fixed_len _ _
      have t2 : (Num.fixed y.2 12).length = 13 := Num.fixed_len _ _
      generalize Num.fixed y.1 12 = y1 at *
      generalize Num.fixed y.2 12 = y2 at *
      have hadd : ∀ W, (Op.stringOp .add (bs y1) (bs y2)).run Tryz.prog W = .ok (.string (bs (y1 ++ y2))) W := fun W => run_add_bs (P := Tryz.prog) y1 y2 (by omega) W
      have bB := one_alloc wr (.cells #[.string (bs y.1), .string (bs y.2)] 37)
      have kB := Blk.new wr 37 #[.string (bs y.1), .string (bs y.2)]
      have m0 : (wr.alloc (.cells #[.string (bs y.1), .string (bs y.2)] 37)).cell? ⟨wr.heap.size, 0, none⟩ = some (.string (bs y.1)) := (Blk.cell kB 0).trans rfl
      have m1 : (wr.alloc (.cells #[.string (bs y.1), .string (bs y.2)] 37)).cell? ⟨wr.heap.size, 1, none⟩ = some (.string (bs y.2)) := (Blk.cell kB 1).trans rfl
      have g0 := grow_cell m0
      have g1 := grow_cell m1
      have HB2 := Lib.hid (hB.below bB)
      have HX2 := Lib.hid (Blk.alloc hX (.cells #[.string (bs y.1), .string (bs y.2)] 37))
      have Hb2 := Lib.hid (hb.trans (bB.mono hb.size))
      generalize hA : (nb ++ P) ++ (UInt8.ofNat L.length :: (L.take k).flatMap lab1B) = A at *
      have hAl : A.length ≤ 100000 := by
        rw [← hA]
        simp only [List.length_append, List.length_cons]
        omega
      have HA := Lib.hid (show (nb ++ P) ++ (UInt8.ofNat L.length :: (L.take (k + 1)).flatMap lab1B) = A ++ (y1 ++ y2) by rw [HTK.out, ← hA]; simp [List.append_assoc])
      have qw := Lib.hid (fun W (hW : BldAt w.heap.size w.heap.size A W) (hs : w.heap.size ≤ W.heap.size) => write_k w.heap.size w.heap.size A (y1 ++ y2) W hW (by rw [List.length_append]; omega) hs)
      clear kB m0 m1 hB hA HTK
      go_wp2_with fail
      refine wp_region_led (R := GrowR) (by kernel_rfl) (by kernel_rfl) rfl (by kernel_rfl) ?_
      (refine lex_one (by kernel_rfl) (by kernel_rfl) (by kernel_rfl) (fun K hK => ?_); go_big_quiet_step (fail); refine wpQuiet_nil (hK _ ?_); clear hK K); (refine lex_one (by kernel_rfl) (by kernel_rfl) (by kernel_rfl) (fun K hK => ?_); go_big_quiet_step (fail); refine wpQuiet_nil (hK _ ?_); clear hK K)
      (refine lex_call (f := 62) (args := #[.string (bs y.1), .int .i64 12]) (v := .string (bs y1)) (by kernel_rfl) (fun _ _ h => by cases h) (by kernel_rfl) (by kernel_rfl) (fun _ => by go_simp) (fun W hW => q1.out W) (lex_put (type := 0) (pos := "") (fun K hK => ?_)); go_big_quiet_step (fail); refine wpQuiet_nil (hK _ ?_); clear hK K)
      (refine lex_one (by kernel_rfl) (by kernel_rfl) (by kernel_rfl) (fun K hK => ?_); go_big_quiet_step (fail); refine wpQuiet_nil (hK _ ?_); clear hK K); (refine lex_one (by kernel_rfl) (by kernel_rfl) (by kernel_rfl) (fun K hK => ?_); go_big_quiet_step (fail); refine wpQuiet_nil (hK _ ?_); clear hK K)
      (refine lex_call (f := 62) (args := #[.string (bs y.2), .int .i64 12]) (v := .string (bs y2)) (by kernel_rfl) (fun _ _ h => by cases h) (by kernel_rfl) (by kernel_rfl) (fun _ => by go_simp) (fun W hW => q2.out W) (lex_put (type := 0) (pos := "") (fun K hK => ?_)); go_big_quiet_step (fail); refine wpQuiet_nil (hK _ ?_); clear hK K)
      (refine lex_one (by kernel_rfl) (by kernel_rfl) (by kernel_rfl) (fun K hK => ?_); go_big_quiet_step (fail); refine wpQuiet_nil (hK _ ?_); clear hK K)
      refine lex_nil (by kernel_rfl) (by kernel_rfl) (by kernel_rfl) ?_
      intro w5 hb5
      simp only [hideAll]
      have b5 := Hb2.out.trans (Below.mono hb5 Hb2.out.size)
      have B5 := HB2.out.below hb5
      have X5 := Blk.below HX2.out hb5 HX2.out.lt
      clear g0 g1 HB2 HX2 Hb2 bB hX
      go_wp2_with fail
      refine (qw.out _ B5 b5.size).mono ?_
      rintro e w6 ⟨rfl, B6, k6⟩
      go_wp2_with fail
      go_roundw
      case rel => exact ⟨k + 1, by omega, by go_num, by rw [HA.out]; exact B6, b5.trans k6.1, k6.blk X5 (by omega) (by decide), Nat.lt_of_lt_of_le (Nat.lt_of_lt_of_le hpos2 (Nat.le_trans (Nat.le_of_lt (lt_alloc _ _)) hb5.size)) k6.1.size⟩
      case measure => simp [intOf]; omega
    · rw [List.take_length] at hB hll
      obtain ⟨⟨m0, m1, m2, m3⟩, _⟩ := cells4 hX
      have g1 := grow_cell m1
      have g2 := grow_cell m2
      have g3 := grow_cell m3
      have q1 := Lib.hid (fun W => num_Wide_any (u64N la : Int) W (by omega) (by have := u64N_lt la; omega))
      have q2 := Lib.hid (fun W => num_Wide_any (u64N of : Int) W (by omega) (by have := u64N_lt of; omega))
      have q3 := Lib.hid (fun W => num_Wide_any (u64N le : Int) W (by omega) (by have := u64N_lt le; omega))
      rw [Int.toNat_natCast] at q1 q2 q3
      have f1 := u64N_wrap la
      have f2 := u64N_wrap of
      have f3 := u64N_wrap le
      have t1 := Num.wide_len (u64N la)
      have t2 := Num.wide_len (u64N of)
      have t3 := Num.wide_len (u64N le)
      generalize Num.wide (u64N la) = y1 at *
      generalize Num.wide (u64N of) = y2 at *
      generalize Num.wide (u64N le) = y3 at *
      generalize u64N la = n1 at *
      generalize u64N of = n2 at *
      generalize u64N le = n3 at *
      have hadd1 : ∀ W, (Op.stringOp .add (bs y1) (bs y2)).run Tryz.prog W = .ok (.string (bs (y1 ++ y2))) W := fun W => run_add_bs (P := Tryz.prog) y1 y2 (by omega) W
      have hadd2 : ∀ W, (Op.stringOp .add (bs (y1 ++ y2)) (bs y3)).run Tryz.prog W = .ok (.string (bs (y1 ++ y2 ++ y3))) W := fun W => run_add_bs (P := Tryz.prog) (y1 ++ y2) y3 (by rw [List.length_append]; omega) W
      have HB2 := Lib.hid hB
      have Hb2 := Lib.hid hb
      generalize hA : (nb ++ P) ++ (UInt8.ofNat L.length :: L.flatMap lab1B) = A at *
      have hAl : A.length ≤ 100000 := by
        rw [← hA]
        simp only [List.length_append, List.length_cons]
        omega
      have HA := Lib.hid (show nb ++ (E.take (i + 1)).flatMap ent1B = A ++ (y1 ++ y2 ++ y3) by rw [HT.out, ← hA]; simp [List.append_assoc])
      have qw := Lib.hid (fun W (hW : BldAt w.heap.size w.heap.size A W) (hs : w.heap.size ≤ W.heap.size) => write_k w.heap.size w.heap.size A (y1 ++ y2 ++ y3) W hW (by rw [List.length_append, List.length_append]; omega) hs)
      clear m0 m1 m2 m3 hX hB hA HT hL hl48 hll
      generalize y1 ++ y2 ++ y3 = z3 at *
      generalize y1 ++ y2 = z2 at *
      go_wp2_with fail
      refine wp_region_led (R := GrowR) (by kernel_rfl) (by kernel_rfl) rfl (by kernel_rfl) ?_
      (refine lex_one (by kernel_rfl) (by kernel_rfl) (by kernel_rfl) (fun K hK => ?_); go_big_quiet_step (fail); refine wpQuiet_nil (hK _ ?_); clear hK K); (refine lex_one (by kernel_rfl) (by kernel_rfl) (by kernel_rfl) (fun K hK => ?_); go_big_quiet_step (fail); refine wpQuiet_nil (hK _ ?_); clear hK K); (refine lex_one (by kernel_rfl) (by kernel_rfl) (by kernel_rfl) (fun K hK => ?_); go_big_quiet_step (fail); refine wpQuiet_nil (hK _ ?_); clear hK K)
      (refine lex_call (f := 60) (args := #[.int .u64 (n1 : Int)]) (v := .string (bs y1)) (by kernel_rfl) (fun _ _ h => by cases h) (by kernel_rfl) (by kernel_rfl) (fun _ => by go_simp) (fun W hW => q1.out W) (lex_put (type := 0) (pos := "") (fun K hK => ?_)); go_big_quiet_step (fail); refine wpQuiet_nil (hK _ ?_); clear hK K)
      (refine lex_one (by kernel_rfl) (by kernel_rfl) (by kernel_rfl) (fun K hK => ?_); go_big_quiet_step (fail); refine wpQuiet_nil (hK _ ?_); clear hK K); (refine lex_one (by kernel_rfl) (by kernel_rfl) (by kernel_rfl) (fun K hK => ?_); go_big_quiet_step (fail); refine wpQuiet_nil (hK _ ?_); clear hK K); (refine lex_one (by kernel_rfl) (by kernel_rfl) (by kernel_rfl) (fun K hK => ?_); go_big_quiet_step (fail); refine wpQuiet_nil (hK _ ?_); clear hK K)
      (refine lex_call (f := 60) (args := #[.int .u64 (n2 : Int)]) (v := .string (bs y2)) (by kernel_rfl) (fun _ _ h => by cases h) (by kernel_rfl) (by kernel_rfl) (fun _ => by go_simp) (fun W hW => q2.out W) (lex_put (type := 0) (pos := "") (fun K hK => ?_)); go_big_quiet_step (fail); refine wpQuiet_nil (hK _ ?_); clear hK K)
      (refine lex_one (by kernel_rfl) (by kernel_rfl) (by kernel_rfl) (fun K hK => ?_); go_big_quiet_step (fail); refine wpQuiet_nil (hK _ ?_); clear hK K); (refine lex_one (by kernel_rfl) (by kernel_rfl) (by kernel_rfl) (fun K hK => ?_); go_big_quiet_step (fail); refine wpQuiet_nil (hK _ ?_); clear hK K); (refine lex_one (by kernel_rfl) (by kernel_rfl) (by kernel_rfl) (fun K hK => ?_); go_big_quiet_step (fail); refine wpQuiet_nil (hK _ ?_); clear hK K); (refine lex_one (by kernel_rfl) (by kernel_rfl) (by kernel_rfl) (fun K hK => ?_); go_big_quiet_step (fail); refine wpQuiet_nil (hK _ ?_); clear hK K)
      (refine lex_call (f := 60) (args := #[.int .u64 (n3 : Int)]) (v := .string (bs y3)) (by kernel_rfl) (fun _ _ h => by cases h) (by kernel_rfl) (by kernel_rfl) (fun _ => by go_simp) (fun W hW => q3.out W) (lex_put (type := 0) (pos := "") (fun K hK => ?_)); go_big_quiet_step (fail); refine wpQuiet_nil (hK _ ?_); clear hK K)
      (refine lex_one (by kernel_rfl) (by kernel_rfl) (by kernel_rfl) (fun K hK => ?_); go_big_quiet_step (fail); refine wpQuiet_nil (hK _ ?_); clear hK K)
      refine lex_nil (by kernel_rfl) (by kernel_rfl) (by kernel_rfl) ?_
      intro w5 hb5
      simp only [hideAll]
      have b5 := Hb2.out.trans (Below.mono hb5 Hb2.out.size)
      have B5 := HB2.out.below hb5
      clear g1 g2 g3 HB2 Hb2
      go_wp2_with fail
      refine (qw.out _ B5 b5.size).mono ?_
      rintro e w6 ⟨rfl, B6, k6⟩
      go_wp2_with fail
      go_roundw
      case rel => exact ⟨i + 1, by omega, by go_num, by rw [HA.out]; exact B6, b5.trans k6.1, Nat.lt_of_lt_of_le hpos2 (Nat.le_trans hb5.size k6.1.size)⟩
      case measure => simp [intOf]; omega
  · rw [List.take_length] at hB
    rw [← hO.out] at hB
    have Q := Lib.hid (builderString_any _ _ _ _ hB hb.size)
    go_wp2_with fail
    refine Q.out.mono ?_
    rintro e w3 ⟨rfl, hB3, hb3⟩
    go_wp2_with fail
    go_ret
    exact ⟨rfl, hb.trans hb3⟩
end Go.Proofs.YtpeahjocimhneaaGreatDoor
