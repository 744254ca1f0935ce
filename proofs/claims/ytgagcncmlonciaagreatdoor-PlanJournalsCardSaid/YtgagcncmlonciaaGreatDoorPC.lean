/- Items: what a file's item is, the first of some items of which something is told; the walks. Texts that are all struck from a row of one's own: the walks of slices.IndexFunc and slices.DeleteFunc at texts; what Scan asks of a name. A file is added to what is told of files: the walk of (*scan).add. What a store is made of, where the files are those of works: the walk of plan.Scan. -/
import Derived.Test.YtgagcncmlonciaaGreatDoorPB
namespace Go.Proofs.YtgagcncmlonciaaGreatDoor
open Go.RowKit
attribute [local go_sem] bs_toList bs_size

/-- An item: a name, a generation, how long labels are. -/
structure It where
  name : List UInt8
  gen : Int
  long : Int
def itV (x : It) : Value := .agg #[.string (bs x.name), .int .i64 x.gen, .int .i64 x.long]
/-- Items in a row. -/
def ItsAt (w : World) (v : Value) (L : List It) : Prop := ∃ a c, v = .slice a L.length c ∧ L.length ≤ 1000 ∧ ∀ (i : Nat) (x : It), L[i]? = some x → ∃ b, a = some ⟨b, 0, none⟩ ∧
  w.cell? ⟨b, i * 3, none⟩ = some (.string (bs x.name)) ∧ w.cell? ⟨b, i * 3 + 1, none⟩ = some (.int .i64 x.gen) ∧ w.cell? ⟨b, i * 3 + 2, none⟩ = some (.int .i64 x.long)
theorem ItsAt.below {w w' : World} {v : Value} {L : List It} (h : ItsAt w v L) (hb : Below w.heap.size w w') : ItsAt w' v L := by
  obtain ⟨a, c, h1, h2, h3⟩ := h
  refine ⟨a, c, h1, h2, fun i x hx => ?_⟩
  obtain ⟨b, e, d0, d1, d2⟩ := h3 i x hx
  exact ⟨b, e, (hb.cell (World.block_lt_of_cell? _ _ d0)).trans d0, (hb.cell (World.block_lt_of_cell? _ _ d1)).trans d1, (hb.cell (World.block_lt_of_cell? _ _ d2)).trans d2⟩
def segZ : Value := .agg #[.int .i64 0, .slice none 0 0, .int .i64 0, .bool false, .int .i64 0, .slice none 0 0]
def blkZ : Value := .agg #[.int .i64 0, .slice none 0 0, .slice none 0 0, .int .i64 0]
theorem as_top_seg (v : Value) (W : World) : (Instr.typeAssert (.iface 122 v) 86 124 true).run Tryz.prog W = .ok (.tuple #[segZ, .bool false]) W := by kernel_rfl
theorem as_top_blk (v : Value) (W : World) : (Instr.typeAssert (.iface 122 v) 86 133 true).run Tryz.prog W = .ok (.tuple #[blkZ, .bool false]) W := by kernel_rfl
theorem as_top_top (v : Value) (W : World) : (Instr.typeAssert (.iface 122 v) 86 122 true).run Tryz.prog W = .ok (.tuple #[v, .bool true]) W := by kernel_rfl
theorem as_seg_seg (v : Value) (W : World) : (Instr.typeAssert (.iface 124 v) 86 124 true).run Tryz.prog W = .ok (.tuple #[v, .bool true]) W := by kernel_rfl
theorem as_seg_blk (v : Value) (W : World) : (Instr.typeAssert (.iface 124 v) 86 133 true).run Tryz.prog W = .ok (.tuple #[blkZ, .bool false]) W := by kernel_rfl
theorem is_top (v : Value) (W : World) : (Instr.typeAssert (.iface 122 v) 86 122 false).run Tryz.prog W = .ok v W := by kernel_rfl
theorem is_seg (v : Value) (W : World) : (Instr.typeAssert (.iface 124 v) 86 124 false).run Tryz.prog W = .ok v W := by kernel_rfl
theorem results_cell3 {P : Program} {fn : Func} {p : Tmp} {ty : TypeId} (h : fn.results = #[.cell p ty]) (tmps : Array Value) (w : World) (g : Nat) (tb : TypeId) (cs : Array Value) (d : TypeDesc)
    (hp : tmps.getD p undef = .pointer (some ⟨g, 0, none⟩)) (hg : Blk w g tb cs)
    (hu : P.underlying ty = some d) (hd : (match d with | .struct _ | .array _ _ => true | _ => false) = true) (hi : (P.info? ty).map (·.size) = some cs.size) :
    (results fn tmps).run P w = .ok (.agg cs) w := by
  have hp' : tmps[p]?.getD undef = .pointer (some ⟨g, 0, none⟩) := by simpa using hp
  simp [results, h, hp', asAddr, run_loadVar_row w g tb ty cs (0, 0) d hg hu hd hi]
set_option maxRecDepth 100000 in
set_option maxHeartbeats 1000000 in
theorem item_met (g : Int) (a : Option Addr) (c : Nat) (w : World) :
    Calls Tryz.prog 102 #[.string (bs metaK), topV g a c] w fun e w' => e = .returned (itV ⟨metaK, g, 0⟩) ∧ Below w.heap.size w w' := by
  have t1 := as_top_seg (.agg #[.int .i64 g, .int .i64 1, .int .i64 0, .slice a 0 c])
  have t2 := as_top_blk (.agg #[.int .i64 g, .int .i64 1, .int .i64 0, .slice a 0 c])
  have t3 := as_top_top (.agg #[.int .i64 g, .int .i64 1, .int .i64 0, .slice a 0 c])
  unfold segZ at t1
  unfold blkZ at t2
  unfold topV
  go_enter Tryz.func102, Tryz.ntmps102
  go_wp2_with fail
  (try dsimp only [Exit.noGoto])
  have K := Blk.alloc (Blk.new w 43 #[.string (bs metaK), .int .i64 g, .int .i64 0]) (.cells #[.int .i64 g, .int .i64 1, .int .i64 0, .slice a 0 c] 122)
  refine bodyPost_ret (results_cell3 rfl _ _ w.heap.size 43 _ _ rfl K Tryz.underlying43 rfl (by kernel_rfl)) rfl ?_
  exact ⟨rfl, (one_alloc w _).alloc (one_alloc w _).size _⟩
set_option maxRecDepth 100000 in
set_option maxHeartbeats 1000000 in
theorem item_seg (w : World) :
    Calls Tryz.prog 102 #[.string (bs walN), segI] w fun e w' => e = .returned (itV ⟨walN, 3, 0⟩) ∧ Below w.heap.size w w' := by
  have t1 := as_seg_seg (.agg #[.int .i64 0, .slice none 0 0, .int .i64 10, .bool false, .int .i64 3, .slice none 0 0])
  unfold segI
  go_enter Tryz.func102, Tryz.ntmps102
  go_wp2_with fail
  go_loopw [6, 19] (fun l i wr => l = .int .i64 0 ∧ i = .int .i64 0 ∧ wr = (w.alloc (.cells #[.string ⟨#[]⟩, .int .i64 0, .int .i64 0] 43)).alloc (.cells #[.int .i64 0, .slice none 0 0, .int .i64 10, .bool false, .int .i64 3, .slice none 0 0] 124)) (fun _ _ _ => 0)
  case atStart => exact ⟨rfl, rfl, rfl⟩
  obtain ⟨rfl, rfl, rfl⟩ := hrel
  go_wp2_with fail
  (try dsimp only [Exit.noGoto])
  have K := Blk.alloc (Blk.new w 43 #[.string (bs walN), .int .i64 3, .int .i64 0]) (.cells #[.int .i64 0, .slice none 0 0, .int .i64 10, .bool false, .int .i64 3, .slice none 0 0] 124)
  refine bodyPost_ret (results_cell3 rfl _ _ w.heap.size 43 _ _ rfl K Tryz.underlying43 rfl (by kernel_rfl)) rfl ?_
  exact ⟨rfl, (one_alloc w _).alloc (one_alloc w _).size _⟩
def idxI : Option Nat → Int
  | none => -1
  | some i => i
/-- A predicate of items that reads memory alone. -/
def PredIt (f : Nat) (capt : Array Value) (p : It → Bool) (w : World) : Prop := ∀ (x : It) (W : World), Below w.heap.size w W →
  Calls Tryz.prog f (#[itV x] ++ capt) W fun e W' => e = .returned (.bool (p x)) ∧ Below W.heap.size W W'
theorem PredIt.below {f : Nat} {capt : Array Value} {p : It → Bool} {w w' : World} (h : PredIt f capt p w) (hb : Below w.heap.size w w') : PredIt f capt p w' := fun x W hW => h x W (hb.trans (hW.mono hb.size))
theorem findIdx_drop {α : Type} (p : α → Bool) (L : List α) (j : Nat) (hj : j < L.length) : (L.drop j).findIdx? p = if p L[j] then some 0 else ((L.drop (j + 1)).findIdx? p).map (· + 1) := by
  rw [List.drop_eq_getElem_cons hj, List.findIdx?_cons]
set_option maxRecDepth 100000 in
set_option maxHeartbeats 1000000 in
theorem idxIt_any (f : Nat) (capt : Array Value) (p : It → Bool) (v : Value) (S : List It) (w : World) (h : ItsAt w v S) (hp : PredIt f capt p w) (hcf : ∀ args W, (callFunc f args).run Tryz.prog W = .ok (.enter f args) W) :
    Calls Tryz.prog 58 #[v, .func (.func f) #[] capt] w fun e w' => e = .returned (.int .i64 (idxI (S.findIdx? p))) ∧ Below w.heap.size w w' := by
  obtain ⟨a, c, rfl, hlen, hx⟩ := h
  have HX := Lib.hid hx
  have HP := Lib.hid hp
  clear hx hp
  obtain ⟨N, hN⟩ : ∃ N, S.length = N := ⟨_, rfl⟩
  have HN := Lib.hid hN
  rw [hN] at hlen ⊢
  clear hN
  unfold PredIt itV at HP
  go_enter Tryz.func58, Tryz.ntmps58
  go_wp2_with fail
  go_loopw [5, 8] (fun _ vi wr => ∃ (i : Nat), i ≤ N ∧ vi = .int .i64 (i : Int) ∧ Below w.heap.size w wr ∧ Hid (S.findIdx? p = ((S.drop i).findIdx? p).map (· + i))) (fun _ vi _ => N - (intOf vi).toNat)
  case atStart => exact ⟨0, Nat.zero_le _, rfl, Below.refl _ _, Lib.hid (by rw [List.drop_zero]; cases S.findIdx? p <;> rfl)⟩
  obtain ⟨i, hi', rfl, hb, HJ⟩ := hrel
  rcases (show i < N ∨ i = N by omega) with hil | rfl
  · have hiL : i < S.length := by rw [HN.out]; exact hil
    obtain ⟨b, rfl, d0, d1, d2⟩ := HX.out i S[i] (List.getElem?_eq_getElem hiL)
    have d0 := (hb.cell (World.block_lt_of_cell? _ _ d0)).trans d0
    have d1 := (hb.cell (World.block_lt_of_cell? _ _ d1)).trans d1
    have d2 := (hb.cell (World.block_lt_of_cell? _ _ d2)).trans d2
    have q := Lib.hid (HP.out S[i] wr hb)
    rw [findIdx_drop p S i hiL] at HJ
    generalize S[i] = y at *
    clear hiL
    obtain ⟨yn, yg, yl⟩ := y
    simp only at d0 d1 d2 q
    obtain ⟨bo, hbo⟩ : ∃ bo, p ⟨yn, yg, yl⟩ = bo := ⟨_, rfl⟩
    rw [hbo] at HJ q
    clear hbo
    have hw9 : IntKind.i64.wrap ((i : Int) + 1) = (i : Int) + 1 := IntWalk.i64_in _ (by omega)
    go_wp2_with fail
    refine q.out.mono ?_
    rintro e w2 ⟨rfl, hb2⟩
    have B2 := hb.trans (hb2.mono hb.size)
    clear q d0 d1 d2 hb hb2
    cases bo with
    | true =>
      have HZ := Lib.hid (show idxI (S.findIdx? p) = (i : Int) by rw [HJ.out]; simp [idxI])
      clear HJ
      go_wp2_with fail
      go_ret
      exact ⟨by rw [HZ.out]; rfl, B2⟩
    | false =>
      have HZ := Lib.hid (show S.findIdx? p = ((S.drop (i + 1)).findIdx? p).map (· + (i + 1)) by rw [HJ.out, if_neg (by decide)]; cases (S.drop (i + 1)).findIdx? p <;> simp [Nat.add_assoc, Nat.add_comm 1])
      clear HJ
      go_wp2_with fail
      go_roundw
      case rel => exact ⟨i + 1, hil, by go_num, B2, HZ⟩
      case measure => simp [intOf]; omega
  · have HZ := Lib.hid (show idxI (S.findIdx? p) = -1 by rw [HJ.out, List.drop_of_length_le (by rw [HN.out]; exact Nat.le_refl _)]; rfl)
    clear HJ
    go_wp2_with fail
    go_ret
    exact ⟨by rw [HZ.out]; rfl, hb⟩
theorem any_idx {α : Type} (p : α → Bool) : ∀ S : List α, S.any p = decide (0 ≤ idxI (S.findIdx? p))
  | [] => rfl
  | x :: S => by
    have ih := any_idx p S
    rw [List.any_cons, List.findIdx?_cons]
    cases hp : p x with
    | true => simp [idxI]
    | false =>
      rw [Bool.false_or, ih, if_neg (by decide)]
      cases S.findIdx? p with
      | none => rfl
      | some i =>
        show decide (0 ≤ (i : Int)) = decide (0 ≤ ((i + 1 : Nat) : Int))
        rw [decide_eq_true (by omega), decide_eq_true (by omega)]
theorem contIt_any (f : Nat) (capt : Array Value) (p : It → Bool) (v : Value) (S : List It) (w : World) (h : ItsAt w v S) (hp : PredIt f capt p w) (hcf : ∀ args W, (callFunc f args).run Tryz.prog W = .ok (.enter f args) W) :
    Calls Tryz.prog 21 #[v, .func (.func f) #[] capt] w fun e w' => e = .returned (.bool (S.any p)) ∧ Below w.heap.size w w' := by
  have q := Lib.hid (idxIt_any f capt p v S w h hp hcf)
  obtain ⟨a, c, rfl, hlen, -⟩ := h
  rw [any_idx]
  generalize idxI (S.findIdx? p) = z at *
  clear hp hcf
  go_enter Tryz.func21, Tryz.ntmps21
  go_wp2_with fail
  refine q.out.mono ?_
  rintro e w1 ⟨rfl, hb⟩
  go_wp2_with fail
  go_ret
  exact ⟨rfl, hb⟩
end Go.Proofs.YtgagcncmlonciaaGreatDoor
namespace Go.Proofs.YtgagcncmlonciaaGreatDoor
open Go.RowKit
attribute [local go_sem] bs_toList bs_size

theorem run_clear_row {P : Program} {w : World} {t e : TypeId} {z : Value} (ht : P.underlying t = some (.slice e)) (hv : ∀ w, (zeroValue e).run P w = .ok z w) {sz : Nat} (hz : z.cells.size = sz) (h1 : ∀ u ∈ z.cells.toList, u.oneCell' = true) {B n g c i : Nat} {xs : List Value} (h : w.ownsRow B e sz (.slice (some ⟨g, 0, none⟩) n c) n xs) (hi : i < n) :
    ∃ w', (∀ ty c', (Builtin.clear_ #[t] ty #[.slice (some ⟨g, i * sz, none⟩) (n - i) c']).run P w = .ok (.tuple #[]) w') ∧ Kept w w' (fun k => k = g) ∧ w'.ownsRow B e sz (.slice (some ⟨g, 0, none⟩) i c) i (xs.take (i * sz)) := by
  have hxl := h.1
  rcases h.2 with ⟨e9, _⟩ | ⟨g', cap, cur, e9, hB, hcur, hnc, hcm, hcs, hct⟩
  · cases e9
  obtain ⟨hgg, _, rfl⟩ := Value.slice.inj e9
  clear e9
  obtain rfl : g = g' := congrArg Addr.block (Option.some.inj hgg)
  have hnl : (Builtin.zeroCells z.cells (n - i)).toList.length = (n - i) * sz := by simp [Builtin.zeroCells, hz]
  have hon : ∀ u ∈ (Builtin.zeroCells z.cells (n - i)).toList, u.oneCell' = true := fun u hu => by
    simp only [Builtin.zeroCells, Array.toList_map, List.mem_map] at hu
    obtain ⟨j, hj, rfl⟩ := hu
    have hj := Array.mem_toList_iff.1 hj
    rw [Array.mem_range] at hj
    have hp : 0 < z.cells.size := by
      rcases Nat.eq_zero_or_pos z.cells.size with h0 | h0
      · rw [h0] at hj; omega
      · exact h0
    rw [getElem!_pos z.cells (j % z.cells.size) (Nat.mod_lt _ hp)]
    exact h1 _ (Array.mem_toList_iff.2 (Array.getElem_mem _))
  have hle : i * sz + (n - i) * sz = n * sz := by rw [← Nat.add_mul]; congr 1; omega
  have hlt : n * sz ≤ c * sz := Nat.mul_le_mul_right _ hnc
  have hst := run_storeCells_free P g (i * sz) e (0, 0) (Builtin.zeroCells z.cells (n - i)).toList 0 cur w hcur (.inl (Nat.le_refl _)) (by rw [hnl]; omega) hon
  have hcl0 : ∀ ty c', (Builtin.clear_ #[t] ty #[.slice (some ⟨g, i * sz, none⟩) (n - i) c']).run P w = .ok (.tuple #[]) (w.setRow g (cur.toList.take (i * sz + 0) ++ (Builtin.zeroCells z.cells (n - i)).toList ++ cur.toList.drop (i * sz + 0 + (Builtin.zeroCells z.cells (n - i)).toList.length)).toArray) := fun ty c' => by
    obtain ⟨m, hm⟩ : ∃ m, n - i = m + 1 := ⟨n - i - 1, by omega⟩
    rw [hm] at hst ⊢
    simp only [Builtin.clear_]
    simp [run_underlying ht, hv, hst]
  clear hst
  generalize (Builtin.zeroCells z.cells (n - i)).toList = zs at *
  have hcl : cur.toList.length = c * sz := by rw [Array.length_toList]; exact hcs
  refine ⟨_, hcl0, ⟨rfl, rfl, rfl, by rw [setRow_size]; exact Nat.le_refl _, fun k _ hg => setRow_other _ _ _ _ hg⟩, by rw [List.length_take]; omega, .inr ⟨g, c, _, rfl, hB, setRow_heap _ _ _ _ _ _ hcur, by omega, hcm, ?_, ?_⟩⟩
  · simp only [List.size_toArray, List.length_append, List.length_take, List.length_drop, hcl, hnl]
    omega
  · rw [List.append_assoc, Nat.add_zero, List.take_append_of_le_length (by rw [List.length_take]; omega), List.take_take, ← hct, List.take_take]
    congr 1
    omega
/-- A function that tells true of each of some texts, and reads memory alone. -/
def TrueSt (f : Nat) (capt : Array Value) (L : List (List UInt8)) (w : World) : Prop := ∀ x ∈ L, ∀ (W : World), Below w.heap.size w W →
  Calls Tryz.prog f (#[.string (bs x)] ++ capt) W fun e W' => e = .returned (.bool true) ∧ Below W.heap.size W W'
set_option maxRecDepth 100000 in
set_option maxHeartbeats 1000000 in
theorem idxSt_first (f : Nat) (capt : Array Value) (a : Option Addr) (n c : Nat) (x : List UInt8) (L : List (List UInt8)) (w : World) (hn : n ≤ maxLen) (hn0 : 0 < n) (hc : ∃ g, a = some ⟨g, 0, none⟩ ∧ w.cell? ⟨g, 0, none⟩ = some (.string (bs x))) (hx : x ∈ L) (hp : TrueSt f capt L w) (hcf : ∀ args W, (callFunc f args).run Tryz.prog W = .ok (.enter f args) W) :
    Calls Tryz.prog 103 #[.slice a n c, .func (.func f) #[] capt] w fun e w' => e = .returned (.int .i64 0) ∧ Below w.heap.size w w' := by
  obtain ⟨g, rfl, d0⟩ := hc
  have q := Lib.hid (hp x hx w (Below.refl _ _))
  clear hp hx
  go_enter Tryz.func103, Tryz.ntmps103
  go_wp2_with fail
  go_loopw [5, 8] (fun _ vi wr => vi = .int .i64 0 ∧ wr = w) (fun _ _ _ => 0)
  case atStart => exact ⟨rfl, rfl⟩
  obtain ⟨rfl, rfl⟩ := hrel
  go_wp2_with fail
  refine q.out.mono ?_
  rintro e w2 ⟨rfl, hb2⟩
  clear q
  go_wp2_with fail
  go_ret
  exact ⟨rfl, hb2⟩
set_option maxRecDepth 100000 in
set_option maxHeartbeats 2000000 in
theorem delStr_all (f : Nat) (capt : Array Value) (v : Value) (L : List (List UInt8)) (w : World) (B : Nat) (hv : TextsAt w B v L) (hL : 0 < L.length) (hl : L.length ≤ 100000) (hp : TrueSt f capt L w) (hcf : ∀ args W, (callFunc f args).run Tryz.prog W = .ok (.enter f args) W) :
    Calls Tryz.prog 54 #[v, .func (.func f) #[] capt] w fun e w' => (∃ a c, e = .returned (.slice a 0 c)) ∧ Kept w w' (fun k => v.ownBlock = some k) := by
  obtain ⟨la, lc, rfl, _, hln, hc⟩ := hv.form
  have hrow := hv.1
  have hx0 : L[0]? = some L[0] := List.getElem?_eq_getElem hL
  have q := Lib.hid (idxSt_first f capt la L.length lc L[0] L w hln hL (hc 0 _ hx0) (List.getElem_mem hL) hp hcf)
  obtain ⟨g, rfl, -⟩ := hc 0 _ hx0
  have HC := Lib.hid hc
  have HP := Lib.hid hp
  have HR := Lib.hid hrow
  rcases hrow.2 with ⟨e9, _⟩ | ⟨g9, c9, cur9, e9, _, _, hnc, _⟩
  · cases e9
  obtain ⟨hgg, hjj, rfl⟩ := Value.slice.inj e9
  clear hgg hjj e9 hx0 hc hp hrow hv
  obtain ⟨N, hN⟩ : ∃ N, L.length = N := ⟨_, rfl⟩
  have HN := Lib.hid hN
  rw [hN] at hL hl HR q hnc hln ⊢
  clear hN
  go_enter Tryz.func54, Tryz.ntmps54
  go_wp2_with fail
  refine q.out.mono ?_
  rintro e w1 ⟨rfl, hb1⟩
  clear q
  go_wp2_with fail
  go_loopw [5, 6] (fun si sj wr => ∃ (j : Nat), 1 ≤ j ∧ j ≤ N ∧ si = .int .i64 0 ∧ sj = .int .i64 (j : Int) ∧ Below w.heap.size w wr) (fun _ sj _ => N - (intOf sj).toNat)
  case atStart => exact ⟨1, Nat.le_refl _, hL, rfl, rfl, hb1⟩
  clear hb1
  obtain ⟨j, h1, hj, rfl, rfl, hb⟩ := hrel
  rcases (show j < N ∨ j = N by omega) with hjn | rfl
  · have hjL : j < L.length := by rw [HN.out]; exact hjn
    obtain ⟨g', e, d0⟩ := HC.out j L[j] (List.getElem?_eq_getElem hjL)
    obtain rfl : g = g' := congrArg Addr.block (Option.some.inj e)
    have d0 := (hb.cell (World.block_lt_of_cell? _ _ d0)).trans d0
    have q := Lib.hid (HP.out L[j] (List.getElem_mem hjL) wr hb)
    generalize L[j] = x at *
    have hw9 : IntKind.i64.wrap ((j : Int) + 1) = (j : Int) + 1 := IntWalk.i64_in _ (by omega)
    clear hjL e
    go_wp2_with fail
    refine q.out.mono ?_
    rintro e w2 ⟨rfl, hb2⟩
    have B2 := hb.trans (hb2.mono hb.size)
    clear q d0 hb hb2
    go_wp2_with fail
    go_roundw
    case rel => exact ⟨j + 1, by omega, by omega, rfl, by go_num, B2⟩
    case measure => simp [intOf]; omega
  · have row := ownsRow_kept HR.out (Kept.of_below (S := fun _ => False) hb) (fun _ _ e => e)
    obtain ⟨w5, hcl, hk5, -⟩ := run_clear_row (sz := 1) (z := .string ⟨#[]⟩) Tryz.underlying34 (fun W => by go_simp) rfl (by simp [Value.oneCell', Value.cells]) row hL
    have HK := Lib.hid (((Kept.of_below (S := fun k => k = g) hb)).trans hk5)
    have hj0 : ¬ (lc = 0) := by omega
    have hjc : (j : Int) ≤ (lc : Int) := by omega
    simp only [Nat.zero_mul, Nat.sub_zero] at hcl
    clear row hk5 HR HC HP
    go_wp2
    go_ret
    exact ⟨⟨_, _, rfl⟩, HK.out.weaken fun k e => by rw [e]; rfl⟩
/-- Is an item's name another one? -/
theorem scan21_any (nm : List UInt8) (p : Nat) (w : World) (hp : w.cell? ⟨p, 0, none⟩ = some (.string (bs nm))) : PredIt 57 #[.pointer (some ⟨p, 0, none⟩)] (fun x => x.name == nm) w := by
  intro x W hW
  have bA := one_alloc W (.cells #[.string (bs x.name), .int .i64 x.gen, .int .i64 x.long] 43)
  have g1 := ((hW.trans (bA.mono hW.size)).cell (World.block_lt_of_cell? _ _ hp)).trans hp
  have z0 := (Blk.cell (Blk.new W 43 #[.string (bs x.name), .int .i64 x.gen, .int .i64 x.long]) 0).trans (show _ = some (.string (bs x.name)) from rfl)
  unfold itV
  clear hW hp
  go_enter Tryz.func57, Tryz.ntmps57
  go_wp2_with fail
  go_ret
  exact ⟨rfl, bA⟩
/-- What Scan asks of a name. -/
theorem scan2_true (nm : List UInt8) (p : Nat) (v : Value) (L : List It) (w : World) (h : ItsAt w v L) (hs : w.cell? ⟨p, 0, none⟩ = some v) (hL : (L.any fun x => x.name == nm) = true) :
    Calls Tryz.prog 56 #[.string (bs nm), .pointer (some ⟨p, 0, none⟩)] w fun e w' => e = .returned (.bool true) ∧ Below w.heap.size w w' := by
  have b1 := one_alloc w (.cells #[.string (bs nm)] 9)
  have k1 := (Blk.cell (Blk.new w 9 #[.string (bs nm)]) 0).trans (show _ = some (.string (bs nm)) from rfl)
  have q := Lib.hid (contIt_any 57 #[.pointer (some ⟨w.heap.size, 0, none⟩)] _ _ _ _ (h.below b1) (scan21_any nm w.heap.size _ k1) (fun _ _ => by go_simp))
  rw [hL] at q
  have s1 := (b1.cell (World.block_lt_of_cell? _ _ hs)).trans hs
  obtain ⟨a, c, rfl, -⟩ := h
  clear hs hL
  generalize L.length = n at *
  go_enter Tryz.func56, Tryz.ntmps56
  by_cases hj : (nm == [106, 111, 117, 114, 110, 97, 108]) = true
  · go_wp2_with fail
    go_ret
    exact ⟨rfl, b1⟩
  · have hj : (nm == [106, 111, 117, 114, 110, 97, 108]) = false := by simpa using hj
    go_wp2_with fail
    refine q.out.mono ?_
    rintro e w2 ⟨rfl, hb2⟩
    have B2 := b1.trans (hb2.mono b1.size)
    go_wp2_with fail
    go_ret
    exact ⟨rfl, B2⟩
end Go.Proofs.YtgagcncmlonciaaGreatDoor
namespace Go.Proofs.YtgagcncmlonciaaGreatDoor
open Go.RowKit
attribute [local go_sem] bs_toList bs_size

variable {w : World} {G : Nat} {S : FsS} {F : Nat → Prop}
/-- What add leaves, where nothing was told: one item. -/
def AddIs (w : World) (p : Nat) (bv : Value) (bf : Int) (x : It) (X : Value → Prop) (e : Ending) (w' : World) : Prop :=
  ∃ y v, e = .returned (.tuple #[y, .int .i64 0]) ∧ X y ∧ w'.ownsRow w.heap.size 43 3 v 1 [.string (bs x.name), .int .i64 x.gen, .int .i64 x.long] ∧ Blk w' p 119 #[v, bv, .int .i64 bf] ∧ Kept w w' (fun k => k = p)
theorem app_below {w w' : World} (h : Below w.heap.size w w') : AppR none none w w' := ⟨⟨h.os, h.tape, h.output, h.size, fun k hk _ => h.block k hk⟩, fun g hg => by cases hg⟩
set_option maxRecDepth 100000 in
set_option maxHeartbeats 2000000 in
theorem add_met (h : FsMem w G S F) (hr : S.read metaK = (metB 3, 0)) (p : Nat) (ba : Option Addr) (bn bc : Nat) (bf : Int) (hk : Blk w p 119 #[.slice none 0 0, .slice ba bn bc, .int .i64 bf]) :
    Calls Tryz.prog 53 #[.pointer (some ⟨p, 0, none⟩), .pointer (some ⟨G, 0, none⟩), .string (bs metaK)] w (AddIs w p (.slice ba bn bc) bf ⟨metaK, 3, 0⟩ (fun y => ∃ a c, (a = none → c = 0) ∧ y = topV 3 a c)) := by
  have q1 := Lib.hid (Fs_Read_mem h metaK (by decide))
  rw [hr] at q1
  have q2 := Lib.hid (parse_met 3 (by decide) (by decide) metB_len w)
  have q3 := Lib.hid (fun a c W => item_met 3 a c W)
  clear h hr
  go_enter Tryz.func53, Tryz.ntmps53
  go_wp2_with fail
  refine q1.out.mono ?_
  rintro e _ ⟨rfl, rfl⟩
  go_wp2_with fail
  refine q2.out.mono ?_
  rintro e w1 ⟨⟨a, c, rfl, hac⟩, hb1⟩
  have k1 := Blk.below hk hb1 hk.lt
  have t2 := as_top_blk (.agg #[.int .i64 3, .int .i64 1, .int .i64 0, .slice a 0 c])
  unfold blkZ at t2
  have q4 := Lib.hid (q3.out a c)
  unfold topV at q4 ⊢
  clear q3
  have HB := Lib.hid hb1
  have hpl := Lib.hid hk.lt
  clear q1 q2 hk hb1
  go_wp2_with fail
  generalize hW2 : w1.alloc _ = W2 at *
  have B2 := one_alloc w1 (.cells #[.int .i64 0, .slice none 0 0, .slice none 0 0, .int .i64 0] 133)
  rw [hW2] at B2
  have k2 := Blk.below k1 B2 k1.lt
  have B3 := Lib.hid (HB.out.trans (B2.mono HB.out.size))
  clear k1 t2 B2 hW2
  have hrow : W2.ownsRow w.heap.size 43 3 (.slice none 0 0) 0 [] := World.ownsRow_nil _ _ _ _
  obtain ⟨i0, hi, hz0, hz1, hz2⟩ : ∃ i : TypeInfo, Tryz.prog.info? 43 = some i ∧ i.zero = some (.agg #[.string ⟨#[]⟩, .int .i64 0, .int .i64 0]) ∧ i.size = 3 ∧ i.bytes = 32 := info_parts (by kernel_rfl)
  have g0 := app_cell (row := none) (fin := none) ((Blk.cell k2 0).trans (show _ = some (Value.slice none 0 0) from rfl)) (fun e => by cases e)
  have hbs := B3.out.size
  refine wp_region_led (R := AppR none none) (by kernel_rfl) (by kernel_rfl) rfl (by kernel_rfl) ?_
  iterate 7 (refine lx1 fun K hK => ?_; go_big_quiet_step (fail); refine wpQuiet_nil (hK _ ?_); clear hK K)
  (refine lxc (f := 102) (args := #[.string (bs metaK), .iface 122 (.agg #[.int .i64 3, .int .i64 1, .int .i64 0, .slice a 0 c])]) (v := .agg #[.string (bs metaK), .int .i64 3, .int .i64 0]) (fun W hW => (q4.out W).mono fun e w' h => ⟨h.1, app_below h.2⟩) fun K hK => ?_; go_big_quiet_step (fail); refine wpQuiet_nil (hK _ ?_); clear hK K)
  refine lex_cells (m := 1) (news := [.string (bs metaK), .int .i64 3, .int .i64 0]) (fun _ hg => by cases hg) (by kernel_rfl) (fun _ _ h => by cases h) (by kernel_rfl) rfl 43 (fun W => by go_simp) ?_
  refine lex_app (s := 54) (x := 58) (v := .slice none 0 0) (xs := []) (t := 33) (e := 43) (i := i0) (z := .agg #[.string ⟨#[]⟩, .int .i64 0, .int .i64 0]) (bytes := 32) rfl rfl rfl Tryz.underlying33 hi hz0 hz1 hz2 rfl (by decide) rfl rfl rfl hrow rfl (by simp [Value.oneCell']) (by unfold maxLen; decide) (by decide) hbs ?_
  iterate 2 (refine lx1 fun K hK => ?_; go_big_quiet_step (fail); refine wpQuiet_nil (hK _ ?_); clear hK K)
  refine lxn ?_
  rintro W4 hW4
  simp only [hideAll]
  rintro mv' ⟨hmv, hloc⟩ x ⟨p', c', rfl, -, -⟩
  have k4 := Blk.grown k2 hW4.1 (fun e => by cases e)
  have f4 := Blk.frozen k4 0
  have d4 := (Blk.cell k4 0).trans (show _ = some (Value.slice none 0 0) from rfl)
  obtain ⟨na, nc, rfl⟩ := row_form hmv
  have kS : Kept W4 (W4.setCell ⟨p, 0, none⟩ (.slice na (0 + 1) nc)) (fun k => k = p) := Kept.of_grown (grown_set _ _ _ _) fun k hk => (Option.some.inj hk).symm
  have hK := Lib.hid (((Kept.of_below (S := fun k => k = p) B3.out).trans ((Kept.of_grown (row := none) hW4.1 fun k e => by cases e))).trans kS)
  have hR := Lib.hid (ownsRow_kept hmv kS (fun b hb e => by have := (hmv.lt b hb).1; have := hpl.out; omega))
  have hK5 := Lib.hid (Blk.set_ k4 0 (.slice na (0 + 1) nc))
  clear hmv hloc kS hW4 k4 k2 g0 hrow q4
  go_wp2_with fail
  go_ret2
  exact ⟨_, _, rfl, ⟨_, _, hac, rfl⟩, hR.out, hK5.out, hK.out⟩
set_option maxRecDepth 100000 in
set_option maxHeartbeats 2000000 in
theorem add_seg (h : FsMem w G S F) (hG : Gl w) (hr : S.read walN = (headW, 0)) (p : Nat) (ba : Option Addr) (bn bc : Nat) (bf : Int) (hk : Blk w p 119 #[.slice none 0 0, .slice ba bn bc, .int .i64 bf]) :
    Calls Tryz.prog 53 #[.pointer (some ⟨p, 0, none⟩), .pointer (some ⟨G, 0, none⟩), .string (bs walN)] w (AddIs w p (.slice ba bn bc) bf ⟨walN, 3, 0⟩ (fun y => y = segI)) := by
  have q1 := Lib.hid (Fs_Read_mem h walN (by decide))
  rw [hr] at q1
  have q2 := Lib.hid (parse_seg w hG)
  have q3 := Lib.hid (fun W => item_seg W)
  clear h hr hG
  go_enter Tryz.func53, Tryz.ntmps53
  go_wp2_with fail
  refine q1.out.mono ?_
  rintro e _ ⟨rfl, rfl⟩
  go_wp2_with fail
  refine q2.out.mono ?_
  rintro e w1 ⟨rfl, hb1⟩
  have k1 := Blk.below hk hb1 hk.lt
  have t2 := as_seg_blk (.agg #[.int .i64 0, .slice none 0 0, .int .i64 10, .bool false, .int .i64 3, .slice none 0 0])
  unfold blkZ at t2
  have q4 := Lib.hid (q3.out)
  unfold segI at q4 ⊢
  clear q3
  have HB := Lib.hid hb1
  have hpl := Lib.hid hk.lt
  clear q1 q2 hk hb1
  go_wp2_with fail
  generalize hW2 : w1.alloc _ = W2 at *
  have B2 := one_alloc w1 (.cells #[.int .i64 0, .slice none 0 0, .slice none 0 0, .int .i64 0] 133)
  rw [hW2] at B2
  have k2 := Blk.below k1 B2 k1.lt
  have B3 := Lib.hid (HB.out.trans (B2.mono HB.out.size))
  clear k1 t2 B2 hW2
  have hrow : W2.ownsRow w.heap.size 43 3 (.slice none 0 0) 0 [] := World.ownsRow_nil _ _ _ _
  obtain ⟨i0, hi, hz0, hz1, hz2⟩ : ∃ i : TypeInfo, Tryz.prog.info? 43 = some i ∧ i.zero = some (.agg #[.string ⟨#[]⟩, .int .i64 0, .int .i64 0]) ∧ i.size = 3 ∧ i.bytes = 32 := info_parts (by kernel_rfl)
  have g0 := app_cell (row := none) (fin := none) ((Blk.cell k2 0).trans (show _ = some (Value.slice none 0 0) from rfl)) (fun e => by cases e)
  have hbs := B3.out.size
  refine wp_region_led (R := AppR none none) (by kernel_rfl) (by kernel_rfl) rfl (by kernel_rfl) ?_
  iterate 7 (refine lx1 fun K hK => ?_; go_big_quiet_step (fail); refine wpQuiet_nil (hK _ ?_); clear hK K)
  (refine lxc (f := 102) (args := #[.string (bs walN), .iface 124 (.agg #[.int .i64 0, .slice none 0 0, .int .i64 10, .bool false, .int .i64 3, .slice none 0 0])]) (v := .agg #[.string (bs walN), .int .i64 3, .int .i64 0]) (fun W hW => (q4.out W).mono fun e w' h => ⟨h.1, app_below h.2⟩) fun K hK => ?_; go_big_quiet_step (fail); refine wpQuiet_nil (hK _ ?_); clear hK K)
  refine lex_cells (m := 1) (news := [.string (bs walN), .int .i64 3, .int .i64 0]) (fun _ hg => by cases hg) (by kernel_rfl) (fun _ _ h => by cases h) (by kernel_rfl) rfl 43 (fun W => by go_simp) ?_
  refine lex_app (s := 54) (x := 58) (v := .slice none 0 0) (xs := []) (t := 33) (e := 43) (i := i0) (z := .agg #[.string ⟨#[]⟩, .int .i64 0, .int .i64 0]) (bytes := 32) rfl rfl rfl Tryz.underlying33 hi hz0 hz1 hz2 rfl (by decide) rfl rfl rfl hrow rfl (by simp [Value.oneCell']) (by unfold maxLen; decide) (by decide) hbs ?_
  iterate 2 (refine lx1 fun K hK => ?_; go_big_quiet_step (fail); refine wpQuiet_nil (hK _ ?_); clear hK K)
  refine lxn ?_
  rintro W4 hW4
  simp only [hideAll]
  rintro mv' ⟨hmv, hloc⟩ x ⟨p', c', rfl, -, -⟩
  have k4 := Blk.grown k2 hW4.1 (fun e => by cases e)
  have f4 := Blk.frozen k4 0
  have d4 := (Blk.cell k4 0).trans (show _ = some (Value.slice none 0 0) from rfl)
  obtain ⟨na, nc, rfl⟩ := row_form hmv
  have kS : Kept W4 (W4.setCell ⟨p, 0, none⟩ (.slice na (0 + 1) nc)) (fun k => k = p) := Kept.of_grown (grown_set _ _ _ _) fun k hk => (Option.some.inj hk).symm
  have hK := Lib.hid (((Kept.of_below (S := fun k => k = p) B3.out).trans ((Kept.of_grown (row := none) hW4.1 fun k e => by cases e))).trans kS)
  have hR := Lib.hid (ownsRow_kept hmv kS (fun b hb e => by have := (hmv.lt b hb).1; have := hpl.out; omega))
  have hK5 := Lib.hid (Blk.set_ k4 0 (.slice na (0 + 1) nc))
  clear hmv hloc kS hW4 k4 k2 g0 hrow q4
  go_wp2_with fail
  go_ret2
  exact ⟨_, _, rfl, rfl, hR.out, hK5.out, hK.out⟩
end Go.Proofs.YtgagcncmlonciaaGreatDoor
namespace Go.Proofs.YtgagcncmlonciaaGreatDoor
open Go.RowKit
attribute [local go_sem] bs_toList bs_size

/-- What a slice's type is made of. -/
structure ElT (P : Program) (t e : TypeId) (size bytes : Nat) : Prop where
  und : P.underlying t = some (.slice e)
  info : ∃ i z, P.info? e = some i ∧ i.zero = some z ∧ i.size = size ∧ i.bytes = bytes ∧ z.cells.size = size
  pos : 0 < size
  few : bytes ≤ 1000
theorem elInfo {P : Program} {e : TypeId} {size bytes : Nat} (z : Value) (h : (P.info? e).map (fun i => (i.zero, i.size, i.bytes)) = some (some z, size, bytes)) (hz : z.cells.size = size) : ∃ i z, P.info? e = some i ∧ i.zero = some z ∧ i.size = size ∧ i.bytes = bytes ∧ z.cells.size = size := by
  obtain ⟨i, h1, h2, h3, h4⟩ := info_parts h
  exact ⟨i, z, h1, h2, h3, h4, hz⟩
theorem wp_app {P : Program} {w : World} {ops : Array Oper} {rest : List Oper} {o : Oper} {a : Act} {Q : Exit → Act → World → Prop} {t e : TypeId} {size bytes : Nat} (E : ElT P t e size bytes) (hgd : o.guard = none) (s x : Operand)
    (ho : o.op = .call { callee := .builtin .append, args := #[s, x], argTypes := #[t, t] }) {base n c : Nat} {v : Value} {xs : List Value} (hs : a.eval s = v) (hown : w.ownsRow base e size v n xs) (cs : List Value) {b : Nat} (hb : w.heap.size = b) (hx : a.eval x = .slice (some ⟨b, 0, none⟩) 1 c)
    (hl : cs.length = size) (h1 : ∀ u ∈ cs, u.oneCell' = true) (hn : n ≤ 1000000) (hbase : base ≤ w.heap.size)
    (h : ∀ sa sc w', w'.ownsRow base e size (.slice sa (n + 1) sc) (n + 1) (xs ++ cs) → Kept w w' (fun k => v.ownBlock = some k) → ((Value.slice sa (n + 1) sc).ownBlock = v.ownBlock ∨ ∀ k, (Value.slice sa (n + 1) sc).ownBlock = some k → w.heap.size ≤ k) → wpList P ops Q rest (a.put o.dst (.slice sa (n + 1) sc)) w') :
    wpList P ops Q (o :: rest) a (w.alloc (.cells cs.toArray e)) := by
  subst hb
  obtain ⟨i, z, hi, hz, hsz, hby, hzs⟩ := E.info
  refine wpList_append_own_at _ hgd s x t ho base e i z size bytes E.und hi hz hsz hby hzs E.pos v n xs hs (World.ownsRow.alloc hown _) ⟨w.heap.size, 0, none⟩ 1 c cs hx (by omega) (cells_list_new w cs e) h1 (by unfold maxLen; omega) (Nat.le_trans (Nat.mul_le_mul (show n + 1 ≤ 1000001 by omega) E.few) (by decide)) (by simp; omega) ?_
  intro v' w' h1' hg hnil hloc
  obtain ⟨sa, sc, rfl⟩ := row_form h1'
  refine h sa sc w' h1' ((Kept.alloc w _ _).trans (Kept.of_grown hg fun k e => e)) (hloc.imp id fun e k hk => ?_)
  rw [e] at hk
  have := Option.some.inj hk
  simp at this
  omega
theorem elIt : ElT Tryz.prog 33 43 3 32 := ⟨Tryz.underlying33, elInfo (.agg #[.string ⟨#[]⟩, .int .i64 0, .int .i64 0]) (by kernel_rfl) rfl, by decide, by decide⟩
theorem cells3 {W : World} {b : Nat} {T : TypeId} {u0 u1 u2 : Value} (h : Blk W b T #[u0, u1, u2]) : W.cell? ⟨b, 0, none⟩ = some u0 ∧ W.cell? ⟨b, 1, none⟩ = some u1 ∧ W.cell? ⟨b, 2, none⟩ = some u2 ∧ W.frozen? ⟨b, 0, none⟩ = false ∧ W.frozen? ⟨b, 1, none⟩ = false ∧ W.frozen? ⟨b, 2, none⟩ = false :=
  ⟨(Blk.cell h 0).trans rfl, (Blk.cell h 1).trans rfl, (Blk.cell h 2).trans rfl, Blk.frozen h 0, Blk.frozen h 1, Blk.frozen h 2⟩
theorem results_ttctt {P : Program} {fn : Func} {t1 t2 p t3 t4 : Tmp} {ty : TypeId} (h : fn.results = #[.tmp t1, .tmp t2, .cell p ty, .tmp t3, .tmp t4]) (tmps : Array Value) (w : World) (g : Nat) (tb : TypeId) (cs : Array Value) (d : TypeDesc)
    (hp : tmps.getD p undef = .pointer (some ⟨g, 0, none⟩)) (hg : Blk w g tb cs)
    (hu : P.underlying ty = some d) (hd : (match d with | .struct _ | .array _ _ => true | _ => false) = true) (hi : (P.info? ty).map (·.size) = some cs.size) :
    (results fn tmps).run P w = .ok (.tuple #[tmps.getD t1 undef, tmps.getD t2 undef, .agg cs, tmps.getD t3 undef, tmps.getD t4 undef]) w := by
  have hp' : tmps[p]?.getD undef = .pointer (some ⟨g, 0, none⟩) := by simpa using hp
  simp [results, h, hp', asAddr, run_loadVar_row w g tb ty cs (0, 0) d hg hu hd hi]
theorem fld_top (u0 u1 u2 u3 : Value) (W : World) : (Instr.field 122 (.agg #[u0, u1, u2, u3]) 0).run Tryz.prog W = .ok (.agg #[u0, u1, u2, u3]) W := by kernel_rfl
theorem fld_seg (u0 u1 u2 u3 u4 u5 : Value) (W : World) : (Instr.field 124 (.agg #[u0, u1, u2, u3, u4, u5]) 0).run Tryz.prog W = .ok (.agg #[u0, u1, u2, u3, u4, u5]) W := by kernel_rfl
/-- A block that is laid once. -/
def onePh (w0 : World) (g : Nat) (T : TypeId) (z c : Array Value) (h : Blk w0 g T z) : Phases where
  ph q w := Kept w0 w (fun k => k = g) ∧ Blk w g T (if q = 0 then z else c)
  K _ _ := True
  w0 := w0
  start := ⟨Kept.refl _ _, h⟩
  refl _ := trivial
  trans _ _ := trivial
  grow _ := trivial
  stay h k := ⟨h.1.trans (Kept.of_below k), Blk.below h.2 k h.2.lt⟩
theorem onePh_cell {w0 : World} {g : Nat} {T : TypeId} {z c : Array Value} {h : Blk w0 g T z} {p : Addr} {v : Value} (hp : w0.cell? p = some v) (hn : p.block ≠ g) : ∀ x : PW (onePh w0 g T z c h), x.w.cell? p = some v := fun x => by
  obtain ⟨q, hq⟩ := x.2
  exact hq.1.cell hp hn
/-- The items of works. -/
def itR (x : It) : List Value := [.string (bs x.name), .int .i64 x.gen, .int .i64 x.long]
theorem addr_add0 (g j : Nat) : (⟨g, 0, none⟩ : Addr).add j = ⟨g, j, none⟩ := by unfold Addr.add; split <;> simp_all
theorem flat_get : ∀ (L : List It) (i r : Nat) (x : It), L[i]? = some x → r < 3 → (L.flatMap itR)[i * 3 + r]? = (itR x)[r]?
  | [], i, r, x, h, hr => by simp at h
  | y :: L, 0, r, x, h, hr => by
    obtain rfl : y = x := by simpa using h
    rw [List.flatMap_cons, Nat.zero_mul, Nat.zero_add, List.getElem?_append_left (by simpa [itR] using hr)]
  | y :: L, i + 1, r, x, h, hr => by
    have hl : (itR y).length = 3 := rfl
    rw [List.flatMap_cons, List.getElem?_append_right (by omega), ← flat_get L i r x (by simpa using h) hr, hl]
    congr 1
    omega
theorem its_row {w : World} {B : Nat} {v : Value} {L : List It} (h : w.ownsRow B 43 3 v L.length (L.flatMap itR)) (hl : L.length ≤ 1000) : ItsAt w v L := by
  rcases h.2 with ⟨e1, e2⟩ | ⟨g, cap, cur, e1, -⟩
  · exact ⟨none, 0, by rw [e1, e2], hl, fun i x hx => by rw [List.length_eq_zero_iff.1 e2] at hx; simp at hx⟩
  · refine ⟨_, _, e1, hl, fun i x hx => ⟨g, rfl, ?_, ?_, ?_⟩⟩
    · have := h.cells (g := g) (by rw [e1]; rfl) (i * 3 + 0) _ ((flat_get L i 0 x hx (by decide)).trans rfl)
      rwa [addr_add0] at this
    · have := h.cells (g := g) (by rw [e1]; rfl) (i * 3 + 1) _ ((flat_get L i 1 x hx (by decide)).trans rfl)
      rwa [addr_add0] at this
    · have := h.cells (g := g) (by rw [e1]; rfl) (i * 3 + 2) _ ((flat_get L i 2 x hx (by decide)).trans rfl)
      rwa [addr_add0] at this
theorem owns_lower {w : World} {B B' n sz : Nat} {e : TypeId} {v : Value} {xs : List Value} (h : w.ownsRow B e sz v n xs) (hb : B' ≤ B) : w.ownsRow B' e sz v n xs := ⟨h.1, h.2.imp id fun ⟨g, cap, cur, e1, e2, r⟩ => ⟨g, cap, cur, e1, Nat.le_trans hb e2, r⟩⟩
variable {W w : World} {G : Nat} {S : FsS} {F : Nat → Prop}
/-- What Scan answers. -/
def ScanIs (w : World) (e : Ending) (w' : World) : Prop := ∃ v a c, e = .returned (.tuple #[v, .slice a 0 c, .agg #[.slice none 0 0, .int .i64 0], .bool false, .int .i64 0]) ∧
  w'.ownsRow w.heap.size 43 3 v 2 [.string (bs walN), .int .i64 3, .int .i64 0, .string (bs metaK), .int .i64 3, .int .i64 0] ∧ Below w.heap.size w w'
set_option maxRecDepth 100000 in
set_option maxHeartbeats 4000000 in
theorem Scan_full (hG : Gl W) (m : Mach W w G S F) (hS : FullS S) :
    Calls Tryz.prog 20 #[.pointer (some ⟨G, 0, none⟩)] w (ScanIs w) := by
  have hGw := hG.below m.bel
  have b0 := one_alloc w (.cells #[.slice none 0 0, .int .i64 0] 56)
  have k0 := Blk.new w 56 #[.slice none 0 0, .int .i64 0]
  have q1 := Lib.hid (fun W' (hW : Below w.heap.size w W') => Gate_full (m.mem.below hW) hS (hGw.below hW))
  have q2 := Lib.hid (fun W' (hW : Below w.heap.size w W') => Fs_Read_mem (m.mem.below hW) metaK (by decide))
  rw [hS.met] at q2
  have q3 := Lib.hid (fun W' p (hW : Below w.heap.size w W') hk => add_met (m.mem.below hW) hS.met p none 0 0 0 hk)
  have q4 := Lib.hid (fun W' (hW : Below w.heap.size w W') => Name_any walK 0 W' (hGw.below hW) (by decide) (by decide) (by decide))
  rw [show nameB walK 0 = walN from rfl] at q4
  have q5 := Lib.hid (fun W' p (hW : Below w.heap.size w W') hk => add_seg (m.mem.below hW) (hGw.below hW) hS.wal p none 0 0 0 hk)
  have q6 := Lib.hid (fun W' => All_nil none 0 0 0 W')
  have q7 := Lib.hid (fun W' (hW : Below w.heap.size w W') => Fs_List_mem (m.mem.below hW) m.ok)
  rw [hS.keys] at q7
  clear hG m hS hGw
  go_enter Tryz.func20, Tryz.ntmps20
  go_wp2_with fail
  refine (q1.out _ b0).mono ?_
  rintro e w1 ⟨rfl, hb1⟩
  have B1 := b0.trans (hb1.mono b0.size)
  have k1 := Blk.below k0 hb1 k0.lt
  clear q1 b0 k0 hb1
  go_wp2_with fail
  refine (q2.out _ B1).mono ?_
  rintro e _ ⟨rfl, rfl⟩
  clear q2
  go_upto_region 9 with fail
  have b2 := one_alloc w1 (.cells #[.slice none 0 0, .slice none 0 0, .int .i64 0] 119)
  have s2 := Blk.new w1 119 #[.slice none 0 0, .slice none 0 0, .int .i64 0]
  have B2 := B1.trans (b2.mono B1.size)
  have k2 := Blk.below k1 b2 k1.lt
  have hp := k1.lt
  have hwp := B1.size
  generalize w1.alloc _ = W2 at *
  generalize w1.heap.size = p at *
  clear B1 k1 b2
  go_wp2_with fail
  refine (q3.out _ _ B2 s2).mono ?_
  rintro e w3 ⟨y, v, rfl, ⟨a, c, -, rfl⟩, r3, s3, K3⟩
  have hB2 := B2.size
  have B3 := B2.trans (K3.below hB2 (fun k e => e ▸ hwp))
  have k3 := Blk.keptK k2 K3 (by omega)
  have hv : ∃ b c', v = .slice (some ⟨b, 0, none⟩) 1 c' ∧ w3.cell? ⟨b, 0, none⟩ = some (.string (bs metaK)) ∧ w3.cell? ⟨b, 1, none⟩ = some (.int .i64 3) ∧ w3.cell? ⟨b, 2, none⟩ = some (.int .i64 0) := by
    rcases r3.2 with ⟨_, e⟩ | ⟨b, c', cur, e, _⟩
    · exact absurd e (by decide)
    · exact ⟨b, c', e, r3.cells (g := b) (by rw [e]; rfl) 0 _ rfl, r3.cells (g := b) (by rw [e]; rfl) 1 _ rfl, r3.cells (g := b) (by rw [e]; rfl) 2 _ rfl⟩
  obtain ⟨b, c', rfl, e0, e1, e2⟩ := hv
  clear q3 B2 k2 s2 K3 r3 hB2
  have t1 := is_top (.agg #[.int .i64 3, .int .i64 1, .int .i64 0, .slice a 0 c])
  have t2 := fld_top (.int .i64 3) (.int .i64 1) (.int .i64 0) (.slice a 0 c)
  unfold topV
  go_upto_region 13 with fail
  have b4 := one_alloc w3 (.cells #[.int .i64 3, .int .i64 1, .int .i64 0, .slice a 0 c] 53)
  have m4 := Blk.new w3 53 #[.int .i64 3, .int .i64 1, .int .i64 0, .slice a 0 c]
  have s4 := Blk.below s3 b4 s3.lt
  have k4 := Blk.below k3 b4 k3.lt
  have B4 := B3.trans (b4.mono B3.size)
  have e0 := (b4.cell (World.block_lt_of_cell? _ _ e0)).trans e0
  have e1 := (b4.cell (World.block_lt_of_cell? _ _ e1)).trans e1
  have e2 := (b4.cell (World.block_lt_of_cell? _ _ e2)).trans e2
  have hpm := s3.lt
  have hwm := B3.size
  generalize w3.alloc _ = W4 at *
  generalize w3.heap.size = pm at *
  clear b4 s3 k3 B3 t1 t2
  obtain ⟨g0, g1, g2, f0, f1, f2⟩ := cells3 s4
  go_upto_region 14 with fail
  have b5 := one_alloc W4 (.cells #[.string (bs metaK), .int .i64 3, .int .i64 0] 43)
  have l5 := Blk.new W4 43 #[.string (bs metaK), .int .i64 3, .int .i64 0]
  have s5 := Blk.below s4 b5 s4.lt
  have m5 := Blk.below m4 b5 m4.lt
  have k5 := Blk.below k4 b5 k4.lt
  have B5 := B4.trans (b5.mono B4.size)
  have hpl := s4.lt
  have hml := m4.lt
  generalize W4.alloc _ = W5 at *
  generalize W4.heap.size = pl at *
  clear b5 s4 m4 k4 B4 e0 e1 e2 g0 g1 g2 f0 f1 f2
  obtain ⟨g0, g1, g2, f0, f1, f2⟩ := cells3 s5
  go_upto_region 15 with fail
  have s6 := Blk.set_ s5 0 (.slice none 0 0)
  have l6 := Blk.far l5 (p := ⟨p, 0, none⟩) (show pl ≠ p by omega) (.slice none 0 0)
  have m6 := Blk.far m5 (p := ⟨p, 0, none⟩) (show pm ≠ p by omega) (.slice none 0 0)
  have k6 := Blk.far k5 (p := ⟨p, 0, none⟩) (show w.heap.size ≠ p by omega) (.slice none 0 0)
  have B6 := B5.setCell (p := ⟨p, 0, none⟩) hwp (.slice none 0 0)
  generalize W5.setCell _ _ = W6 at *
  clear s5 l5 m5 k5 B5 g0 g1 g2 f0 f1 f2
  obtain ⟨⟨d0, d1, d2, d3⟩, -⟩ := cells4 m6
  go_wp2_with fail
  refine (q4.out _ B6).mono ?_
  rintro e w7 ⟨rfl, hb7⟩
  have B7 := B6.trans (hb7.mono B6.size)
  have s7 := Blk.below s6 hb7 s6.lt
  have l7 := Blk.below l6 hb7 l6.lt
  have m7 := Blk.below m6 hb7 m6.lt
  have k7 := Blk.below k6 hb7 k6.lt
  clear q4 B6 s6 l6 m6 k6 hb7 d0 d1 d2 d3
  go_wp2_with fail
  refine (q5.out _ _ B7 s7).mono ?_
  rintro e w8 ⟨y, v, rfl, rfl, r8, s8, K8⟩
  have hB7 := B7.size
  have B8 := B7.trans (K8.below hB7 (fun k e => e ▸ hwp))
  have l8 := Blk.keptK l7 K8 (by omega)
  have m8 := Blk.keptK m7 K8 (by omega)
  have k8 := Blk.keptK k7 K8 (by omega)
  have hpb := s7.lt
  have hv : ∃ b c', v = .slice (some ⟨b, 0, none⟩) 1 c' ∧ w7.heap.size ≤ b := by
    rcases r8.2 with ⟨_, e⟩ | ⟨b, c', cur, e, h, _⟩
    · exact absurd e (by decide)
    · exact ⟨b, c', e, h⟩
  obtain ⟨b, c', rfl, hbb⟩ := hv
  clear q5 B7 s7 l7 m7 k7 K8
  have t1 := is_seg (.agg #[.int .i64 0, .slice none 0 0, .int .i64 10, .bool false, .int .i64 3, .slice none 0 0])
  have t2 := fld_seg (.int .i64 0) (.slice none 0 0) (.int .i64 10) (.bool false) (.int .i64 3) (.slice none 0 0)
  unfold segI
  go_upto_region 19 with fail
  have b9 := one_alloc w8 (.cells #[.int .i64 0, .slice none 0 0, .int .i64 10, .bool false, .int .i64 3, .slice none 0 0] 61)
  have z9 := Blk.new w8 61 #[.int .i64 0, .slice none 0 0, .int .i64 10, .bool false, .int .i64 3, .slice none 0 0]
  have s9 := Blk.below s8 b9 s8.lt
  have l9 := Blk.below l8 b9 l8.lt
  have m9 := Blk.below m8 b9 m8.lt
  have k9 := Blk.below k8 b9 k8.lt
  have r9 := World.ownsRow.alloc r8 (.cells #[.int .i64 0, .slice none 0 0, .int .i64 10, .bool false, .int .i64 3, .slice none 0 0] 61)
  have B9 := B8.trans (b9.mono B8.size)
  have hbz := (r8.lt b rfl).2
  have hpz := s8.lt
  have hB8 := B8.size
  generalize w8.alloc _ = W9 at *
  generalize w8.heap.size = z at *
  clear b9 s8 l8 m8 k8 r8 B8 t1 t2
  obtain ⟨⟨d0, d1, d2, d3⟩, -⟩ := cells4 m9
  go_wp2_with fail
  go_loopw [102] (fun i wr => i = .int .i64 0 ∧ wr = W9) (fun _ _ => 0)
  case atStart => exact ⟨rfl, rfl⟩
  obtain ⟨rfl, rfl⟩ := hrel
  obtain ⟨y0, y1, y2, -⟩ := cells3 l9
  obtain ⟨g0, g1, g2, f0, f1, f2⟩ := cells3 s9
  go_upto_region 27 with (at_builtin; refine wp_app elIt rfl _ _ rfl rfl r9 [.string (bs metaK), .int .i64 3, .int .i64 0] rfl rfl rfl (by simp [Value.oneCell']) (by decide) (by have := B9.size; have := z9.lt; omega) ?_; intro sa sc w10 r10 K10 h10; have s10 := Blk.keptK s9 K10 (fun e => by have := Option.some.inj e; simp at this; omega); have g0 := (Blk.cell s10 0).trans (show _ = some (Value.slice (some ⟨b, 0, none⟩) 1 c') from rfl); have f0 := Blk.frozen s10 0)
  have z10 := Blk.keptK z9 K10 (fun e => by have := Option.some.inj e; simp at this; omega)
  have hB9 := B9.size
  have hwb : w.heap.size < b := by omega
  have k10 := Blk.keptK k9 K10 (fun e => by have := Option.some.inj e; simp at this; omega)
  have B10 := B9.trans (K10.below hB9 (fun k e => by have := Option.some.inj e; simp at this; omega))
  have kS : Kept w10 (w10.setCell ⟨p, 0, none⟩ (.slice sa (1 + 1) sc)) (fun k => k = p) := Kept.of_grown (grown_set _ _ _ _) fun k hk => (Option.some.inj hk).symm
  have r11 := ownsRow_kept r10 kS (fun b' hb' e => by have := (r10.lt b' hb').1; omega)
  have s11 := Blk.set_ s10 0 (.slice sa (1 + 1) sc)
  have z11 := Blk.keptK z10 kS (show ¬ z = p by omega)
  have k11 := Blk.keptK k10 kS (show ¬ w.heap.size = p by omega)
  have B11 := B10.trans (kS.below B10.size (fun k e => by omega))
  clear m9 d0 d1 d2 d3 l9 y0 y1 y2 g0 g1 g2 f0 f1 f2 s9 z9 k9 B9 r9 s10 z10 k10 B10 K10 h10 r10 kS
  generalize w10.setCell _ _ = W11 at *
  obtain ⟨g0, g1, g2, -⟩ := cells3 s11
  obtain ⟨⟨y0, y1, y2, y3, y4, y5⟩, -⟩ := cells6 z11
  go_wp2_with fail
  refine (q6.out _).mono ?_
  rintro e w12 ⟨rfl, hb12⟩
  have B12 := B11.trans (hb12.mono B11.size)
  have s12 := Blk.below s11 hb12 s11.lt
  have z12 := Blk.below z11 hb12 z11.lt
  have k12 := Blk.below k11 hb12 k11.lt
  have r12 := ownsRow_kept r11 (Kept.of_below (S := fun _ => False) hb12) (fun _ _ e => e)
  clear q6 B11 s11 z11 k11 r11 hb12 g0 g1 g2 y0 y1 y2 y3 y4 y5
  go_upto_region 28 with fail
  have b13 := one_alloc w12 (.cells #[.slice none 0 0, .int .i64 0] 56)
  have n13 := Blk.new w12 56 #[.slice none 0 0, .int .i64 0]
  have s13 := Blk.below s12 b13 s12.lt
  have z13 := Blk.below z12 b13 z12.lt
  have k13 := Blk.below k12 b13 k12.lt
  have B13 := B12.trans (b13.mono B12.size)
  have r13 := ownsRow_kept r12 (Kept.of_below (S := fun _ => False) b13) (fun _ _ e => e)
  have hnz := z12.lt
  have hB12 := B12.size
  generalize w12.alloc _ = W13 at *
  generalize w12.heap.size = nn at *
  clear b13 s12 z12 k12 B12 r12
  obtain ⟨⟨y0, y1, y2, y3, y4, y5⟩, -⟩ := cells6 z13
  go_wp2_with fail
  refine (q7.out _ B13).mono ?_
  rintro e w14 ⟨⟨nv, rfl, htx⟩, hb14⟩
  have B14 := B13.trans (hb14.mono B13.size)
  have s14 := Blk.below s13 hb14 s13.lt
  have z14 := Blk.below z13 hb14 z13.lt
  have k14 := Blk.below k13 hb14 k13.lt
  have n14 := Blk.below n13 hb14 n13.lt
  have r14 := ownsRow_kept r13 (Kept.of_below (S := fun _ => False) hb14) (fun _ _ e => e)
  have hn13 := n13.lt
  have hr13 := r13.lt
  have hz13 := z13.lt
  have hs13 := s13.lt
  have hk13 := k13.lt
  clear q7 s13 z13 k13 n13 r13 hb14 y0 y1 y2 y3 y4 y5
  have hits := its_row (L := [⟨walN, 3, 0⟩, ⟨metaK, 3, 0⟩]) r14 (by decide)
  have hT : TrueSt 56 #[.pointer (some ⟨p, 0, none⟩)] [metaK, walN] w14 := fun x hx W hW =>
    scan2_true x p _ [⟨walN, 3, 0⟩, ⟨metaK, 3, 0⟩] W (hits.below hW) ((Blk.cell (Blk.below s14 hW s14.lt) 0).trans rfl) (by
      rcases List.mem_cons.1 hx with rfl | hx
      · decide +kernel
      · rcases List.mem_cons.1 hx with rfl | hx
        · decide +kernel
        · cases hx)
  have hown := fun k (e : nv.ownBlock = some k) => (htx.1.lt k e).1
  have q8 := Lib.hid (delStr_all 56 #[.pointer (some ⟨p, 0, none⟩)] nv [metaK, walN] w14 _ htx (by decide) (by decide) hT (fun _ _ => by go_simp))
  obtain ⟨la, lc, rfl, -⟩ := htx.form
  clear hits hT htx
  go_wp2_with fail
  refine q8.out.mono ?_
  rintro e w15 ⟨⟨a2, c2, rfl⟩, K15⟩
  have s15 := Blk.keptK s14 K15 (fun e => by have := hown _ e; omega)
  have z15 := Blk.keptK z14 K15 (fun e => by have := hown _ e; omega)
  have k15 := Blk.keptK k14 K15 (fun e => by have := hown _ e; omega)
  have n15 := Blk.keptK n14 K15 (fun e => by have := hown _ e; omega)
  have B15 := B14.trans (K15.below B14.size (fun k e => by have := hown _ e; omega))
  have r15 := ownsRow_kept r14 K15 (fun k hk e => by have := hown _ e; have := (hr13 k hk).2; omega)
  clear q8 s14 z14 k14 n14 r14 B14 K15
  go_wp2_with fail
  obtain ⟨g0, g1, g2, -⟩ := cells3 s15
  obtain ⟨⟨y0, y1, y2, y3, y4, y5⟩, -⟩ := cells6 z15
  obtain ⟨n0, n1, -⟩ := cells2 n15
  have hne : w.heap.size ≠ p := by omega
  have x1 := onePh_cell (h := k15) (c := #[.slice none 0 0, .int .i64 0]) g0 (show p ≠ w.heap.size by omega)
  have x2 := onePh_cell (h := k15) (c := #[.slice none 0 0, .int .i64 0]) n0 (show nn ≠ w.heap.size by omega)
  have x3 := onePh_cell (h := k15) (c := #[.slice none 0 0, .int .i64 0]) n1 (show nn ≠ w.heap.size by omega)
  have x4 := onePh_cell (h := k15) (c := #[.slice none 0 0, .int .i64 0]) y3 (show z ≠ w.heap.size by omega)
  refine wp_region_C (onePh w15 w.heap.size 56 #[.slice none 0 0, .int .i64 0] #[.slice none 0 0, .int .i64 0] k15) [8] rfl (by kernel_rfl) (by kernel_rfl) (by kernel_rfl) (by kernel_rfl) ?_
  iterate 8 (refine lc1 fun K hK => ?_; go_big_quiet_step (fail); refine wpQuiet_nil (hK _ ?_); clear hK K)
  refine lexc_do 0 (by kernel_rfl) (by kernel_rfl) rfl (fun _ _ h => by cases h) (by kernel_rfl) rfl (fun W hW => ?_) ?_
  · obtain ⟨h1, h2⟩ := hW
    have h2 : Blk W w.heap.size 56 #[.slice none 0 0, .int .i64 0] := h2
    obtain ⟨c0, c1, f0, f1⟩ := cells2 h2
    have hkk : Kept W ((W.setCell ⟨w.heap.size, 0, none⟩ (.slice none 0 0)).setCell ⟨w.heap.size, 1, none⟩ (.int .i64 0)) (fun k => k = w.heap.size) := (Kept.of_grown (grown_set _ _ _ _) fun k e => (Option.some.inj e).symm).trans (Kept.of_grown (grown_set _ _ _ _) fun k e => (Option.some.inj e).symm)
    exact ⟨_, by go_simp, trivial, h1.trans hkk, (Blk.set_ h2 0 _).set_ 1 _⟩
  iterate 2 (refine lc1 fun K hK => ?_; go_big_quiet_step (fail); refine wpQuiet_nil (hK _ ?_); clear hK K)
  refine lcn ?_
  rintro WE _ hp2
  obtain ⟨hkE, nE⟩ := hp2
  have nE : Blk WE w.heap.size 56 #[.slice none 0 0, .int .i64 0] := nE
  simp only [hideAll]
  have BE := B15.trans (hkE.below B15.size (fun k e => Nat.le_of_eq e.symm))
  have rE := ownsRow_kept r15 hkE (fun b' hb' e => by have := (r15.lt b' hb').1; omega)
  have HP := Lib.hid (And.intro BE rE)
  clear x1 x2 x3 x4 g0 g1 g2 y0 y1 y2 y3 y4 y5 n0 n1 s15 z15 n15 B15 r15 BE rE hkE
  go_wp2_with fail
  (try dsimp only [Exit.noGoto])
  refine bodyPost_ret (results_ttctt rfl _ _ w.heap.size 56 _ _ rfl nE Tryz.underlying56 rfl (by kernel_rfl)) rfl ?_
  exact ⟨_, _, _, rfl, owns_lower HP.out.2 (by omega), HP.out.1⟩
end Go.Proofs.YtgagcncmlonciaaGreatDoor
