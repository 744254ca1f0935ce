/- Matchers: whom they fit: the walks. Matchers: whom all fit: the walks. The places of labels that all matchers fit: an iterator, and who ranges over it: the walks. Who is asked for: the walk of Ask. A map of rows that the call itself has made: an entry is taken, and stored. Over any program. How labels are ordered: the closure that a sort is given. Labels are put in order: the sort. Labels, and who has each: a map of rows, and keys in order: what they are. Labels, and who has each, in memory: a key is added, a place is put. Labels, and who has each: the walk of postings. All names and values rise, and each is there once: in plain words. Keys, and where they are: a map of numbers. (Parts of NmsA, NmsB.) -/
import Derived.Test.YtpeahjocimhneaaGreatDoorGF
import Derived.RangeFuncNested
import Derived.RangeFuncBound
import Derived.RangeFuncCalls
import Derived.RangeFuncLeaves
import Derived.RangeFuncBox
import Derived.Shelf.Abstract
import Derived.Shelf.RegionOpen
import Derived.WalkKit
import Derived.OwnWalkIn
import Derived.TacticsInMore
import Derived.LoopNIn
import Derived.LoopIn
import Derived.Maps.AppendAt
import Derived.Test.YtpeahjocimhneaaGreatDoorGD
import Derived.Maps.OwnRows
import Derived.Maps.GroupsBeside
import Derived.WideKeyEntry
import Derived.Test.YtpeahjocimhneaaGreatDoorShelfF
import Derived.DeepKeys3
import Derived.Test.YtpeahjocimhneaaGreatDoorGE
import Derived.Maps.Ext
namespace Go.Proofs.YtpeahjocimhneaaGreatDoor
open Go.RowKit Go.Maps Go.WideMaps
attribute [local go_sem] bs_toList bs_size

/-- The value of a name. -/
def getL : List Lb → List UInt8 → List UInt8
  | [], _ => []
  | y :: l, n => if y.1 = n then y.2 else getL l n
theorem getL_at {L : List Lb} {n : List UInt8} {i : Nat} (h : i < L.length) : getL (L.drop i) n = if L[i].1 = n then L[i].2 else getL (L.drop (i + 1)) n := by
  rw [List.drop_eq_getElem_cons h, getL]
set_option maxRecDepth 100000 in
set_option maxHeartbeats 1000000 in
theorem LGet_any (L : List Lb) (v : Value) (n : List UInt8) (w : World) (h : LabsAt w v L) :
    Calls Tryz.prog 152 #[v, .string (bs n)] w fun e w' => e = .returned (.string (bs (getL L n))) ∧ Below w.heap.size w w' := by
  obtain ⟨a, c, rfl, hl, hx⟩ := h
  have HX := Lib.hid hx
  clear hx
  have h0 : getL L n = getL (L.drop 0) n := rfl
  have HAT := Lib.hid (fun i (h : i < L.length) => getL_at (n := n) h)
  have H0 := Lib.hid h0
  clear h0
  generalize getL L n = R at *
  go_enter Tryz.func152, Tryz.ntmps152
  go_wp2_with fail
  go_loopw [9] (fun vi wr => ∃ i : Nat, i ≤ L.length ∧ vi = .int .i64 (i : Int) ∧ Below w.heap.size w wr ∧ Hid (R = getL (L.drop i) n)) (fun vi _ => L.length - (intOf vi).toNat)
  case atStart => exact ⟨0, Nat.zero_le _, rfl, Below.refl _ _, H0⟩
  clear H0
  obtain ⟨i, hi, rfl, hb, HR⟩ := hrel
  rcases (show i < L.length ∨ i = L.length by omega) with hil | rfl
  · obtain ⟨h1, h2, b, o, rfl, d0, d1⟩ := HX.out i L[i] (List.getElem?_eq_getElem hil)
    have e0 := (hb.cell (World.block_lt_of_cell? _ _ d0)).trans d0
    have e1 := (hb.cell (World.block_lt_of_cell? _ _ d1)).trans d1
    have HA := HAT.out i hil
    rw [HA] at HR
    clear d0 d1 HA HAT
    generalize L[i] = y at *
    by_cases hn : y.1 = n
    · have HR2 := Lib.hid (show R = y.2 by rw [HR.out, if_pos hn])
      have f1 : (y.1 == n) = true := by simpa using hn
      clear HR hn
      go_wp2_with fail
      go_ret
      exact ⟨by rw [HR2.out]; rfl, hb.alloc hb.size _⟩
    · have HR2 := Lib.hid (show R = getL (L.drop (i + 1)) n by rw [HR.out, if_neg hn])
      have f1 : (y.1 == n) = false := by simpa using hn
      clear HR hn
      go_wp2_with fail
      go_roundw
      case rel => exact ⟨i + 1, by omega, by go_num, hb.alloc hb.size _, HR2⟩
      case measure => simp [intOf]; omega
  · have HR2 := Lib.hid (show R = [] by rw [HR.out, List.drop_length]; rfl)
    go_wp2_with fail
    go_ret
    exact ⟨by rw [HR2.out]; rfl, hb⟩
/-- A matcher. -/
structure Mr where
  kind : Int
  name : List UInt8
  value : List UInt8
def zeroMr : Mr := ⟨0, [], []⟩
def fitsM (m : Mr) (L : List Lb) : Bool :=
  if m.kind = 0 then getL L m.name == m.value
  else if m.kind = 1 then !(getL L m.name == m.value)
  else if m.kind = 2 then Lib.hasPrefix (getL L m.name) m.value
  else if m.kind = 3 then L.any fun y => decide (y.1 = m.name)
  else false
def allM (M : List Mr) (L : List Lb) : Bool := M.all fun m => fitsM m L
def mrV (m : Mr) : Value := .agg #[.int .i64 m.kind, .string (bs m.name), .string (bs m.value)]
set_option maxRecDepth 100000 in
theorem Fits1_any (y : Lb) (m : Mr) (g : Nat) (w : World) (hk : Blk w g 55 #[.int .i64 m.kind, .string (bs m.name), .string (bs m.value)]) :
    Calls Tryz.prog 154 #[.agg #[.string (bs y.1), .string (bs y.2)], .pointer (some ⟨g, 0, none⟩)] w fun e w' => e = .returned (.bool (decide (y.1 = m.name))) ∧ Below w.heap.size w w' := by
  have c1 : w.cell? ⟨g, 1, none⟩ = some (.string (bs m.name)) := (Blk.cell hk 1).trans rfl
  have b0 := one_alloc w (.cells #[.string (bs y.1), .string (bs y.2)] 37)
  have c2 := (Below.cell b0 (World.block_lt_of_cell? _ _ c1)).trans c1
  have hd : (y.1 == m.name) = decide (y.1 = m.name) := by by_cases h : y.1 = m.name <;> simp [h]
  generalize decide (y.1 = m.name) = R at *
  have HD := Lib.hid hd
  clear hd hk c1
  go_enter Tryz.func154, Tryz.ntmps154
  go_wp2_with fail
  go_ret
  exact ⟨by rw [← HD.out]; rfl, b0⟩
theorem count_snoc {α : Type} (p : α → Bool) (L : List α) {i : Nat} (h : i < L.length) : ((L.take (i + 1)).filter p).length = ((L.take i).filter p).length + if p L[i] then 1 else 0 := by
  rw [List.take_succ_eq_append_getElem h, List.filter_append, List.length_append, List.filter_cons, List.filter_nil]
  split <;> rfl
set_option maxRecDepth 100000 in
set_option maxHeartbeats 2000000 in
theorem pickL_any (L : List Lb) (v : Value) (m : Mr) (g : Nat) (w : World) (h : LabsAt w v L) (hk : Blk w g 55 #[.int .i64 m.kind, .string (bs m.name), .string (bs m.value)]) :
    Calls Tryz.prog 153 #[v, .func (.func 154) #[] #[.pointer (some ⟨g, 0, none⟩)]] w fun e w' => ∃ a c, e = .returned (.slice a (L.filter fun y => decide (y.1 = m.name)).length c) ∧ Below w.heap.size w w' := by
  obtain ⟨a, c, rfl, hl, hx⟩ := h
  have HX := Lib.hid hx
  clear hx
  have Q := Lib.hid (fun y W (hW : Below w.heap.size w W) => Fits1_any y m g W (Blk.below hk hW hk.lt))
  have HC := Lib.hid (fun i (h : i < L.length) => count_snoc (fun y : Lb => decide (y.1 = m.name)) L h)
  have hfl : (L.filter fun y => decide (y.1 = m.name)).length ≤ L.length := List.length_filter_le _ _
  have ⟨i0, hi, hz0, hz1, hz2⟩ := info_parts (show (Tryz.prog.info? 37).map (fun i => (i.zero, i.size, i.bytes)) = some (some (.agg #[.string ⟨#[]⟩, .string ⟨#[]⟩]), 2, 32) by kernel_rfl)
  have r0 : w.ownsRow w.heap.size 37 2 (.slice none 0 0) ((L.take 0).filter fun y => decide (y.1 = m.name)).length [] := World.ownsRow_nil _ _ _ _
  clear hk
  go_enter Tryz.func153, Tryz.ntmps153
  go_wp2_with fail
  go_loopw [5, 10] (fun vo vi wr => ∃ (i : Nat) (xs : List Value), i ≤ L.length ∧ vi = .int .i64 (i : Int) ∧ wr.ownsRow w.heap.size 37 2 vo ((L.take i).filter fun y => decide (y.1 = m.name)).length xs ∧ Below w.heap.size w wr) (fun _ vi _ => L.length - (intOf vi).toNat)
  case atStart => exact ⟨0, [], Nat.zero_le _, rfl, r0, Below.refl _ _⟩
  clear r0
  obtain ⟨i, xs, hi', rfl, hrow, hb⟩ := hrel
  obtain ⟨sa, sc, rfl⟩ := row_form hrow
  rcases (show i < L.length ∨ i = L.length by omega) with hil | rfl
  · obtain ⟨h1, h2, b, o, rfl, d0, d1⟩ := HX.out i L[i] (List.getElem?_eq_getElem hil)
    have e0 := (hb.cell (World.block_lt_of_cell? _ _ d0)).trans d0
    have e1 := (hb.cell (World.block_lt_of_cell? _ _ d1)).trans d1
    have HCI := Lib.hid (HC.out i hil)
    have hcl : ((L.take i).filter fun y => decide (y.1 = m.name)).length ≤ i := Nat.le_trans (List.length_filter_le _ _) (by rw [List.length_take]; omega)
    clear d0 d1
    generalize L[i] = y at *
    generalize ((L.take i).filter fun y => decide (y.1 = m.name)).length = cn at *
    generalize hc2 : ((L.take (i + 1)).filter fun y => decide (y.1 = m.name)).length = cn2 at *
    have HC2 := Lib.hid hc2
    clear hc2
    have bA := one_alloc wr (.cells #[.string (bs y.1), .string (bs y.2)] 37)
    have BA := hb.trans (bA.mono hb.size)
    have q := Lib.hid (Q.out y _ BA)
    have hrA := World.ownsRow.alloc hrow (.cells #[.string (bs y.1), .string (bs y.2)] 37)
    have kA := Blk.new wr 37 #[.string (bs y.1), .string (bs y.2)]
    clear hrow bA
    generalize decide (y.1 = m.name) = bo at *
    go_wp2_with fail
    refine q.out.mono ?_
    rintro e w2 ⟨rfl, hb2⟩
    have k2 := Blk.below kA hb2 kA.lt
    have c0 : w2.cell? ⟨wr.heap.size, 0, none⟩ = some (.string (bs y.1)) := (Blk.cell k2 0).trans rfl
    have c1 : w2.cell? ⟨wr.heap.size, 1, none⟩ = some (.string (bs y.2)) := (Blk.cell k2 1).trans rfl
    have r2 := ownsRow_kept hrA (Kept.of_below (S := fun _ => False) hb2) (fun _ _ e => e)
    have B2 := BA.trans (hb2.mono BA.size)
    have hs2 := B2.size
    clear q hrA kA k2 BA hb2 hb
    cases bo with
    | true =>
      go_wp2_with (at_builtin; refine wpList_append_own_at _ rfl _ _ 57 rfl w.heap.size 37 i0 (.agg #[.string ⟨#[]⟩, .string ⟨#[]⟩]) 2 32 Tryz.underlying57 hi hz0 hz1 hz2 rfl (by decide) _ _ _ rfl (World.ownsRow.alloc r2 _) ⟨_, 0, none⟩ 1 1 [.string (bs y.1), .string (bs y.2)] rfl rfl (cells_new _ _ _ _ rfl) (by simp [Value.oneCell']) (by unfold maxLen; omega) (by omega) (by simp; omega) ?_; intro v' w5 hown' hgrow hnil2 hloc; obtain ⟨sa', sc', rfl⟩ := row_form hown')
      go_roundw
      case rel =>
        have hkq : Kept w2 w5 (fun k => w.heap.size ≤ k) := (Kept.alloc w2 _ _).trans (Kept.of_grown hgrow fun k e => (r2.lt k e).1)
        exact ⟨i + 1, _, by omega, by go_num, by rw [HC2.out, HCI.out]; exact hown', B2.trans (hkq.below hs2 fun k e => e)⟩
      case measure => simp [intOf]; omega
    | false =>
      go_wp2_with fail
      go_roundw
      case rel => exact ⟨i + 1, xs, by omega, by go_num, by rw [HC2.out, HCI.out]; exact r2, B2⟩
      case measure => simp [intOf]; omega
  · rw [List.take_length]
    go_wp2_with fail
    go_ret
    exact ⟨_, _, rfl, hb⟩
end Go.Proofs.YtpeahjocimhneaaGreatDoor
namespace Go.Proofs.YtpeahjocimhneaaGreatDoor
open Go.RowKit Go.Maps Go.WideMaps
attribute [local go_sem] bs_toList bs_size

theorem cells3 {W : World} {b : Nat} {T : TypeId} {u0 u1 u2 : Value} (h : Blk W b T #[u0, u1, u2]) : W.cell? ⟨b, 0, none⟩ = some u0 ∧ W.cell? ⟨b, 1, none⟩ = some u1 ∧ W.cell? ⟨b, 2, none⟩ = some u2 :=
  ⟨(Blk.cell h 0).trans rfl, (Blk.cell h 1).trans rfl, (Blk.cell h 2).trans rfl⟩
theorem any_count (L : List Lb) (n : List UInt8) : decide (0 < (L.filter fun y => decide (y.1 = n)).length) = L.any fun y => decide (y.1 = n) := by
  rw [Bool.eq_iff_iff, decide_eq_true_eq, List.length_pos_iff_exists_mem, List.any_eq_true]
  constructor
  · rintro ⟨y, hy⟩
    exact ⟨y, (List.mem_filter.1 hy).1, (List.mem_filter.1 hy).2⟩
  · rintro ⟨y, hy, h⟩
    exact ⟨y, List.mem_filter.2 ⟨hy, h⟩⟩
set_option maxRecDepth 100000 in
set_option maxHeartbeats 2000000 in
theorem Fits_any (m : Mr) (L : List Lb) (v : Value) (w : World) (h : LabsAt w v L) :
    Calls Tryz.prog 131 #[mrV m, v] w fun e w' => e = .returned (.bool (fitsM m L)) ∧ Below w.heap.size w w' := by
  have b0 := one_alloc w (.cells #[.int .i64 m.kind, .string (bs m.name), .string (bs m.value)] 55)
  have k0 := Blk.new w 55 #[.int .i64 m.kind, .string (bs m.name), .string (bs m.value)]
  have hL := h.below b0
  have qg := Lib.hid (LGet_any L v m.name _ hL)
  have qp := Lib.hid (fun W (hW : Below (w.alloc (.cells #[.int .i64 m.kind, .string (bs m.name), .string (bs m.value)] 55)).heap.size (w.alloc (.cells #[.int .i64 m.kind, .string (bs m.name), .string (bs m.value)] 55)) W) => pickL_any L v m w.heap.size W (hL.below hW) (Blk.below k0 hW k0.lt))
  have HF := Lib.hid (show fitsM m L = if m.kind = 0 then getL L m.name == m.value
    else if m.kind = 1 then !(getL L m.name == m.value)
    else if m.kind = 2 then Lib.hasPrefix (getL L m.name) m.value
    else if m.kind = 3 then L.any fun y => decide (y.1 = m.name)
    else false from rfl)
  have HA := Lib.hid (any_count L m.name)
  have HH := Lib.hid (fun (a b : List UInt8) W => Tryz.strings_HasPrefix (bs a) (bs b) W)
  obtain ⟨c0, c1, c2⟩ := cells3 k0
  obtain ⟨a, c, rfl, _⟩ := id h
  generalize fitsM m L = R at *
  generalize getL L m.name = gv at *
  generalize (L.any fun y => decide (y.1 = m.name)) = an at *
  generalize (L.filter fun y => decide (y.1 = m.name)).length = cn at *
  obtain ⟨ki, na, va⟩ := m
  rw [show mrV ⟨ki, na, va⟩ = .agg #[.int .i64 ki, .string (bs na), .string (bs va)] from rfl]
  simp only at HF c0 c1 c2 qg k0 b0 hL qp
  go_enter Tryz.func131, Tryz.ntmps131
  go_wp2_with fail
  refine qg.out.mono ?_
  rintro e w1 ⟨rfl, b1⟩
  have k1 := Blk.below k0 b1 k0.lt
  have B1 := b0.trans (b1.mono b0.size)
  have QP := Lib.hid (qp.out _ b1)
  obtain ⟨d0, d1, d2⟩ := cells3 k1
  clear qg qp k0 c0 c1 c2 b0 b1 hL h k1
  by_cases t0 : ki = 0
  · have f0 : (ki == 0) = true := by simpa using t0
    have HE := Lib.hid (show R = (gv == va) by rw [HF.out, if_pos t0])
    clear HF QP HA t0
    go_wp2_with fail
    go_ret
    exact ⟨by rw [HE.out]; rfl, B1⟩
  have f0 : (ki == 0) = false := by simpa using t0
  by_cases t1 : ki = 1
  · have f1 : (ki == 1) = true := by simpa using t1
    have HE := Lib.hid (show R = !(gv == va) by rw [HF.out, if_neg t0, if_pos t1])
    clear HF QP HA t0 t1
    go_wp2_with fail
    go_ret
    exact ⟨by rw [HE.out]; rfl, B1⟩
  have f1 : (ki == 1) = false := by simpa using t1
  by_cases t2 : ki = 2
  · have f2 : (ki == 2) = true := by simpa using t2
    have HE := Lib.hid (show R = Lib.hasPrefix gv va by rw [HF.out, if_neg t0, if_neg t1, if_pos t2])
    clear HF QP HA t0 t1 t2
    go_wp2_with fail
    refine (HH.out _ _ _).mono ?_
    rintro e w2 ⟨rfl, rfl⟩
    rw [bs_data, bs_data]
    go_wp2_with fail
    go_ret
    exact ⟨by rw [HE.out]; rfl, B1⟩
  have f2 : (ki == 2) = false := by simpa using t2
  by_cases t3 : ki = 3
  · have f3 : (ki == 3) = true := by simpa using t3
    have HE := Lib.hid (show R = an by rw [HF.out, if_neg t0, if_neg t1, if_neg t2, if_pos t3])
    clear HF t0 t1 t2 t3
    go_wp2_with fail
    refine QP.out.mono ?_
    rintro e w2 ⟨pa, pc, rfl, b2⟩
    clear QP
    go_wp2_with fail
    go_ret
    exact ⟨by rw [HE.out, ← HA.out]; simp, B1.trans (b2.mono B1.size)⟩
  have f3 : (ki == 3) = false := by simpa using t3
  have HE := Lib.hid (show R = false by rw [HF.out, if_neg t0, if_neg t1, if_neg t2, if_neg t3])
  clear HF QP HA t0 t1 t2 t3
  go_wp2_with fail
  go_ret
  exact ⟨by rw [HE.out]; rfl, B1⟩
/-- A slice of matchers. -/
def MatsAt (w : World) (v : Value) (M : List Mr) : Prop :=
  ∃ a c, v = .slice a M.length c ∧ M.length ≤ 1048576 ∧ ∀ (i : Nat) x, M[i]? = some x → (-9223372036854775808 ≤ x.kind ∧ x.kind ≤ 9223372036854775807) ∧ x.name.length ≤ maxLen ∧ x.value.length ≤ maxLen ∧ ∃ b o, a = some ⟨b, o, none⟩ ∧ w.cell? ⟨b, o + i * 3, none⟩ = some (.int .i64 x.kind) ∧ w.cell? ⟨b, o + i * 3 + 1, none⟩ = some (.string (bs x.name)) ∧ w.cell? ⟨b, o + i * 3 + 2, none⟩ = some (.string (bs x.value))
theorem MatsAt.below {w w' : World} {v : Value} {M : List Mr} (h : MatsAt w v M) (hb : Below w.heap.size w w') : MatsAt w' v M := by
  obtain ⟨a, c, h1, h2, h3⟩ := h
  refine ⟨a, c, h1, h2, fun i x hx => ?_⟩
  obtain ⟨h4, h5, h6, b, o, h7, h8, h9, h10⟩ := h3 i x hx
  exact ⟨h4, h5, h6, b, o, h7, (Below.cell hb (World.block_lt_of_cell? _ _ h8)).trans h8, (Below.cell hb (World.block_lt_of_cell? _ _ h9)).trans h9, (Below.cell hb (World.block_lt_of_cell? _ _ h10)).trans h10⟩
set_option maxRecDepth 100000 in
theorem All1_any (m : Mr) (L : List Lb) (v : Value) (p : Addr) (w : World) (h : LabsAt w v L) (hp : w.cell? p = some v) :
    Calls Tryz.prog 130 #[mrV m, .pointer (some p)] w fun e w' => e = .returned (.bool (fitsM m L)) ∧ Below w.heap.size w w' := by
  have b0 := one_alloc w (.cells #[.int .i64 m.kind, .string (bs m.name), .string (bs m.value)] 55)
  have k0 := Blk.new w 55 #[.int .i64 m.kind, .string (bs m.name), .string (bs m.value)]
  have cp := (Below.cell b0 (World.block_lt_of_cell? _ _ hp)).trans hp
  have q := Lib.hid (Fits_any m L v _ (h.below b0))
  obtain ⟨c0, c1, c2⟩ := cells3 k0
  obtain ⟨a, c, rfl, _⟩ := id h
  rw [show mrV m = .agg #[.int .i64 m.kind, .string (bs m.name), .string (bs m.value)] from rfl] at q ⊢
  generalize fitsM m L = R at *
  clear k0 h hp
  go_enter Tryz.func130, Tryz.ntmps130
  go_wp2_with fail
  refine q.out.mono ?_
  rintro e w1 ⟨rfl, b1⟩
  go_wp2_with fail
  go_ret
  exact ⟨rfl, b0.trans (b1.mono b0.size)⟩
set_option maxRecDepth 100000 in
set_option maxHeartbeats 2000000 in
theorem pickM_any (M : List Mr) (mv : Value) (L : List Lb) (v : Value) (p : Addr) (w : World) (hM : MatsAt w mv M) (h : LabsAt w v L) (hp : w.cell? p = some v) :
    Calls Tryz.prog 129 #[mv, .func (.func 130) #[] #[.pointer (some p)]] w fun e w' => ∃ a c, e = .returned (.slice a (M.filter fun m => fitsM m L).length c) ∧ Below w.heap.size w w' := by
  obtain ⟨a, c, rfl, hl, hx⟩ := hM
  have HX := Lib.hid hx
  clear hx
  have Q := Lib.hid (fun m W (hW : Below w.heap.size w W) => All1_any m L v p W (h.below hW) ((Below.cell hW (World.block_lt_of_cell? _ _ hp)).trans hp))
  have HC := Lib.hid (fun i (h : i < M.length) => count_snoc (fun m : Mr => fitsM m L) M h)
  have ⟨i0, hi, hz0, hz1, hz2⟩ := info_parts (show (Tryz.prog.info? 55).map (fun i => (i.zero, i.size, i.bytes)) = some (some (.agg #[.int .i64 0, .string ⟨#[]⟩, .string ⟨#[]⟩]), 3, 40) by kernel_rfl)
  have r0 : w.ownsRow w.heap.size 55 3 (.slice none 0 0) ((M.take 0).filter fun m => fitsM m L).length [] := World.ownsRow_nil _ _ _ _
  clear h hp
  go_enter Tryz.func129, Tryz.ntmps129
  go_wp2_with fail
  go_loopw [5, 10] (fun vo vi wr => ∃ (i : Nat) (xs : List Value), i ≤ M.length ∧ vi = .int .i64 (i : Int) ∧ wr.ownsRow w.heap.size 55 3 vo ((M.take i).filter fun m => fitsM m L).length xs ∧ Below w.heap.size w wr) (fun _ vi _ => M.length - (intOf vi).toNat)
  case atStart => exact ⟨0, [], Nat.zero_le _, rfl, r0, Below.refl _ _⟩
  clear r0
  obtain ⟨i, xs, hi', rfl, hrow, hb⟩ := hrel
  obtain ⟨sa, sc, rfl⟩ := row_form hrow
  rcases (show i < M.length ∨ i = M.length by omega) with hil | rfl
  · obtain ⟨h0, h1, h2, b, o, rfl, d0, d1, d2⟩ := HX.out i M[i] (List.getElem?_eq_getElem hil)
    have e0 := (hb.cell (World.block_lt_of_cell? _ _ d0)).trans d0
    have e1 := (hb.cell (World.block_lt_of_cell? _ _ d1)).trans d1
    have e2 := (hb.cell (World.block_lt_of_cell? _ _ d2)).trans d2
    have HCI := Lib.hid (HC.out i hil)
    have hcl : ((M.take i).filter fun m => fitsM m L).length ≤ i := Nat.le_trans (List.length_filter_le _ _) (by rw [List.length_take]; omega)
    have bA := one_alloc wr (.cells #[.int .i64 M[i].kind, .string (bs M[i].name), .string (bs M[i].value)] 55)
    have BA := hb.trans (bA.mono hb.size)
    have q := Q.out M[i] _ BA
    rw [show mrV M[i] = .agg #[.int .i64 M[i].kind, .string (bs M[i].name), .string (bs M[i].value)] from rfl] at q
    have q := Lib.hid q
    have hrA := World.ownsRow.alloc hrow (.cells #[.int .i64 M[i].kind, .string (bs M[i].name), .string (bs M[i].value)] 55)
    have kA := Blk.new wr 55 #[.int .i64 M[i].kind, .string (bs M[i].name), .string (bs M[i].value)]
    clear hrow bA d0 d1 d2
    generalize ((M.take i).filter fun m => fitsM m L).length = cn at *
    generalize hc2 : ((M.take (i + 1)).filter fun m => fitsM m L).length = cn2 at *
    have HC2 := Lib.hid hc2
    clear hc2
    generalize M[i] = y at *
    generalize fitsM y L = bo at *
    go_wp2_with fail
    refine q.out.mono ?_
    rintro e w2 ⟨rfl, hb2⟩
    have k2 := Blk.below kA hb2 kA.lt
    obtain ⟨c0, c1, c2⟩ := cells3 k2
    have r2 := ownsRow_kept hrA (Kept.of_below (S := fun _ => False) hb2) (fun _ _ e => e)
    have B2 := BA.trans (hb2.mono BA.size)
    have hs2 := B2.size
    clear q hrA kA k2 BA hb2 hb
    cases bo with
    | true =>
      go_wp2_with (at_builtin; refine wpList_append_own_at _ rfl _ _ 38 rfl w.heap.size 55 i0 (.agg #[.int .i64 0, .string ⟨#[]⟩, .string ⟨#[]⟩]) 3 40 Tryz.underlying38 hi hz0 hz1 hz2 rfl (by decide) _ _ _ rfl (World.ownsRow.alloc r2 _) ⟨_, 0, none⟩ 1 1 [.int .i64 y.kind, .string (bs y.name), .string (bs y.value)] rfl rfl (cells_new _ _ _ _ rfl) (by simp [Value.oneCell']) (by unfold maxLen; omega) (by omega) (by simp; omega) ?_; intro v' w5 hown' hgrow hnil2 hloc; obtain ⟨sa', sc', rfl⟩ := row_form hown')
      go_roundw
      case rel =>
        have hkq : Kept w2 w5 (fun k => w.heap.size ≤ k) := (Kept.alloc w2 _ _).trans (Kept.of_grown hgrow fun k e => (r2.lt k e).1)
        exact ⟨i + 1, _, by omega, by go_num, by rw [HC2.out, HCI.out]; exact hown', B2.trans (hkq.below hs2 fun k e => e)⟩
      case measure => simp [intOf]; omega
    | false =>
      go_wp2_with fail
      go_roundw
      case rel => exact ⟨i + 1, xs, by omega, by go_num, by rw [HC2.out, HCI.out]; exact r2, B2⟩
      case measure => simp [intOf]; omega
  · rw [List.take_length]
    go_wp2_with fail
    go_ret
    exact ⟨_, _, rfl, hb⟩
theorem all_count (M : List Mr) (L : List Lb) : ((M.filter fun m => fitsM m L).length == M.length) = allM M L := by
  unfold allM
  rw [Bool.eq_iff_iff, beq_iff_eq, List.length_filter_eq_length_iff, List.all_eq_true]
set_option maxRecDepth 100000 in
theorem All_any (M : List Mr) (mv : Value) (L : List Lb) (v : Value) (w : World) (hM : MatsAt w mv M) (h : LabsAt w v L) :
    Calls Tryz.prog 97 #[mv, v] w fun e w' => e = .returned (.bool (allM M L)) ∧ Below w.heap.size w w' := by
  have b0 := one_alloc w (.cells #[v] 57)
  have c0 : (w.alloc (.cells #[v] 57)).cell? ⟨w.heap.size, 0, none⟩ = some v := (World.cell?_alloc_new _ _ _ _).trans rfl
  have q := Lib.hid (pickM_any M mv L v ⟨w.heap.size, 0, none⟩ _ (hM.below b0) (h.below b0) c0)
  have HA := all_count M L
  obtain ⟨a, c, rfl, _⟩ := id h
  obtain ⟨a', c', rfl, hml, _⟩ := id hM
  have hfl : (M.filter fun m => fitsM m L).length ≤ M.length := List.length_filter_le _ _
  generalize (M.filter fun m => fitsM m L).length = cn at *
  have HE : ((cn : Int) == (M.length : Int)) = allM M L := by
    rw [← HA]
    rw [Bool.eq_iff_iff, beq_iff_eq, beq_iff_eq]
    omega
  generalize allM M L = R at *
  have HE := Lib.hid HE
  have HA := Lib.hid HA
  clear h hM c0
  go_enter Tryz.func97, Tryz.ntmps97
  go_wp2_with fail
  refine q.out.mono ?_
  rintro e w1 ⟨pa, pc, rfl, b1⟩
  go_wp2_with fail
  go_ret
  exact ⟨by first | (rw [← HE.out]; rfl) | (rw [← HA.out]; rfl), b0.trans (b1.mono b0.size)⟩
end Go.Proofs.YtpeahjocimhneaaGreatDoor
namespace Go.Proofs.YtpeahjocimhneaaGreatDoor
open Go.RowKit Go.Maps Go.WideMaps Go.Shelf
attribute [local go_sem] bs_toList bs_size
attribute [local go_sem] Oper.semAt_some

/-- A slice of labels of many. -/
def LLAt (w : World) (v : Value) (Ls : List (List Lb)) : Prop :=
  ∃ a c, v = .slice a Ls.length c ∧ (a = none → c = 0) ∧ Ls.length ≤ 100000 ∧ ∀ (i : Nat) L, Ls[i]? = some L → ∃ b o a' c', a = some ⟨b, o, none⟩ ∧ w.cell? ⟨b, o + i, none⟩ = some (.slice a' L.length c') ∧ LabsAt w (.slice a' L.length c') L
theorem LLAt.below {w w' : World} {v : Value} {Ls : List (List Lb)} (h : LLAt w v Ls) (hb : Below w.heap.size w w') : LLAt w' v Ls := by
  obtain ⟨a, c, h1, h2, h3, h4⟩ := h
  refine ⟨a, c, h1, h2, h3, fun i L hL => ?_⟩
  obtain ⟨b, o, a', c', h6, h7, h8⟩ := h4 i L hL
  exact ⟨b, o, a', c', h6, (Below.cell hb (World.block_lt_of_cell? _ _ h7)).trans h7, h8.below hb⟩
def fitI (M : List Mr) (Ls : List (List Lb)) (i : Nat) : Bool := allM M (Ls.getD i [])
def selN (M : List Mr) (Ls : List (List Lb)) : List Nat := (List.range Ls.length).filter (fitI M Ls)
theorem fit_snoc (M : List Mr) (Ls : List (List Lb)) (i : Nat) : (List.range (i + 1)).filter (fitI M Ls) = (List.range i).filter (fitI M Ls) ++ if fitI M Ls i then [i] else [] := by
  rw [List.range_succ, List.filter_append, List.filter_cons, List.filter_nil]
/-- What a round leaves as it lay: all below n₀; below n1 all but some. -/
def KS (n₀ n1 : Nat) (S : Nat → Prop) (W W' : World) : Prop := Below n₀ W W' ∧ ∀ k, k < n1 → ¬ S k → W'.heap[k]? = W.heap[k]?
theorem KS.t {n₀ n1 : Nat} {S : Nat → Prop} {A B C : World} (h : KS n₀ n1 S A B) (k : KS n₀ n1 S B C) : KS n₀ n1 S A C := ⟨h.1.trans k.1, fun i hi hn => (k.2 i hi hn).trans (h.2 i hi hn)⟩
theorem KS.b {n₀ : Nat} {S : Nat → Prop} {w : World} (hn : n₀ ≤ w.heap.size) (W : World) (l : Nat) (o o' : Obj) (hl : w.heap.size ≤ l) (h : W.heap[l]? = some o) (h1 : o.isCells = false) (h2 : o.isWalk = false) : KS n₀ w.heap.size S W (W.putObj l o') :=
  ⟨belowK_b hn W l o o' hl h h1 h2, fun k hk _ => World.putObj_heap_other (by omega)⟩
theorem KS.cell {n₀ n1 : Nat} {S : Nat → Prop} {W W' : World} (h : KS n₀ n1 S W W') {b o : Nat} {v : Value} (hb : b < n1) (hS : ¬ S b) (hc : W.cell? ⟨b, o, none⟩ = some v) : W'.cell? ⟨b, o, none⟩ = some v :=
  (World.cell?_of_block (h.2 b hb hS)).trans hc
set_option maxRecDepth 100000 in
set_option maxHeartbeats 2000000 in
theorem each1_stops (n : Nat) (hn : 1 ≤ n) (Bl Bm n1 : Nat) (S : Nat → Prop) (M : List Mr) (mv lv : Value) (Ls : List (List Lb)) (wo w : World) (hM : MatsAt wo mv M) (hL : LLAt wo lv Ls) (hw : Below wo.heap.size wo w) (hBl : w.cell? ⟨Bl, 0, none⟩ = some lv) (hBm : w.cell? ⟨Bm, 0, none⟩ = some mv) (hn1 : Bm < n1) (hSB : ¬ S Bm) :
    SeqStopsK Fence.wide n Tryz.prog 96 #[.pointer (some ⟨Bl, 0, none⟩), .pointer (some ⟨Bm, 0, none⟩)] (fun x : Nat => #[Value.int .i64 (x : Int)]) (KS wo.heap.size n1 S) (fun ys => ys = selN M Ls) (fun _ => True) Ls.length w := by
  intro l J Jx W hW hJ hJx hY h0
  have HJ := Lib.hid hJ
  have HY := Lib.hid hY
  clear hJ hJx hY
  have QA := Lib.hid (fun L v W' (hb : Below wo.heap.size wo W') (h : LabsAt W' v L) => All_any M mv L v W' (hM.below hb) h)
  have cBl := (hW.cell (World.block_lt_of_cell? _ _ hBl)).trans hBl
  have cBm := (hW.cell (World.block_lt_of_cell? _ _ hBm)).trans hBm
  have hWo := hw.trans (hW.mono hw.size)
  have HS := Lib.hid (fun i => fit_snoc M Ls i)
  have HSE := Lib.hid (show selN M Ls = (List.range Ls.length).filter (fitI M Ls) from rfl)
  generalize selN M Ls = SE at *
  obtain ⟨a, c, rfl, hnil, hl, hx⟩ := hL
  obtain ⟨ma, mc, rfl, _⟩ := hM
  have HX := Lib.hid hx
  have HK := Lib.hid (fun (A B : World) (h : KS wo.heap.size n1 S A B) (hc : A.cell? ⟨Bm, 0, none⟩ = some (.slice ma M.length mc)) => (⟨h.1, h.cell hn1 hSB hc⟩ : Below wo.heap.size A B ∧ B.cell? ⟨Bm, 0, none⟩ = some (.slice ma M.length mc)))
  clear hx hBm hBl hW hw
  refine callsIn_of_wp Tryz.func96 rfl trivial ?_ rfl
  simp only [Tryz.ntmps96, List.size_toArray, List.length_cons, List.length_nil, Nat.reduceAdd, Nat.reduceSub, Array.replicate_succ, Array.replicate_zero, List.push_toArray, List.append_toArray, List.nil_append, List.cons_append]
  gi_wp2
  gi_loopw [8] (fun vi wr => ∃ k : Nat, k ≤ Ls.length ∧ vi = .int .i64 (k : Int) ∧ J ((List.range k).filter (fitI M Ls)) wr ∧ Below wo.heap.size wo wr ∧ wr.cell? ⟨Bm, 0, none⟩ = some (.slice ma M.length mc)) (fun vi _ => Ls.length - (intOf vi).toNat)
  case atStart => exact ⟨0, Nat.zero_le _, rfl, h0, hWo, cBm⟩
  case round =>
    clear h0 hWo cBl cBm
    obtain ⟨k, hk, rfl, hJs, hb, cBm⟩ := hrel
    by_cases hlt : k < Ls.length
    · obtain ⟨b, o, a', c', rfl, d0, hLk⟩ := HX.out k Ls[k] (List.getElem?_eq_getElem hlt)
      have e0 := (hb.cell (World.block_lt_of_cell? _ _ d0)).trans d0
      have q := Lib.hid (QA.out Ls[k] _ wr hb (hLk.below hb))
      have hf : fitI M Ls k = allM M Ls[k] := by
        unfold fitI
        rw [List.getD_eq_getElem?_getD, List.getElem?_eq_getElem hlt]
        rfl
      rw [← hf] at q
      have HSK := Lib.hid (HS.out k)
      clear hf d0 hLk
      generalize fitI M Ls k = bo at *
      generalize Ls[k] = L at *
      have hfl := filter_range_len (fitI M Ls) k
      cases bo with
      | true =>
        have HP := Lib.hid (show (List.range (k + 1)).filter (fitI M Ls) = (List.range k).filter (fitI M Ls) ++ [k] from HSK.out)
        clear HSK
        gi_wp2_with (refine ⟨trivial, ?_⟩; gi_at_call 97; refine (callsIn_wide.2 q.out).mono ?_; rintro e w2 ⟨rfl, hb2⟩; have hJ2 := HJ.out _ _ _ none hJs (below_grown hb2 none) (fun r e => by cases e); obtain ⟨fn, tmps, assign, body, hy, hR⟩ := HY.out _ k w2 hJ2 (by omega); clear hJ2)
        refine hR.mono ?_
        rintro e w3 (⟨rfl, hJ3, hk3⟩ | ⟨rfl, hJx3⟩)
        · clear hR hy
          gi_wp2
          go_roundw
          case rel => exact ⟨k + 1, by omega, by go_num, by rw [HP.out]; exact hJ3, (hb.trans (hb2.mono hb.size)).trans (HK.out _ _ hk3 ((Below.cell hb2 (World.block_lt_of_cell? _ _ cBm)).trans cBm)).1, (HK.out _ _ hk3 ((Below.cell hb2 (World.block_lt_of_cell? _ _ cBm)).trans cBm)).2⟩
          case measure => simp [intOf]; omega
        · clear hR hy
          gi_wp2
          refine bodyPost_ret (results_none rfl _ _ _) rfl ?_
          exact ⟨⟨_, rfl⟩, .inr ⟨_, trivial, hJx3⟩⟩
      | false =>
        have HP := Lib.hid (show (List.range (k + 1)).filter (fitI M Ls) = (List.range k).filter (fitI M Ls) ++ [] from HSK.out)
        clear HSK
        gi_wp2_with (refine ⟨trivial, ?_⟩; gi_at_call 97; refine (callsIn_wide.2 q.out).mono ?_; rintro e w2 ⟨rfl, hb2⟩)
        refine ⟨fun _ h => (by cases h), ?_⟩
        gi_wp2
        have hJ2 := HJ.out _ _ _ none hJs (below_grown hb2 none) (fun r e => by cases e)
        go_roundw
        case rel => exact ⟨k + 1, by omega, by go_num, by rw [HP.out, List.append_nil]; exact hJ2, hb.trans (hb2.mono hb.size), (Below.cell hb2 (World.block_lt_of_cell? _ _ cBm)).trans cBm⟩
        case measure => simp [intOf]; omega
    · obtain rfl : k = Ls.length := by omega
      gi_wp2
      go_end0
      exact ⟨⟨_, rfl⟩, .inl ⟨_, HSE.out.symm, hJs⟩⟩
set_option maxRecDepth 100000 in
theorem each_any (ma : Option Addr) (mn mc : Nat) (la : Option Addr) (ln lc : Nat) (w : World) :
    Calls Tryz.prog 58 #[.slice ma mn mc, .slice la ln lc] w fun e w' => e = .returned (.func (.func 96) #[] #[.pointer (some ⟨w.heap.size + 1, 0, none⟩), .pointer (some ⟨w.heap.size, 0, none⟩)]) ∧ w' = (w.alloc (.cells #[.slice ma mn mc] 38)).alloc (.cells #[.slice la ln lc] 56) := by
  go_enter Tryz.func58, Tryz.ntmps58
  go_wp2
  go_ret
  exact ⟨rfl, rfl⟩
theorem intsN_snoc (l : List Nat) (x : Nat) : (intsN l).map (Value.int .i64) ++ [.int .i64 (x : Int)] = (intsN (l ++ [x])).map (Value.int .i64) := ints_cells_snoc l x
theorem sel_len (M : List Mr) (Ls : List (List Lb)) : (selN M Ls).length ≤ Ls.length := filter_range_len _ _
theorem ownsRow_base {w : World} {b c : Nat} {e : TypeId} {size n : Nat} {v : Value} {xs : List Value} (h : w.ownsRow b e size v n xs) (hc : c ≤ b) : w.ownsRow c e size v n xs := by
  refine ⟨h.1, ?_⟩
  rcases h.2 with h2 | ⟨g, cap, cur, rfl, h3, h4⟩
  · exact .inl h2
  · exact .inr ⟨g, cap, cur, rfl, Nat.le_trans hc h3, h4⟩
/-- Behind an append onto a boxed row all but the box is as it was, below the row. -/
theorem KS.appended {W w1 : World} {n₀ n1 B : Nat} {o : Obj} {v v' : Value} (hb : Below n₀ W (w1.setCell ⟨B, 0, none⟩ v')) (hg : (W.alloc o).grownBy w1 v.ownBlock) (hn : n1 ≤ W.heap.size) (hv : ∀ k, v.ownBlock = some k → n1 ≤ k) : KS n₀ n1 (fun k => k = B) W (w1.setCell ⟨B, 0, none⟩ v') :=
  ⟨hb, fun k hk hS => by
    rw [Below.heap_setCell _ _ _ _ (fun e => hS e), hg.block k (by simp; omega) (fun e => by have := hv k e.symm; omega)]
    exact Below.heap_alloc _ _ _ (by omega)⟩
set_option maxRecDepth 100000 in
set_option maxHeartbeats 2000000 in
theorem Select_any (M : List Mr) (mv : Value) (Ls : List (List Lb)) (lv : Value) (w : World) (hM : MatsAt w mv M) (hL : LLAt w lv Ls) :
    Calls Tryz.prog 28 #[mv, lv] w fun e w' => ∃ v, e = .returned v ∧ IntsAt w' v (intsN (selN M Ls)) ∧ Below w.heap.size w w' := by
  obtain ⟨ma, mc, rfl, _⟩ := id hM
  obtain ⟨la, lc, rfl, _, hll, _⟩ := id hL
  have ⟨i0, hi, hz0, hz1, hz2⟩ := info_parts (show (Tryz.prog.info? 3).map (fun i => (i.zero, i.size, i.bytes)) = some (some (.int .i64 0), 1, 8) by kernel_rfl)
  refine (callsIn_wide (n := 5)).1 ?_
  refine callsIn_of_wp_marks Tryz.func28 rfl trivial ?_ rfl
  simp only [Tryz.ntmps28, List.size_toArray, List.length_cons, List.length_nil, Nat.reduceAdd, Nat.reduceSub, Array.replicate_succ, Array.replicate_zero, List.push_toArray, List.append_toArray, List.nil_append, List.cons_append]
  gi_wp2_with (refine ⟨trivial, ?_⟩; gi_at_call 58; refine (callsIn_wide.2 (each_any _ _ _ _ _ _ _)).mono ?_; rintro e w' ⟨rfl, rfl⟩)
  have bO := Boxed.new w 43 (.slice none 0 0)
  have cm : ((w.alloc (.cells #[.slice none 0 0] 43)).alloc (.cells #[.slice ma M.length mc] 38)).cell? ⟨w.heap.size + 1, 0, none⟩ = some (.slice ma M.length mc) := by
    have := World.cell?_alloc_new (w.alloc (.cells #[.slice none 0 0] 43)) #[.slice ma M.length mc] 38 0
    rw [World.size_alloc] at this
    exact this
  have cl : (((w.alloc (.cells #[.slice none 0 0] 43)).alloc (.cells #[.slice ma M.length mc] 38)).alloc (.cells #[.slice la Ls.length lc] 56)).cell? ⟨w.heap.size + 1 + 1, 0, none⟩ = some (.slice la Ls.length lc) := by
    have := World.cell?_alloc_new ((w.alloc (.cells #[.slice none 0 0] 43)).alloc (.cells #[.slice ma M.length mc] 38)) #[.slice la Ls.length lc] 56 0
    rw [World.size_alloc, World.size_alloc] at this
    exact this
  have hB0 : Below w.heap.size w (((w.alloc (.cells #[.slice none 0 0] 43)).alloc (.cells #[.slice ma M.length mc] 38)).alloc (.cells #[.slice la Ls.length lc] 56)) := (((Below.refl _ w).alloc (Nat.le_refl _) _).alloc (by simp) _).alloc (by simp; omega) _
  have hsz : (((w.alloc (.cells #[.slice none 0 0] 43)).alloc (.cells #[.slice ma M.length mc] 38)).alloc (.cells #[.slice la Ls.length lc] 56)).heap.size = w.heap.size + 1 + 1 + 1 := by simp
  have cm2 := (Below.cell (one_alloc ((w.alloc (.cells #[.slice none 0 0] 43)).alloc (.cells #[.slice ma M.length mc] 38)) (.cells #[.slice la Ls.length lc] 56)) (World.block_lt_of_cell? _ _ cm)).trans cm
  have bO3 := (bO.alloc (.cells #[.slice ma M.length mc] 38)).alloc (.cells #[.slice la Ls.length lc] 56)
  clear bO cm
  obtain ⟨w1, hw1⟩ : ∃ w1, ((w.alloc (.cells #[.slice none 0 0] 43)).alloc (.cells #[.slice ma M.length mc] 38)).alloc (.cells #[.slice la Ls.length lc] 56) = w1 := ⟨_, rfl⟩
  rw [hw1] at bO3 cl hB0 cm2 hsz ⊢
  have hr0 : w1.ownsRow w1.heap.size 3 1 (.slice none 0 0) (intsN []).length ((intsN []).map (Value.int .i64)) := World.ownsRow_nil _ _ _ _
  refine wpIn_rangeFunc_ownG (α := Nat) rfl (by decide) (gf := 96) (lb := #[.pointer (some ⟨w.heap.size + 1 + 1, 0, none⟩), .pointer (some ⟨w.heap.size + 1, 0, none⟩)]) rfl trivial (enters_of Tryz.func96 (by kernel_rfl) rfl)
    (each1_stops (5 - 1) (by decide) (w.heap.size + 1 + 1) (w.heap.size + 1) w1.heap.size (fun k => k = w.heap.size) M _ _ Ls w w1 hM hL hB0 cl cm2 (by omega) (by simp)) KS.t (KS.b hB0.size) (Below.refl _ _) (fun _ => rfl)
    (fun pre W => (∃ v, Boxed W w.heap.size 43 v ∧ W.ownsRow w1.heap.size 3 1 v (intsN pre).length ((intsN pre).map (Value.int .i64)) ∧ True) ∧ Below w.heap.size w W ∧ w1.heap.size ≤ W.heap.size)
    (fun _ _ _ => False)
    (OwnFrom.and (Own.from (holdsRow_own w1.heap.size w.heap.size 43 3 1 (fun pre => (intsN pre).length) (fun pre => (intsN pre).map (Value.int .i64)) (fun pre v => True)) _) (OwnFrom.and (ownFrom_below (Nat.le_refl _) hB0.size) (fun s A B row hs hg hr => Nat.le_trans hs hg.size)))
    (fun _ _ _ _ _ hs _ _ => hs)
    ⟨⟨_, bO3, hr0, trivial⟩, hB0, Nat.le_refl _⟩
    (fun x => { tmps := #[.slice ma M.length mc, .slice la Ls.length lc, undef, undef, .slice none 0 0, .pointer (some ⟨w.heap.size, 0, none⟩), .int .i64 (x : Int), .slice ma M.length mc, .slice la Ls.length lc, .func (.func 96) #[] #[.pointer (some ⟨w.heap.size + 1 + 1, 0, none⟩), .pointer (some ⟨w.heap.size + 1, 0, none⟩)], .int .i64 (x : Int), undef, undef, undef, undef, undef], defers := [] }) ?assign ?body ?done ?stop
  case assign =>
    intro l x W K hK
    gi_wp2
    exact hK
  case body =>
    rintro l pre x W ⟨⟨v, hv, hrow, _⟩, hB, hn1⟩ hlt
    have hc := hv.cell
    have hln : (intsN pre).length ≤ pre.length := Nat.le_of_eq (intsN_len pre)
    have hrw := ownsRow_base hrow (c := w.heap.size) hB0.size
    have hvb : ∀ k, v.ownBlock = some k → w1.heap.size ≤ k := fun k e => (hrow.lt k e).1
    have HVB := Lib.hid hvb
    clear hvb
    gi_wp2_with (gi_at_builtin; refine wpListIn_append_own _ rfl _ _ 43 rfl w1.heap.size 3 i0 (.int .i64 0) 1 8 Tryz.underlying43 hi hz0 hz1 hz2 rfl (by decide) _ _ _ rfl (hrow.alloc _) ⟨W.heap.size, 0, none⟩ 1 1 [.int .i64 (x : Int)] rfl rfl (cell_one_new _ _ _) (by simp [Value.oneCell']) (by unfold maxLen; omega) (by omega) (by simp; omega) ?_; intro v' w2 hown' hgrow _; obtain ⟨g', cap', rfl⟩ := ownsRow_succ hown'; obtain ⟨hv1, hv2, hr2, hk2, hb2⟩ := hv.appended (by decide) hrw hB.size (Nat.le_refl _) (ownsRow_base hown' (c := w.heap.size) hB0.size) hgrow; have hc1 := hv1.cell; have hf1 := hv1.frozen)
    have hks := KS.appended (n1 := w1.heap.size) hb2 hgrow hn1 HVB.out
    have hro := hown'.kept (grownBy_setCell' w2 w.heap.size (.slice (some ⟨g', 0, none⟩) ((intsN pre).length + 1) cap')) (.inr (hv1.not_row (by decide) hown').symm)
    refine ⟨hk2.from _, hks, ⟨⟨_, hv2, ?_, trivial⟩, hB.trans hb2, Nat.le_trans hn1 hb2.size⟩⟩
    have e1 := intsN_snoc pre x
    have e2 : (intsN (pre ++ [x])).length = (intsN pre).length + 1 := by rw [intsN_len, intsN_len, List.length_append]; rfl
    rw [← e1, e2]
    exact hro
  case done =>
    rintro D ys W hD rfl ⟨⟨v, hv, hrow, _⟩, hB, _⟩ hK
    have hc := hv.cell
    have hsl := sel_len M Ls
    gi_wp2
    refine ⟨by simp, .inl ⟨_, _, rfl, run_takeDeferred hK, ?_⟩⟩
    refine ⟨_, results_tmp rfl _ _ _, v, rfl, ?_, hB.trans (belowK_b (w := w) (Nat.le_refl _) W D _ _ (by omega) hK rfl rfl)⟩
    exact ints_of_own (ownsRow_putObj hrow _ hK rfl) rfl (by rw [intsN_len]; omega) (intsN_bd hll fun y hy => List.mem_range.1 (List.mem_filter.1 hy).1)
  case stop =>
    rintro D c pre W _ _ h _
    exact h.elim
end Go.Proofs.YtpeahjocimhneaaGreatDoor
namespace Go.Proofs.YtpeahjocimhneaaGreatDoor
open Go.RowKit Go.Maps Go.WideMaps
attribute [local go_sem] bs_toList bs_size

/-- Slices of labels, one an entry. -/
def LabVals (w : World) (vs : List Value) (E : List En) : Prop := vs.length = E.length ∧ ∀ (j : Nat) x, E[j]? = some x → ∃ a c, vs[j]? = some (.slice a x.labels.length c) ∧ LabsAt w (.slice a x.labels.length c) x.labels
theorem labVals_nil (w : World) : LabVals w [] [] := ⟨rfl, fun j x h => by simp at h⟩
theorem labVals_snoc {w : World} {vs : List Value} {E : List En} (h : LabVals w vs E) {x : En} {a : Option Addr} {c : Nat} (hx : LabsAt w (.slice a x.labels.length c) x.labels) : LabVals w (vs ++ [.slice a x.labels.length c]) (E ++ [x]) := by
  refine ⟨by rw [List.length_append, List.length_append, h.1]; rfl, fun j y hy => ?_⟩
  rcases Nat.lt_trichotomy j E.length with hj | hj | hj
  · rw [List.getElem?_append_left hj] at hy
    obtain ⟨a', c', h1, h2⟩ := h.2 j y hy
    exact ⟨a', c', by rw [List.getElem?_append_left (by rw [h.1]; exact hj)]; exact h1, h2⟩
  · subst hj
    rw [List.getElem?_append_right (Nat.le_refl _)] at hy
    simp at hy
    subst hy
    exact ⟨a, c, by rw [List.getElem?_append_right (by rw [h.1]; exact Nat.le_refl _), h.1]; simp, hx⟩
  · rw [List.getElem?_eq_none (by simp; omega)] at hy
    cases hy
theorem LLAt.of {w w' : World} {B n : Nat} {v : Value} {vs : List Value} {E : List En} (h : w'.ownsRow B 57 1 v n vs) (hn : E.length = n) (hl : LabVals w vs E) (hb : Below w.heap.size w w') (hle : E.length ≤ 100000) : LLAt w' v (E.map (·.labels)) := by
  subst hn
  rcases h.2 with ⟨e, e0⟩ | ⟨g, cap, cur, e, _⟩
  · refine ⟨none, 0, by rw [e, List.length_map, e0], fun _ => rfl, by rw [List.length_map]; exact hle, fun i L hL => ?_⟩
    rw [List.length_eq_zero_iff.1 e0] at hL
    simp at hL
  · refine ⟨some ⟨g, 0, none⟩, cap, by rw [e, List.length_map], (fun e => by cases e), by rw [List.length_map]; exact hle, fun i L hL => ?_⟩
    rw [List.getElem?_map] at hL
    cases hx : E[i]? with
    | none => rw [hx] at hL; cases hL
    | some x =>
      rw [hx] at hL
      obtain rfl := Option.some.inj hL
      obtain ⟨a, c, h1, h2⟩ := hl.2 i x hx
      have h3 := h.cells (g := g) (by rw [e]; rfl) i _ h1
      rw [add_at] at h3
      exact ⟨g, 0, a, c, rfl, by rw [Nat.zero_add]; exact h3, h2.below hb⟩
def askN (M : List Mr) (E : List En) : List Nat := selN M (E.map (·.labels))
set_option maxRecDepth 100000 in
set_option maxHeartbeats 2000000 in
theorem Ask_any (E : List En) (v : Value) (M : List Mr) (mv : Value) (w : World) (h : EntsAt w v E) (hM : MatsAt w mv M) :
    Calls Tryz.prog 22 #[v, mv] w fun e w' => ∃ rv, e = .returned rv ∧ IntsAt w' rv (intsN (askN M E)) ∧ Below w.heap.size w w' := by
  obtain ⟨a, c, rfl, hnil, hl, hlc, hx⟩ := h
  obtain ⟨ma, mc, rfl, _⟩ := id hM
  have HX := Lib.hid hx
  have QS := Lib.hid (fun W lv (hW : Below w.heap.size w W) (hL : LLAt W lv (E.map (·.labels))) => Select_any M _ _ lv W (hM.below hW) hL)
  clear hx hM
  have ⟨i0, hin, hz0, hz1, hz2⟩ := info_parts (show (Tryz.prog.info? 57).map (fun i => (i.zero, i.size, i.bytes)) = some (some (.slice none 0 0), 1, 24) by kernel_rfl)
  have r0 : w.ownsRow w.heap.size 57 1 (.slice none 0 0) 0 [] := World.ownsRow_nil _ _ _ _
  go_enter Tryz.func22, Tryz.ntmps22
  go_wp2_with fail
  go_loopw [5, 10] (fun vo vi wr => ∃ (i : Nat) (vs : List Value), i ≤ E.length ∧ vi = .int .i64 (i : Int) ∧ wr.ownsRow w.heap.size 57 1 vo i vs ∧ Hid (LabVals w vs (E.take i)) ∧ Below w.heap.size w wr) (fun _ vi _ => E.length - (intOf vi).toNat)
  case atStart => exact ⟨0, [], Nat.zero_le _, rfl, r0, Lib.hid (labVals_nil w), Below.refl _ _⟩
  clear r0
  obtain ⟨i, vs, hi', rfl, hrow, HV, hb⟩ := hrel
  obtain ⟨sa, sc, rfl⟩ := row_form hrow
  rcases (show i < E.length ∨ i = E.length by omega) with hil | rfl
  · obtain ⟨hok, b, o, rfl, a', c', d0, hL, d1, d2, d3⟩ := HX.out i E[i] (List.getElem?_eq_getElem hil)
    have e0 := (hb.cell (World.block_lt_of_cell? _ _ d0)).trans d0
    have e1 := (hb.cell (World.block_lt_of_cell? _ _ d1)).trans d1
    have e2 := (hb.cell (World.block_lt_of_cell? _ _ d2)).trans d2
    have e3 := (hb.cell (World.block_lt_of_cell? _ _ d3)).trans d3
    have HV2 := Lib.hid (labVals_snoc HV.out hL)
    rw [← List.take_succ_eq_append_getElem hil] at HV2
    have hs := hb.size
    clear d0 d1 d2 d3 hL hok HV
    generalize E[i] = x at *
    go_wp2_with (at_builtin; refine wpList_append_own_at _ rfl _ _ 56 rfl w.heap.size 57 i0 (.slice none 0 0) 1 24 Tryz.underlying56 hin hz0 hz1 hz2 rfl (by decide) _ _ _ rfl (World.ownsRow.alloc (World.ownsRow.alloc hrow _) _) ⟨_, 0, none⟩ 1 1 [.slice a' x.labels.length c'] rfl rfl (cells_new _ _ _ _ (World.size_alloc _ _)) (by simp [Value.oneCell']) (by unfold maxLen; omega) (by omega) (by simp; omega) ?_; intro v' w5 hown' hgrow hnil2 hloc; obtain ⟨sa', sc', rfl⟩ := row_form hown')
    go_roundw
    case rel =>
      have hkq : Kept wr w5 (fun k => w.heap.size ≤ k) := ((Kept.alloc wr _ _).trans (Kept.alloc _ _ _)).trans (Kept.of_grown hgrow fun k e => (hrow.lt k e).1)
      exact ⟨i + 1, _, by omega, by go_num, hown', HV2, hb.trans (hkq.below hs fun k e => e)⟩
    case measure => simp [intOf]; omega
  · have hV := HV.out
    rw [List.take_length] at hV
    have hLL := LLAt.of hrow rfl hV hb hl
    have q := Lib.hid (QS.out wr _ hb hLL)
    clear HV hV hLL QS
    go_wp2_with fail
    refine q.out.mono ?_
    rintro e w2 ⟨rv, rfl, hI, hb2⟩
    obtain ⟨ra, rc, rfl, _⟩ := id hI
    go_wp2_with fail
    go_ret
    exact ⟨_, rfl, hI, hb.trans (hb2.mono hb.size)⟩
end Go.Proofs.YtpeahjocimhneaaGreatDoor
namespace Go.Proofs.YtpeahjocimhneaaGreatDoor
open Go Go.ChangeMaps Go.MapKept Go.ChangeShapes Go.RowKit Go.WideMaps
open Go.WideElems (Fit rd rg pl rd_val elemAt findIdx_arr findIdx_born modify_last set_self)
open Go.Maps (Keyed)

section
variable {H : Type} {P : Program} {w : World} {t k e : TypeId} {R : Value → Option (DataW H × List MemPlace)} {b : Nat} {es : Array MapEntry} {clock : Nat}
theorem entry_uniq (F : Fit P k R es clock) {i j : Nat} {x y : MapEntry} (h1 : es.toList[i]? = some x) (h2 : es.toList[j]? = some y) (hk : x.key = y.key) : i = j ∧ x = y := by
  have hn : es.toList.Pairwise (fun x y => x.key ≠ y.key) := ((stamped_iff es clock).1 F.stamped).2.2
  obtain ⟨hi, e1⟩ := List.getElem?_eq_some_iff.1 h1
  obtain ⟨hj, e2⟩ := List.getElem?_eq_some_iff.1 h2
  rcases Nat.lt_trichotomy i j with h | h | h
  · exact absurd (by rw [e1, e2]; exact hk) (List.pairwise_iff_getElem.1 hn i j hi hj h)
  · subst h
    exact ⟨rfl, e1.symm.trans e2⟩
  · exact absurd (by rw [e1, e2]; exact hk.symm) (List.pairwise_iff_getElem.1 hn j i hj hi h)
theorem update_at (K : KeyLaw P k) (ht : P.underlying t = some (.map k e)) (F : Fit P k R es clock) {key : Value} {kl : Lit} (hkey : keyOf P k key = some kl) {val : Value} {es' : Array MapEntry} {clock' : Nat} (hb : w.heap[b]? = some (.map es clock))
    (h : (Instr.mapUpdate t (.map (some b)) key val).run P w = .ok () (setBlock w b (.map es' clock'))) {w' : World} (hb' : w'.heap[b]? = some (.map es clock)) : (Instr.mapUpdate t (.map (some b)) key val).run P w' = .ok () (setBlock w' b (.map es' clock')) := by
  have hlt : b < w.heap.size := (Array.getElem?_eq_some_iff.1 hb).1
  have hlt' : b < w'.heap.size := (Array.getElem?_eq_some_iff.1 hb').1
  have inj : ∀ {x y : Array MapEntry} {c d : Nat}, setBlock w b (.map x c) = setBlock w b (.map y d) → x = y ∧ c = d := fun {x y c d} h => by
    have h1 : (setBlock w b (.map x c)).heap[b]? = (setBlock w b (.map y d)).heap[b]? := by rw [h]
    rw [heap_setBlock_same hb, heap_setBlock_same hb] at h1
    have h2 := Option.some.inj h1
    exact ⟨(Obj.map.inj h2).1, (Obj.map.inj h2).2⟩
  rcases K.find w hkey es.toList F.keys with ⟨h1, h2⟩ | ⟨j, e0, h1, h2, h3⟩
  · rcases K.find w' hkey es.toList F.keys with ⟨g1, _⟩ | ⟨j', e', _, g2, g3⟩
    · have r1 : (Instr.mapUpdate t (.map (some b)) key val).run P w = .ok () (setBlock w b (.map (es.push ⟨key, val, clock⟩) (clock + 1))) := by
        simp [Instr.mapUpdate, run_underlying ht, MapKept.run_getObj_map hb, K.check w false hkey, h1, MapKept.run_setObj_map _ hb, Result.andThen, setBlock]
      have r2 : (Instr.mapUpdate t (.map (some b)) key val).run P w' = .ok () (setBlock w' b (.map (es.push ⟨key, val, clock⟩) (clock + 1))) := by
        simp [Instr.mapUpdate, run_underlying ht, MapKept.run_getObj_map hb', K.check w' false hkey, g1, MapKept.run_setObj_map _ hb', Result.andThen, setBlock]
      rw [r1] at h
      obtain ⟨rfl, rfl⟩ := inj (by simpa using h)
      exact r2
    · exact absurd g3 (h2 e' (List.mem_of_getElem? g2))
  · rcases K.find w' hkey es.toList F.keys with ⟨_, g2⟩ | ⟨j', e', g1, g2, g3⟩
    · exact absurd h3 (g2 e0 (List.mem_of_getElem? h2))
    · obtain ⟨rfl, rfl⟩ := entry_uniq F h2 g2 (h3.trans g3.symm)
      have hj : es[j]? = some e0 := by simpa using h2
      have r1 : (Instr.mapUpdate t (.map (some b)) key val).run P w = .ok () (setBlock w b (.map (es.modify j (fun e' => { e' with key := key, val := val })) clock)) := by
        simp [Instr.mapUpdate, run_underlying ht, MapKept.run_getObj_map hb, K.check w false hkey, h1, hj, h3, K.stays w hkey, MapKept.run_setObj_map _ hb, Result.andThen, setBlock]
      have r2 : (Instr.mapUpdate t (.map (some b)) key val).run P w' = .ok () (setBlock w' b (.map (es.modify j (fun e' => { e' with key := key, val := val })) clock)) := by
        simp [Instr.mapUpdate, run_underlying ht, MapKept.run_getObj_map hb', K.check w' false hkey, g1, hj, h3, K.stays w' hkey, MapKept.run_setObj_map _ hb', Result.andThen, setBlock]
      rw [r1] at h
      obtain ⟨rfl, rfl⟩ := inj (by simpa using h)
      exact r2
theorem setBlock_twice (w : World) (b : Nat) (o p : Obj) : setBlock (setBlock w b o) b p = setBlock w b p := by simp [setBlock]
theorem grown_setBlock {w : World} {b : Nat} {es : Array MapEntry} {clock : Nat} {o' : Obj} (h : w.heap[b]? = some (.map es clock)) : w.grownBy (setBlock w b o') (some b) := ⟨rfl, rfl, rfl, by simp [setBlock], fun i _ hi => heap_setBlock_other h _ (fun e1 => hi (by rw [e1]))⟩
variable {E : TypeId} {base n : Nat} {q : IntKind} {D : DataW H}
theorem groups_entry {key : Value} {kl : Lit} (h : w.ownsGroups (H := H) P k base e q b n D) (K : KeyLaw P k) (ht : P.underlying t = some (.map k E)) (hz : ∀ u : World, (zeroValue E).run P u = .ok (.slice none 0 0) u) (hn : n < maxLen) (hkey : keyOf P k key = some kl) :
    ∃ v zs st w1, (Instr.mapEntry t (.map (some b)) key).run P w = .ok (.tuple #[v, goInt (st : Nat)]) w1 ∧ w.grownBy w1 (some b) ∧ v.ownBlock ≠ some b ∧ D.atKey kl .nil = rowDatum q v zs ∧ w.ownsInts base e q v zs ∧ zs.length ≤ n ∧
      ∀ (w2 : World) (v' : Value) (zs' : List Int), w1.grownBy w2 v.ownBlock → w2.ownsInts base e q v' zs' → zs'.length ≤ n + 1 → (v'.ownBlock = v.ownBlock ∨ ∃ g, v'.ownBlock = some g ∧ w.heap.size ≤ g) →
        ∃ w3, (Instr.entryStore t (.map (some b)) (goInt st) v').run P w2 = .ok () w3 ∧ w3.ownsGroups P k base e q b (n + 1) (D.put kl (rowDatum q v' zs')) ∧ w2.grownBy w3 (some b) := by
  obtain ⟨v, zs, hrun, hat, ho, hl, hback⟩ := h.at (Keyed.of_law K) ht (hz w) hn hkey
  obtain ⟨es, clock, hb, F, hs, hD, hbb, hlen, hap⟩ := h
  obtain ⟨v0, st, es1, clock1, hE, hcase, hS⟩ := WideElems.entry_then_store K ht hz hb F hkey
  have hvb : v.ownBlock ≠ some b := fun e1 => by
    have := (ho.1.lt b e1).1
    omega
  have hlt : b < w.heap.size := (Array.getElem?_eq_some_iff.1 hb).1
  have hv0 : v0 = v := by
    rcases Maps.fit_look false (Keyed.of_law K) ht (hz w) hb F hkey with ⟨hrun', hne, _⟩ | ⟨e0, y, hm0, h3, hrun', _, _, _⟩
    · rw [hrun] at hrun'
      have hvz : v = .slice none 0 0 := by simpa using hrun'
      rcases hcase with ⟨e1, hm1, hk1, rfl⟩ | ⟨_, rfl⟩
      · exact absurd hk1 (hne e1 hm1)
      · exact hvz.symm
    · rw [hrun] at hrun'
      have hvz : v = e0.val := by simpa using hrun'
      rcases hcase with ⟨e1, hm1, hk1, rfl⟩ | ⟨hne, _⟩
      · obtain ⟨i, hi⟩ := List.getElem?_of_mem hm0
        obtain ⟨j, hj⟩ := List.getElem?_of_mem hm1
        rw [hvz, (entry_uniq F hi hj (h3.trans hk1.symm)).2]
      · exact absurd h3 (hne e0 hm0)
  subst hv0
  refine ⟨v0, zs, st, _, hE, grown_setBlock hb, hvb, hat, ho, hl, fun w2 v' zs' hg hown' hl' hloc => ?_⟩
  have hb2 : w2.heap[b]? = some (.map es1 clock1) := by
    rw [hg.block b (by simp [setBlock]; exact hlt) (fun e1 => hvb e1.symm), heap_setBlock_same hb]
  obtain ⟨es', clock', hst, hup⟩ := hS w2 v' hb2
  have hg' : w.grownBy (setBlock w2 b (.map es clock)) v0.ownBlock := ⟨hg.os, hg.tape, hg.output, by simpa [setBlock] using hg.size, fun i hi hne => by
    by_cases hib : i = b
    · subst hib
      rw [heap_setBlock_same hb2, hb]
    · rw [heap_setBlock_other hb2 _ hib, hg.block i (by simpa [setBlock] using hi) hne, heap_setBlock_other hb _ hib]⟩
  have hvb' : v'.ownBlock ≠ some b := fun e1 => by
    have := (hown'.1.lt b e1).1
    omega
  obtain ⟨w3, hrun3, r1, r2⟩ := hback (setBlock w2 b (.map es clock)) v' zs' hg' (hown'.kept (grown_setBlock hb2) (.inr hvb')) hl' hloc
  have hbW : (setBlock w2 b (.map es clock)).heap[b]? = some (.map es clock) := heap_setBlock_same hb2 _
  rw [update_at K ht F hkey hb hup hbW, setBlock_twice] at hrun3
  obtain rfl : setBlock w2 b (.map es' clock') = w3 := by simpa using hrun3
  exact ⟨_, hst, r1, grown_setBlock hb2⟩
end
end Go.Proofs.YtpeahjocimhneaaGreatDoor
namespace Go.Proofs.YtpeahjocimhneaaGreatDoor
open Go.RowKit Go.Maps Go.WideMaps Go.Sort Go.Shelf
attribute [local go_sem] bs_toList bs_size

set_option maxRecDepth 100000 in
theorem Or_any (p cap : Nat) (u v : Int) (w : World) (c0 : w.cell? ⟨p, 0, none⟩ = some (.int .i64 u)) (c1 : w.cell? ⟨p, 1, none⟩ = some (.int .i64 v)) :
    Calls Tryz.prog 103 #[.slice (some ⟨p, 0, none⟩) 2 cap] w fun e w' => e = .returned (.int .i64 (if u ≠ 0 then u else v)) ∧ w = w' := by
  by_cases hu : u = 0
  · subst hu
    rw [if_neg (by simp)]
    by_cases hv : v = 0
    · subst hv
      go_enter Tryz.func103, Tryz.ntmps103
      go_wp2_with fail
      refine wp_loop_rounds 3 ?_
      rw [rounds_succ]
      go_wp2_with fail
      rw [rounds_succ]
      go_wp2_with fail
      rw [rounds_succ]
      go_wp2_with fail
      go_ret
      exact ⟨rfl, rfl⟩
    · have f1 : (v != 0) = true := by simpa using hv
      have f2 : (v == 0) = false := by simpa using hv
      clear hv
      go_enter Tryz.func103, Tryz.ntmps103
      go_wp2_with fail
      refine wp_loop_rounds 3 ?_
      rw [rounds_succ]
      go_wp2_with fail
      rw [rounds_succ]
      go_wp2_with fail
      go_ret
      exact ⟨rfl, rfl⟩
  · rw [if_pos hu]
    have f1 : (u != 0) = true := by simpa using hu
    have f2 : (u == 0) = false := by simpa using hu
    clear hu
    go_enter Tryz.func103, Tryz.ntmps103
    go_wp2_with fail
    refine wp_loop_rounds 3 ?_
    rw [rounds_succ]
    go_wp2_with fail
    go_ret
    exact ⟨rfl, rfl⟩
/-- Blocks are laid, and draws drawn, and nothing else. -/
def GrewR (a b : World) : Prop := Below a.heap.size a b ∧ a.drawn ≤ b.drawn
instance : Turns GrewR := ⟨fun w => ⟨Below.refl _ w, Nat.le_refl _⟩, fun h k => ⟨h.1.trans (k.1.mono h.1.size), Nat.le_trans h.2 k.2⟩, fun w => ⟨(Below.refl _ w).drew, Nat.le_succ _⟩⟩
theorem grew_cell {w : World} {p : Addr} {v : Value} (h : w.cell? p = some v) : ∀ x : RW GrewR w, x.w.cell? p = some v := fun x => (Below.cell (show Below w.heap.size w x.w from x.is.1) (World.block_lt_of_cell? _ _ h)).trans h
theorem fullRow_keeps' (k : Nat) (olds : List Value) : (FullRow k olds).keeps GrewR := fun _ _ _ ⟨p, h1, h2⟩ hR => ⟨p, h1, fun j u hu => (Below.cell hR.1 (World.block_lt_of_cell? _ _ (h2 j u hu))).trans (h2 j u hu)⟩
theorem grew_form {a b : World} (h : GrewR a b) : ∃ q os, b = Go.Sort.grow (a.drewN q) os := by
  obtain ⟨⟨h1, h2, h3, h4, h5⟩, h6⟩ := h
  refine ⟨b.drawn - a.drawn, b.heap.extract a.heap.size b.heap.size, ?_⟩
  obtain ⟨bh, bt, bd, bo, bu⟩ := b
  obtain ⟨ah, at', ad, ao, au⟩ := a
  simp only at h1 h2 h3 h4 h5 h6
  subst h1
  subst h2
  subst h3
  simp only [Go.Sort.grow, World.drewN]
  congr 1
  · apply Array.ext_getElem?
    intro i
    rw [Array.getElem?_append]
    split
    · rename_i hi
      exact h5 i hi
    · rename_i hi
      rw [Array.getElem?_extract]
      split
      · congr 1
        omega
      · rw [Array.getElem?_eq_none (by omega)]
  · omega
set_option maxRecDepth 100000 in
set_option maxHeartbeats 1000000 in
theorem cmp1_any (x y : Lb) (w : World) :
    Calls Tryz.prog 102 #[.agg #[.string (bs x.1), .string (bs x.2)], .agg #[.string (bs y.1), .string (bs y.2)]] w fun e w' => e = .returned (.int .i64 (cmpLb x y)) ∧ GrewR w w' := by
  have k1 := (Blk.new w 37 #[.string (bs x.1), .string (bs x.2)]).alloc (.cells #[.string (bs y.1), .string (bs y.2)] 37)
  have k2 := Blk.new (w.alloc (.cells #[.string (bs x.1), .string (bs x.2)] 37)) 37 #[.string (bs y.1), .string (bs y.2)]
  rw [World.size_alloc] at k2
  have b0 : GrewR w ((w.alloc (.cells #[.string (bs x.1), .string (bs x.2)] 37)).alloc (.cells #[.string (bs y.1), .string (bs y.2)] 37)) := ⟨((Below.refl _ w).alloc (Nat.le_refl _) _).alloc (by simp) _, Nat.le_refl _⟩
  have c0 := (Blk.cell k1 0).trans (show _ = some (Value.string (bs x.1)) from rfl)
  have c1 := (Blk.cell k1 1).trans (show _ = some (Value.string (bs x.2)) from rfl)
  have d0 := (Blk.cell k2 0).trans (show _ = some (Value.string (bs y.1)) from rfl)
  have d1 := (Blk.cell k2 1).trans (show _ = some (Value.string (bs y.2)) from rfl)
  have x0 := grew_cell c0
  have x1 := grew_cell c1
  have y0 := grew_cell d0
  have y1 := grew_cell d1
  have q1 := Lib.hid (fun W => (Tryz.strings_Compare (bs x.1) (bs y.1) W))
  have q2 := Lib.hid (fun W => (Tryz.strings_Compare (bs x.2) (bs y.2) W))
  have HC := Lib.hid (show cmpLb x y = if Lib.compareBytes x.1 y.1 ≠ 0 then Lib.compareBytes x.1 y.1 else Lib.compareBytes x.2 y.2 from rfl)
  rw [bs_data, bs_data] at q1 q2
  generalize Lib.compareBytes x.1 y.1 = u at *
  generalize Lib.compareBytes x.2 y.2 = v at *
  generalize cmpLb x y = R at *
  clear k1 k2 c0 c1 d0 d1
  go_enter Tryz.func102, Tryz.ntmps102
  go_wp2_with fail
  refine wp_region_at (R := GrewR) (by kernel_rfl) (by kernel_rfl) ?_
  (refine lex_one (by kernel_rfl) (by kernel_rfl) (by kernel_rfl) (fun K hK => ?_); go_big_quiet_step (fail); refine wpQuiet_nil (hK _ ?_); clear hK K); (refine lex_one (by kernel_rfl) (by kernel_rfl) (by kernel_rfl) (fun K hK => ?_); go_big_quiet_step (fail); refine wpQuiet_nil (hK _ ?_); clear hK K); (refine lex_one (by kernel_rfl) (by kernel_rfl) (by kernel_rfl) (fun K hK => ?_); go_big_quiet_step (fail); refine wpQuiet_nil (hK _ ?_); clear hK K); (refine lex_one (by kernel_rfl) (by kernel_rfl) (by kernel_rfl) (fun K hK => ?_); go_big_quiet_step (fail); refine wpQuiet_nil (hK _ ?_); clear hK K)
  (refine lex_call (f := 104) (args := #[.string (bs x.1), .string (bs y.1)]) (v := .int .i64 u) (by kernel_rfl) (fun _ _ h => by cases h) (by kernel_rfl) (by kernel_rfl) (fun _ => by go_simp) (fun W hW => (q1.out W).mono fun e w' ⟨h1, h2⟩ => ⟨h1, h2 ▸ Turns.refl _⟩) (lex_put (type := 0) (pos := "") (fun K hK => ?_)); go_big_quiet_step (fail); refine wpQuiet_nil (hK _ ?_); clear hK K)
  (refine lex_one (by kernel_rfl) (by kernel_rfl) (by kernel_rfl) (fun K hK => ?_); go_big_quiet_step (fail); refine wpQuiet_nil (hK _ ?_); clear hK K); (refine lex_one (by kernel_rfl) (by kernel_rfl) (by kernel_rfl) (fun K hK => ?_); go_big_quiet_step (fail); refine wpQuiet_nil (hK _ ?_); clear hK K); (refine lex_one (by kernel_rfl) (by kernel_rfl) (by kernel_rfl) (fun K hK => ?_); go_big_quiet_step (fail); refine wpQuiet_nil (hK _ ?_); clear hK K); (refine lex_one (by kernel_rfl) (by kernel_rfl) (by kernel_rfl) (fun K hK => ?_); go_big_quiet_step (fail); refine wpQuiet_nil (hK _ ?_); clear hK K)
  (refine lex_call (f := 104) (args := #[.string (bs x.2), .string (bs y.2)]) (v := .int .i64 v) (by kernel_rfl) (fun _ _ h => by cases h) (by kernel_rfl) (by kernel_rfl) (fun _ => by go_simp) (fun W hW => (q2.out W).mono fun e w' ⟨h1, h2⟩ => ⟨h1, h2 ▸ Turns.refl _⟩) (lex_put (type := 0) (pos := "") (fun K hK => ?_)); go_big_quiet_step (fail); refine wpQuiet_nil (hK _ ?_); clear hK K)
  refine lex_make (d := 15) (fullRow_keeps' 2 [.int .i64 u, .int .i64 v]) (by kernel_rfl) (fun _ _ h => by cases h) (by kernel_rfl) rfl (fun W hW => ⟨_, _, (show _ = Result.ok (Next.value (.slice (some ⟨W.heap.size, 0, none⟩) 2 2)) (W.alloc (.cells [Value.int .i64 u, Value.int .i64 v].toArray 3)) by go_simp), ⟨(Below.refl _ W).alloc (Nat.le_refl _) _, Nat.le_refl _⟩, W.heap.size, rfl, fun j z hz => by rw [add_at, World.cell?_alloc_new]; simpa using hz⟩) ?_
  refine lex_callx 15 (r := FullRow 2 [.int .i64 u, .int .i64 v]) (v := .int .i64 R) (by kernel_rfl) (fun _ _ h => by cases h) rfl (by simp) (by kernel_rfl) (by kernel_rfl) (by kernel_rfl) (by kernel_rfl) (fun x W hW hx => by
    obtain ⟨p, rfl, hc⟩ := hx
    have e0 := hc 0 _ rfl
    have e1 := hc 1 _ rfl
    rw [add_at] at e0 e1
    refine ⟨103, #[.slice (some ⟨p, 0, none⟩) 2 2], by go_simp, ?_⟩
    refine (Or_any p 2 u v W e0 e1).mono ?_
    rintro e w' ⟨rfl, rfl⟩
    exact ⟨by rw [HC.out], Turns.refl _⟩) (lex_put (type := 0) (pos := "") (fun K hK => ?_)); go_big_quiet_step (fail); refine wpQuiet_nil (hK _ ?_); clear hK K
  (refine lex_one (by kernel_rfl) (by kernel_rfl) (by kernel_rfl) (fun K hK => ?_); go_big_quiet_step (fail); refine wpQuiet_nil (hK _ ?_); clear hK K)
  refine lex_nil (by kernel_rfl) (by kernel_rfl) (by kernel_rfl) ?_
  intro w2 hb2
  simp only [hideAll]
  intro z hz
  clear hz
  simp only [Act.put, List.setIfInBounds_toArray, List.set_cons_succ, List.set_cons_zero]
  go_wp2_with fail
  go_ret
  exact ⟨rfl, Turns.trans b0 hb2⟩
end Go.Proofs.YtpeahjocimhneaaGreatDoor
namespace Go.Proofs.YtpeahjocimhneaaGreatDoor
open Go.RowKit Go.Maps Go.WideMaps Go.Sort Go.Shelf
attribute [local go_sem] bs_toList bs_size

theorem cb_refl : ∀ a : List UInt8, Lib.compareBytes a a = 0
  | [] => rfl
  | a :: l => by
    unfold Lib.compareBytes
    rw [if_neg (by simp), if_neg (by simp), cb_refl l]
theorem cb_neg : ∀ a b : List UInt8, Lib.compareBytes a b = -Lib.compareBytes b a
  | [], [] => rfl
  | [], _ :: _ => rfl
  | _ :: _, [] => rfl
  | a :: l, b :: m => by
    unfold Lib.compareBytes
    by_cases h1 : a < b
    · have h2 : ¬ b < a := by have : a.toNat < b.toNat := h1; intro h; have : b.toNat < a.toNat := h; omega
      rw [if_pos h1, if_neg h2, if_pos h1]
    · by_cases h2 : b < a
      · rw [if_neg h1, if_pos h2, if_pos h2]
        rfl
      · rw [if_neg h1, if_neg h2, if_neg h2, if_neg h1, cb_neg l m]
theorem cb_eq : ∀ a b : List UInt8, Lib.compareBytes a b = 0 → a = b
  | [], [], _ => rfl
  | [], _ :: _, h => by cases h
  | _ :: _, [], h => by cases h
  | a :: l, b :: m, h => by
    unfold Lib.compareBytes at h
    split at h
    · cases h
    · rename_i h1
      split at h
      · cases h
      · rename_i h2
        have e : a = b := by
          apply UInt8.toNat_inj.1
          have a1 : ¬ a.toNat < b.toNat := h1
          have a2 : ¬ b.toNat < a.toNat := h2
          omega
        rw [e, cb_eq l m h]
theorem cb_trans : ∀ a b c : List UInt8, Lib.compareBytes a b < 0 → Lib.compareBytes b c < 0 → Lib.compareBytes a c < 0
  | _, [], [], _, h => by simp [Lib.compareBytes] at h
  | [], _, _ :: _, _, _ => by simp [Lib.compareBytes]
  | _ :: _, [], _, h, _ => by simp [Lib.compareBytes] at h
  | [], _ :: _, [], _, h => by simp [Lib.compareBytes] at h
  | _ :: _, _ :: _, [], _, h => by simp [Lib.compareBytes] at h
  | a :: l, b :: m, c :: n, h1, h2 => by
    unfold Lib.compareBytes at h1 h2 ⊢
    by_cases ab : a < b
    · have ab' : a.toNat < b.toNat := ab
      by_cases bc : b < c
      · have bc' : b.toNat < c.toNat := bc
        rw [if_pos (show a < c from (by omega : a.toNat < c.toNat))]
        decide
      · rw [if_neg bc] at h2
        by_cases cb : c < b
        · rw [if_pos cb] at h2
          simp at h2
        · have bc' : ¬ b.toNat < c.toNat := bc
          have cb' : ¬ c.toNat < b.toNat := cb
          rw [if_pos (show a < c from (by omega : a.toNat < c.toNat))]
          decide
    · rw [if_neg ab] at h1
      by_cases ba : b < a
      · rw [if_pos ba] at h1
        simp at h1
      · rw [if_neg ba] at h1
        have ab' : ¬ a.toNat < b.toNat := ab
        have ba' : ¬ b.toNat < a.toNat := ba
        have e : a = b := UInt8.toNat_inj.1 (by omega)
        subst e
        by_cases bc : a < c
        · rw [if_pos bc]
          decide
        · rw [if_neg bc] at h2 ⊢
          by_cases cb : c < a
          · rw [if_pos cb] at h2
            simp at h2
          · rw [if_neg cb] at h2 ⊢
            exact cb_trans l m n h1 h2
theorem cl_refl (x : Lb) : cmpLb x x = 0 := by unfold cmpLb; rw [cb_refl, cb_refl]; rfl
theorem cl_neg (x y : Lb) : cmpLb x y = -cmpLb y x := by
  unfold cmpLb
  have h1 := cb_neg x.1 y.1
  have h2 := cb_neg x.2 y.2
  by_cases h : Lib.compareBytes x.1 y.1 = 0
  · rw [if_neg (by simp [h]), if_neg (by simp; omega)]
    exact h2
  · rw [if_pos h, if_pos (by omega)]
    exact h1
theorem cl_eq (x y : Lb) (h : cmpLb x y = 0) : x = y := by
  unfold cmpLb at h
  split at h
  · contradiction
  · rename_i h1
    exact Prod.ext (cb_eq _ _ (by simpa using h1)) (cb_eq _ _ h)
theorem cl_trans (x y z : Lb) (h1 : cmpLb x y < 0) (h2 : cmpLb y z < 0) : cmpLb x z < 0 := by
  unfold cmpLb at h1 h2 ⊢
  by_cases a : Lib.compareBytes x.1 y.1 = 0
  · rw [if_neg (by simp [a])] at h1
    rw [cb_eq _ _ a]
    by_cases b : Lib.compareBytes y.1 z.1 = 0
    · rw [if_neg (by simp [b])] at h2 ⊢
      exact cb_trans _ _ _ h1 h2
    · rw [if_pos b] at h2 ⊢
      exact h2
  · rw [if_pos a] at h1
    by_cases b : Lib.compareBytes y.1 z.1 = 0
    · rw [← cb_eq _ _ b, if_pos a]
      exact h1
    · rw [if_pos b] at h2
      have := cb_trans _ _ _ h1 h2
      rw [if_pos (by omega)]
      exact this
theorem cl_swo : SWO (ltOf cmpLb) where
  irrefl x := by unfold ltOf; rw [cl_refl]; rfl
  trans x y z h1 h2 := by
    unfold ltOf at h1 h2 ⊢
    simp only [decide_eq_true_eq] at h1 h2 ⊢
    exact cl_trans x y z h1 h2
  ntrans x y z h1 h2 := by
    unfold ltOf at h1 h2 ⊢
    simp only [decide_eq_false_iff_not] at h1 h2 ⊢
    intro h
    by_cases a : cmpLb x y = 0
    · rw [cl_eq _ _ a] at h
      exact h2 h
    · have h3 : cmpLb y x < 0 := by have := cl_neg x y; omega
      exact h2 (cl_trans y x z h3 h)
theorem cl_total (x y : Lb) (h1 : (ltOf cmpLb) x y = false) (h2 : (ltOf cmpLb) y x = false) : x = y := by
  unfold ltOf at h1 h2
  simp only [decide_eq_false_iff_not] at h1 h2
  have := cl_neg x y
  exact cl_eq x y (by omega)
theorem flat_get : ∀ (L : List Lb) (t : Nat), t < L.length * 2 → (L.flatMap encLb)[t]? = some ((encLb (L.getD (t / 2) default))[t % 2]!)
  | [], t, h => by simp at h
  | x :: L, 0, _ => rfl
  | x :: L, 1, _ => rfl
  | x :: L, t + 2, h => by
    have h1 := flat_get L t (by simp at h; omega)
    rw [List.flatMap_cons, show encLb x = [.string (bs x.1), .string (bs x.2)] from rfl]
    rw [show (t + 2) / 2 = t / 2 + 1 by omega, show (t + 2) % 2 = t % 2 by omega, List.getD_cons_succ, ← h1]
    rfl
theorem flat_len (L : List Lb) : (L.flatMap encLb).length = L.length * 2 := by
  induction L with
  | nil => rfl
  | cons x L ih =>
    rw [List.flatMap_cons, List.length_append, ih]
    simp [encLb]
    omega
theorem flat_eq (L : List Lb) : flatK encLb 2 L.toArray = (L.flatMap encLb).toArray := by
  apply Array.ext
  · rw [size_flatK]
    simp only [List.size_toArray]
    rw [flat_len]
  · intro t h1 h2
    have h3 : t < L.length * 2 := by simpa using h1
    have h4 := flat_get L t h3
    have h5 := get_flatK encLb 2 L.toArray t h3
    rw [getElem!_pos _ t h1] at h5
    rw [h5]
    have h6 : (L.flatMap encLb).toArray[t]? = some ((encLb (L.getD (t / 2) default))[t % 2]!) := by simpa using h4
    rw [Array.getElem?_eq_getElem h2] at h6
    rw [Option.some.inj h6]
    have h7 : t / 2 < L.length := by omega
    rw [getElem!_pos L.toArray (t / 2) (by simpa using h7), List.getD_eq_getElem?_getD, List.getElem?_eq_getElem h7]
    rfl
theorem ownsRow_putK {w : World} {base : Nat} {e : TypeId} {g n cap q : Nat} {xs : List Value} (h : w.ownsRow base e 2 (.slice (some ⟨g, 0, none⟩) n cap) n xs) (F : List Value) (hF : F.length = n * 2) :
    (putRow id (Go.Sort.ahead w q) g 0 F.toArray).ownsRow base e 2 (.slice (some ⟨g, 0, none⟩) n cap) n F := by
  rcases h.2 with ⟨e0, _⟩ | ⟨g', cap', cur, e0, hb, hg, hn, hm, hs, ht⟩
  · cases e0
  · injection e0 with e1 _ e3
    injection e1 with e1
    injection e1 with e1
    subst e1; subst e3
    refine ⟨hF, .inr ⟨g, cap, putCells id 0 F.toArray cur, rfl, hb, ?_, hn, hm, by simpa [putCells] using hs, ?_⟩⟩
    · simp [putRow, mapBlock, Go.Sort.ahead, Array.getElem?_modify, hg, onCells]
    · apply List.ext_getElem?
      intro j
      rw [List.getElem?_take, Array.getElem?_toList]
      by_cases hj : j < n * 2
      · have hjc : j < cur.size := by have := Nat.mul_le_mul_right 2 hn; omega
        simp only [if_pos hj, putCells, Array.getElem?_mapIdx, Array.getElem?_eq_getElem hjc, Option.map_some]
        rw [if_pos (by simp; omega), List.getElem?_eq_getElem (by omega)]
        simp [getElem!_pos, show j < F.length by omega]
      · rw [if_neg hj, List.getElem?_eq_none (by omega)]
set_option maxRecDepth 100000 in
theorem SortLb_any (L : List Lb) (B g n cap : Nat) (w : World) (h : w.ownsRow B 37 2 (.slice (some ⟨g, 0, none⟩) n cap) n (L.flatMap encLb)) (hL : L.length = n) (hn : n ≤ 1000000) :
    Calls Tryz.prog 101 #[.slice (some ⟨g, 0, none⟩) n cap, .func (.func 102) #[] #[]] w fun e w' => e = .returned (.tuple #[]) ∧ w'.ownsRow B 37 2 (.slice (some ⟨g, 0, none⟩) n cap) n ((sortLb L).flatMap encLb) ∧ Kept w w' (fun k => k = g) := by
  subst hL
  have hcells : ∀ j u, (L.flatMap encLb)[j]? = some u → w.cell? ((⟨g, 0, none⟩ : Addr).add j) = some u := h.cells (g := g) rfl
  have hgl := (h.lt g rfl).2
  have hfz : ∀ o, w.frozen? ⟨g, o, none⟩ = false := fun o => by
    rcases h.2 with ⟨e0, _⟩ | ⟨g', cap', cur, e0, _, hg, _⟩
    · cases e0
    · injection e0 with e1 _ e3
      injection e1 with e1
      injection e1 with e1
      subst e1
      simp [World.frozen?, hg]
  have hH : HoldsK encLb 2 w g 0 L.toArray := by
    unfold HoldsK
    rw [flat_eq]
    intro j hj
    have hj' : j < (L.flatMap encLb).length := by simpa using hj
    refine ⟨?_, hfz _⟩
    have := hcells j _ (List.getElem?_eq_getElem hj')
    rw [add_at] at this
    rw [Nat.zero_add, this, getElem!_pos _ j hj]
    simp
  refine (Tryz.slices_SortFunc_total 2 Tryz.isAgg37 Tryz.sizeOf37 encLb (fun _ => rfl) (fun x v hv => by simp [encLb] at hv; rcases hv with rfl | rfl <;> rfl) cmpLb cl_swo 102 #[] g 0 cap L.toArray w (fun _ _ => by kernel_rfl) (fun m os dk hs x y => (cmp1_any x y _).mono fun e w' ⟨h1, h2⟩ => ⟨h1, grew_form h2⟩) hH hgl (by simp; omega) cl_total).mono ?_
  rintro e w' ⟨rfl, q, os, rfl⟩
  refine ⟨rfl, ?_, ?_⟩
  · unfold sortWorldK putRowK
    rw [flat_eq]
    have h1 := ownsRow_putK (q := q) h ((sortLb L).flatMap encLb) (by rw [flat_len]; unfold sortLb; rw [List.length_mergeSort])
    exact ownsRow_kept h1 (kept_grow _ _ (fun _ => False)) (fun _ _ e => e)
  · unfold sortWorldK putRowK
    exact (kept_putRow _ _ _ _ _).trans (kept_grow _ _ _)
end Go.Proofs.YtpeahjocimhneaaGreatDoor
namespace Go.Proofs.YtpeahjocimhneaaGreatDoor
open Go.RowKit Go.Maps Go.WideMaps
attribute [local go_sem] bs_toList bs_size

set_option maxRecDepth 100000 in
theorem lbLaw : KeyLaw Tryz.prog 37 := deep_law (m := 2) (by omega) (by kernel_rfl) (by kernel_rfl) (by kernel_rfl)
def klb (y : Lb) : Lit := .string (keyBytes [.string y.1, .string y.2])
def okLb (y : Lb) : Prop := y.1.length ≤ 1048576 ∧ y.2.length ≤ 1048576
set_option maxRecDepth 100000 in
theorem lb_key (y : Lb) (h : okLb y) : keyOf Tryz.prog 37 (.agg #[.string (bs y.1), .string (bs y.2)]) = some (klb y) := by
  have hu := Tryz.underlying37
  have hs := Tryz.underlying9
  have hk : Tryz.prog.keyType 37 = true := by kernel_rfl
  have hc : Tryz.prog.cellsOf 37 = 2 := by kernel_rfl
  have hc1 : Tryz.prog.cellsOf 9 = 1 := by kernel_rfl
  have h1 : (bs y.1).size ≤ maxLen := by rw [bs_size]; unfold maxLen; have := h.1; omega
  have h2 : (bs y.2).size ≤ maxLen := by rw [bs_size]; unfold maxLen; have := h.2; omega
  obtain ⟨N, hN⟩ : ∃ N, Tryz.prog.types.size = N + 1 := ⟨Tryz.prog.types.size - 1, by kernel_rfl⟩
  unfold keyOf
  rw [hN]
  have e1 : ∀ s : ByteArray, s.size ≤ maxLen → Tryz.prog.keyLits (N + 1) 9 [.string s] = some [.string s.data.toList] := fun s hl => by
    unfold Program.keyLits
    rw [hs]
    simp [hl]
  have e2 : Tryz.prog.keyLits (N + 1 + 1) 37 [.string (bs y.1), .string (bs y.2)] = some [.string y.1, .string y.2] := by
    have a1 := e1 _ h1
    have a2 := e1 _ h2
    rw [bs_data] at a1 a2
    unfold Program.keyLits
    rw [hu]
    simp [hc, hc1, a1, a2]
  rw [hu]
  simp only [hk, Bool.true_and]
  rw [show Value.formed Tryz.prog 37 (.agg #[.string (bs y.1), .string (bs y.2)]) = true by simp [Value.formed, hu, hc]]
  rw [if_pos rfl]
  rw [show (Value.agg #[.string (bs y.1), .string (bs y.2)]).cells.toList = [.string (bs y.1), .string (bs y.2)] from rfl, e2]
  rfl
set_option maxRecDepth 100000 in
theorem klb_inj {y z : Lb} (h1 : okLb y) (h2 : okLb z) (h : klb y = klb z) : y = z := by
  have a := lb_key y h1
  have b := lb_key z h2
  rw [h] at a
  have c := lbLaw.inj a b
  injection c with c
  have c1 : bs y.1 = bs z.1 ∧ bs y.2 = bs z.2 := by simpa using c
  exact Prod.ext (bs_inj c1.1) (bs_inj c1.2)
def datumOf (L : List Nat) : DataW Unit := if L = [] then .nil else .slice (Go.ChangeShapes.lits .i64 (intsN L)) []
def DictIs (D : DataW Unit) (S : List (Lb × Nat)) : Prop := ∀ y, okLb y → D.atKey (klb y) .nil = datumOf (valOf S y)
theorem valOf_snoc (S : List (Lb × Nat)) (y : Lb) (i : Nat) (z : Lb) : valOf (S ++ [(y, i)]) z = valOf S z ++ if y = z then [i] else [] := by
  unfold valOf
  rw [List.filter_append, List.map_append, List.filter_cons, List.filter_nil]
  by_cases h : y = z <;> simp [h]
theorem intsN_inj {a b : List Nat} (h : intsN a = intsN b) : a = b := by
  unfold intsN at h
  exact (List.map_inj_right (fun x y e => by omega)).1 h
theorem lits_inj {a b : List Int} (h : (Go.ChangeShapes.lits .i64 a : List (DataW Unit)) = Go.ChangeShapes.lits .i64 b) : a = b := by
  unfold Go.ChangeShapes.lits at h
  exact (List.map_inj_right (fun x y e => by simpa using e)).1 h
theorem datum_of {w : World} {base : Nat} {e : TypeId} {v : Value} {zs : List Int} {L : List Nat} (h : w.ownsInts base e .i64 v zs) (hd : rowDatum (H := Unit) .i64 v zs = datumOf L) : zs = intsN L := by
  unfold datumOf at hd
  split at hd
  · rename_i hL
    subst hL
    rcases h.datum (H := Unit) with ⟨_, h0⟩ | h1
    · exact h0
    · rw [h1] at hd
      cases hd
  · rcases h.datum (H := Unit) with ⟨h1, _⟩ | h1
    · rw [h1] at hd
      cases hd
    · rw [h1] at hd
      injection hd with hd
      exact lits_inj hd
theorem dict_put {D : DataW Unit} {S : List (Lb × Nat)} (hD : IsMap D) (h : DictIs D S) {y : Lb} (hy : okLb y) (i : Nat) {w : World} {base : Nat} {e : TypeId} {v : Value} (ho : w.ownsInts base e .i64 v (intsN (valOf S y) ++ [(i : Int)])) : DictIs (D.put (klb y) (rowDatum .i64 v (intsN (valOf S y) ++ [(i : Int)]))) (S ++ [(y, i)]) := fun z hz => by
  rw [valOf_snoc]
  by_cases e1 : y = z
  · subst e1
    rw [atKey_put_same hD (by trivial), ho.datum_pos (by simp), if_pos rfl]
    unfold datumOf
    rw [if_neg (by simp)]
    congr 2
    unfold intsN
    simp
  · rw [atKey_put_other (fun e => e1 (klb_inj hy hz e.symm)), h z hz, if_neg e1, List.append_nil]
theorem groups_kept {P : Program} {k e : TypeId} {w w' : World} {base b n : Nat} {q : IntKind} {D : DataW Unit} {S : Nat → Prop} (h : w.ownsGroups P k base e q b n D) (hk : Kept w w' S) (hb' : ¬ S b) (hS : ∀ g, S g → g < w.heap.size → tag w g ≠ some (some e)) : w'.ownsGroups P k base e q b n D := by
  obtain ⟨es, clock, hb, F, hs, rfl, hbb, hlen, hap⟩ := h
  have hblt : b < w.heap.size := (Array.getElem?_eq_some_iff.1 hb).1
  have keep : ∀ {v : Value} {zs : List Int}, w.ownsInts base e q v zs → w'.ownsInts base e q v zs := fun {v zs} ho => ⟨ownsRow_kept ho.1 hk (fun g hg hSg => hS g hSg (ho.1.lt g hg).2 (tag_row ho.1 hg)), ho.2⟩
  have hst : ∀ x ∈ es.toList, ∀ z, rowElem (H := Unit) w base e q x.val = some z → rowElem w' base e q x.val = some z := fun x _ z hz => by
    obtain ⟨zs, ho, rfl⟩ := rowElem_inv hz
    exact rowElem_mk (keep ho)
  obtain ⟨F1, hmap, _⟩ := F.stay hst
  refine ⟨es, clock, (hk.block b hblt hb').trans hb, F1, hs, by rw [hmap], hbb, fun x hx zs ho => ?_, hap⟩
  obtain ⟨y, hy⟩ := F.reads x hx
  obtain ⟨z, hz, _⟩ := WideElems.rd_val hy
  obtain ⟨zs0, ho0, _⟩ := rowElem_inv hz
  rw [ho.unique (keep ho0)]
  exact hlen x hx zs0 ho0
theorem groups_map {P : Program} {k e : TypeId} {w : World} {base b n : Nat} {q : IntKind} {D : DataW Unit} (h : w.ownsGroups P k base e q b n D) : IsMap D ∧ b < w.heap.size ∧ tag w b = some none := by
  obtain ⟨es, clock, hb, F, hs, rfl, hbb, hlen, hap⟩ := h
  exact ⟨⟨_, rfl⟩, (Array.getElem?_eq_some_iff.1 hb).1, by unfold tag; rw [hb]; rfl⟩
def prI (E : List En) (i : Nat) : List (Lb × Nat) := (List.range i).flatMap fun i => (E.getD i zeroEn).labels.map fun z => (z, i)
theorem pairs_pr (E : List En) : pairsI E = prI E E.length := rfl
theorem pr_succ (E : List En) {i : Nat} (h : i < E.length) : prI E (i + 1) = prI E i ++ E[i].labels.map fun z => (z, i) := by
  unfold prI
  rw [List.range_succ, List.flatMap_append, List.flatMap_cons, List.flatMap_nil, List.append_nil, show E.getD i zeroEn = E[i] by rw [List.getD_eq_getElem?_getD, List.getElem?_eq_getElem h]; rfl]
theorem pr_part (E : List En) {i : Nat} (h : i < E.length) (k : Nat) : (prI E i ++ (E[i].labels.take k).map fun z => (z, i)).length ≤ (pairsI E).length := by
  have h1 : ∀ j, i + 1 + j ≤ E.length → (prI E (i + 1)).length ≤ (prI E (i + 1 + j)).length := fun j => by
    induction j with
    | zero => exact fun _ => Nat.le_refl _
    | succ j ih =>
      intro hj
      rw [← Nat.add_assoc, pr_succ E (show i + 1 + j < E.length by omega), List.length_append]
      have := ih (by omega)
      omega
  have h2 := h1 (E.length - (i + 1)) (by omega)
  rw [show i + 1 + (E.length - (i + 1)) = E.length by omega, pr_succ E h] at h2
  rw [pairs_pr]
  refine Nat.le_trans ?_ h2
  rw [List.length_append, List.length_append, List.length_map, List.length_map, List.length_take]
  omega
theorem dist_snoc (L : List Lb) (y : Lb) : distL (L ++ [y]) = if y ∈ distL L then distL L else distL L ++ [y] := by
  unfold distL
  rw [List.foldl_append]
  rfl
theorem dist_fold (y : Lb) : ∀ L a : List Lb, y ∈ L.foldl (fun a y => if y ∈ a then a else a ++ [y]) a ↔ y ∈ a ∨ y ∈ L
  | [], a => by simp
  | x :: L, a => by
    rw [List.foldl_cons, dist_fold y L]
    split
    · rename_i h
      rw [List.mem_cons]
      constructor
      · rintro (h1 | h1)
        · exact .inl h1
        · exact .inr (.inr h1)
      · rintro (h1 | rfl | h1)
        · exact .inl h1
        · exact .inl h
        · exact .inr h1
    · rw [List.mem_append, List.mem_singleton, List.mem_cons, or_assoc]
theorem dist_mem (L : List Lb) (y : Lb) : y ∈ distL L ↔ y ∈ L := by
  unfold distL
  rw [dist_fold]
  simp
theorem val_none (S : List (Lb × Nat)) (y : Lb) : valOf S y = [] ↔ y ∉ distL (S.map fun p => p.1) := by
  rw [dist_mem]
  unfold valOf
  rw [List.map_eq_nil_iff, List.filter_eq_nil_iff, List.mem_map]
  constructor
  · rintro h ⟨p, hp, e⟩
    exact h p hp (by simpa using e)
  · intro h p hp e
    exact h ⟨p, hp, by simpa using e⟩
end Go.Proofs.YtpeahjocimhneaaGreatDoor
namespace Go.Proofs.YtpeahjocimhneaaGreatDoor
open Go.RowKit Go.Maps Go.WideMaps
attribute [local go_sem] bs_toList bs_size

/-- Labels, and who has each. -/
structure PIs (w : World) (B : Nat) (S : List (Lb × Nat)) (L : List Lb) (kv : Value) (D : DataW Unit) : Prop where
  boxA : Blk w (B + 1) 133 #[.map (some B)]
  boxK : Blk w (B + 2) 57 #[kv]
  grp : w.ownsGroups Tryz.prog 37 (B + 1) 3 .i64 B S.length D
  dict : DictIs D S
  row : w.ownsRow B 37 2 kv L.length (L.flatMap encLb)
section
variable {w w' : World} {B : Nat} {S : List (Lb × Nat)} {L : List Lb} {kv : Value} {D : DataW Unit}
theorem PIs.kept {X : Nat → Prop} (h : PIs w B S L kv D) (hk : Kept w w' X) (h0 : ¬ X B) (h1 : ¬ X (B + 1)) (h2 : ¬ X (B + 2)) (h3 : ∀ k, kv.ownBlock = some k → ¬ X k) (h4 : ∀ g, X g → g < w.heap.size → tag w g ≠ some (some 3)) : PIs w' B S L kv D :=
  ⟨h.boxA.keptK hk h1, h.boxK.keptK hk h2, groups_kept h.grp hk h0 h4, h.dict, ownsRow_kept h.row hk h3⟩
theorem PIs.below (h : PIs w B S L kv D) (hb : Below w.heap.size w w') : PIs w' B S L kv D := h.kept (Kept.of_below (S := fun _ => False) hb) id id id (fun _ _ e => e) (fun _ e => e.elim)
theorem PIs.lt (h : PIs w B S L kv D) : B + 2 < w.heap.size := h.boxK.lt
theorem PIs.ne (h : PIs w B S L kv D) : kv.ownBlock ≠ some B ∧ kv.ownBlock ≠ some (B + 1) ∧ kv.ownBlock ≠ some (B + 2) := by
  refine ⟨fun e => ?_, fun e => ?_, fun e => ?_⟩
  · have h1 := tag_row h.row e
    rw [(groups_map h.grp).2.2] at h1
    simp at h1
  · have h1 := tag_row h.row e
    rw [tag_blk h.boxA] at h1
    simp at h1
  · have h1 := tag_row h.row e
    rw [tag_blk h.boxK] at h1
    simp at h1
theorem flat_snoc (L : List Lb) (y : Lb) : L.flatMap encLb ++ [.string (bs y.1), .string (bs y.2)] = (L ++ [y]).flatMap encLb := by
  rw [List.flatMap_append]
  rfl
/-- A key is appended, and the row stored. -/
theorem keys_push {w5 : World} {o : Obj} {v' : Value} {y : Lb} (h : PIs w B S L kv D) (hown : w5.ownsRow B 37 2 v' (L.length + 1) (L.flatMap encLb ++ [.string (bs y.1), .string (bs y.2)])) (hg : (w.alloc o).grownBy w5 kv.ownBlock) :
    Blk w5 (B + 2) 57 #[kv] ∧ PIs (w5.setCell ⟨B + 2, 0, none⟩ v') B S (L ++ [y]) v' D ∧ Kept w (w5.setCell ⟨B + 2, 0, none⟩ v') (fun k => k = B + 2 ∨ kv.ownBlock = some k) := by
  obtain ⟨n0, n1, n2⟩ := h.ne
  have hk1 : Kept w w5 (fun k => kv.ownBlock = some k) := ((Kept.alloc w o _).weaken (fun _ e => e)).trans (Kept.of_grown hg fun k e => e)
  have hb5 := h.boxK.keptK hk1 n2
  have hset : Kept w5 (w5.setCell ⟨B + 2, 0, none⟩ v') (fun k => k = B + 2) := Kept.of_grown (grown_set w5 (B + 2) 0 v') fun k e => (Option.some.inj e).symm
  have hk2 : Kept w (w5.setCell ⟨B + 2, 0, none⟩ v') (fun k => k = B + 2 ∨ kv.ownBlock = some k) := (hk1.weaken fun k e => .inr e).trans (hset.weaken fun k e => .inl e)
  have hne : v'.ownBlock ≠ some (B + 2) := fun e => by
    have h1 := tag_row hown e
    rw [tag_blk hb5] at h1
    simp at h1
  refine ⟨hb5, ⟨h.boxA.keptK hk2 (fun e => e.elim (by omega) n1), Blk.set_ hb5 0 v', groups_kept h.grp hk2 (fun e => e.elim (by omega) n0) (fun g hg hl e => ?_), h.dict, ?_⟩, hk2⟩
  · rcases hg with rfl | hg
    · rw [tag_blk h.boxK] at e
      simp at e
    · rw [tag_row h.row hg] at e
      simp at e
  · rw [← flat_snoc, List.length_append]
    exact ownsRow_kept hown hset (fun b e e2 => hne (by rw [e, e2]))
/-- A place is put. -/
theorem post_put (h : PIs w B S L kv D) (y : Lb) (hy : okLb y) (i : Nat) (hi : i ≤ 100000) (hS : S.length ≤ 10000000) :
    ∃ va vc st w1, (Instr.mapEntry 133 (.map (some B)) (.agg #[.string (bs y.1), .string (bs y.2)])).run Tryz.prog (w.alloc (.cells #[.int .i64 (i : Int)] 3)) = .ok (.tuple #[.slice va (valOf S y).length vc, .int .i64 ((st : Nat) : Int)]) w1 ∧
      w1.ownsRow (B + 1) 3 1 (.slice va (valOf S y).length vc) (valOf S y).length ((intsN (valOf S y)).map (Value.int .i64)) ∧ (valOf S y).length ≤ S.length ∧ w1.cell? ⟨w.heap.size, 0, none⟩ = some (.int .i64 (i : Int)) ∧ B + 1 ≤ w1.heap.size ∧
      ∀ (w2 : World) (v' : Value), w2.ownsRow (B + 1) 3 1 v' ((valOf S y).length + 1) ((intsN (valOf S y)).map (Value.int .i64) ++ [.int .i64 (i : Int)]) → w1.grownBy w2 (Value.slice va (valOf S y).length vc).ownBlock → (v'.ownBlock = (Value.slice va (valOf S y).length vc).ownBlock ∨ v'.ownBlock = some w1.heap.size) →
        ∃ w3 D', (Instr.entryStore 133 (.map (some B)) (.int .i64 ((st : Nat) : Int)) v').run Tryz.prog w2 = .ok () w3 ∧ PIs w3 B (S ++ [(y, i)]) L kv D' ∧ Kept w w3 (fun k => B ≤ k) := by
  have hl := h.lt
  have he := h.below (one_alloc w (.cells #[.int .i64 (i : Int)] 3))
  have hvl : (valOf S y).length ≤ S.length := by unfold valOf; rw [List.length_map]; exact List.length_filter_le _ _
  obtain ⟨v, zs, st, w1, hE, hg1, hvb, hat, hoi, hzl, HS⟩ := groups_entry he.grp lbLaw Tryz.underlying133 (fun u => Tryz.zeroValue43 u) (by unfold maxLen; omega) (lb_key y hy)
  have hzs := datum_of hoi (hat.symm.trans (he.dict y hy))
  subst hzs
  obtain ⟨va, vc, rfl⟩ := row_form hoi.1
  rw [intsN_len] at *
  have k1 : Kept (w.alloc (.cells #[.int .i64 (i : Int)] 3)) w1 (fun k => k = B) := Kept.of_grown hg1 fun k e => (Option.some.inj e).symm
  have ho1 := ownsRow_kept hoi.1 k1 (fun b e e2 => hvb (by rw [e, e2]))
  rw [intsN_len] at ho1
  have hc : w1.cell? ⟨w.heap.size, 0, none⟩ = some (.int .i64 (i : Int)) := k1.cell (by rw [World.cell?_alloc_new]; rfl) (by simp only; omega)
  refine ⟨va, vc, st, w1, hE, ho1, hvl, hc, by have := hg1.size; rw [World.size_alloc] at this; omega, fun w2 v' hown hg2 hloc => ?_⟩
  have hown2 : w2.ownsInts (B + 1) 3 .i64 v' (intsN (valOf S y) ++ [(i : Int)]) := by
    refine ⟨?_, fun z hz => ?_⟩
    · rw [List.length_append, intsN_len, List.map_append]
      exact hown
    · rcases List.mem_append.1 hz with hz | hz
      · exact hoi.2 z hz
      · rw [List.mem_singleton] at hz
        subst hz
        have m1 : IntKind.i64.min = -9223372036854775808 := by decide
        have m2 : IntKind.i64.max = 9223372036854775807 := by decide
        simp only [Lit.wf, m1, m2, Bool.and_eq_true, decide_eq_true_eq]
        omega
  obtain ⟨w3, hst, hg3, hgr3⟩ := HS w2 v' _ hg2 hown2 (by rw [List.length_append, intsN_len]; simp; omega) (hloc.elim .inl fun e => .inr ⟨_, e, hg1.size⟩)
  have hD := groups_map he.grp
  have k2 : Kept w1 w2 (fun k => (Value.slice va (valOf S y).length vc).ownBlock = some k) := Kept.of_grown hg2 fun k e => e
  have k3 : Kept w2 w3 (fun k => k = B) := Kept.of_grown hgr3 fun k e => (Option.some.inj e).symm
  have kA : Kept (w.alloc (.cells #[.int .i64 (i : Int)] 3)) w3 (fun k => k = B ∨ (Value.slice va (valOf S y).length vc).ownBlock = some k) := ((k1.weaken fun k e => .inl e).trans (k2.weaken fun k e => .inr e)).trans (k3.weaken fun k e => .inl e)
  have n0 := he.ne
  have nv : ∀ k t, tag (w.alloc (.cells #[.int .i64 (i : Int)] 3)) k = some (some t) → t ≠ 3 → (Value.slice va (valOf S y).length vc).ownBlock ≠ some k := fun k t ht hne e => by
    rw [tag_row hoi.1 e] at ht
    exact hne (Option.some.inj (Option.some.inj ht)).symm
  refine ⟨w3, _, hst, ⟨he.boxA.keptK kA (fun e => e.elim (by omega) (nv _ _ (tag_blk he.boxA) (by decide))), he.boxK.keptK kA (fun e => e.elim (by omega) (nv _ _ (tag_blk he.boxK) (by decide))), ?_, dict_put hD.1 he.dict hy i hown2, ?_⟩, (Kept.alloc w _ _).trans (kA.weaken fun k e => ?_)⟩
  · rw [List.length_append]
    exact hg3
  · exact ownsRow_kept he.row kA (fun b e e2 => by
      rcases e2 with rfl | e2
      · exact n0.1 e
      · exact nv _ _ (tag_row he.row e) (by decide) e2)
  · rcases e with rfl | e
    · exact Nat.le_refl _
    · have := (hoi.1.lt k e).1
      omega
end
end Go.Proofs.YtpeahjocimhneaaGreatDoor
namespace Go.Proofs.YtpeahjocimhneaaGreatDoor
open Go.RowKit Go.Maps Go.WideMaps
attribute [local go_sem] bs_toList bs_size

theorem pairs_at (E : List En) {i : Nat} (h : i < E.length) (k : Nat) (hk : k < E[i].labels.length) : prI E i ++ (E[i].labels.take (k + 1)).map (fun z => (z, i)) = (prI E i ++ (E[i].labels.take k).map fun z => (z, i)) ++ [(E[i].labels[k], i)] := by
  rw [List.take_succ_eq_append_getElem hk, List.map_append, ← List.append_assoc]
  rfl
theorem dist_pairs (S : List (Lb × Nat)) (y : Lb) (i : Nat) : distL ((S ++ [(y, i)]).map fun p => p.1) = if y ∈ distL (S.map fun p => p.1) then distL (S.map fun p => p.1) else distL (S.map fun p => p.1) ++ [y] := by
  rw [List.map_append, List.map_cons, List.map_nil, dist_snoc]
theorem fold_len (L : List Lb) : ∀ a : List Lb, (L.foldl (fun a y => if y ∈ a then a else a ++ [y]) a).length ≤ a.length + L.length := by
  induction L with
  | nil => exact fun a => Nat.le_refl _
  | cons x L ih =>
    intro a
    rw [List.foldl_cons]
    refine Nat.le_trans (ih _) ?_
    split
    · simp
    · simp; omega
theorem dist_len (L : List Lb) : (distL L).length ≤ L.length := by
  have := fold_len L []
  simpa [distL] using this
theorem sortLb_len (L : List Lb) : (sortLb L).length = L.length := List.length_mergeSort _
theorem one_cell {w : World} {g : Nat} {u : Value} (h : w.cell? ⟨g, 0, none⟩ = some u) : ∀ j u', [u][j]? = some u' → w.cell? ((⟨g, 0, none⟩ : Addr).add j) = some u' := fun j u' hu => by
  match j, hu with
  | 0, hu =>
    obtain rfl := Option.some.inj hu
    rw [add_at]
    exact h
  | j + 1, hu => simp at hu
set_option maxRecDepth 100000 in
set_option maxHeartbeats 4000000 in
theorem ipostings_any (E : List En) (v : Value) (w : World) (h : EntsAt w v E) (hS : (pairsI E).length ≤ 1000000) :
    Calls Tryz.prog 69 #[v] w fun e w' => ∃ kv D, e = .returned (.func (.func 105) #[] #[.pointer (some ⟨w.heap.size + 2, 0, none⟩), .pointer (some ⟨w.heap.size + 1, 0, none⟩)]) ∧ PIs w' w.heap.size (pairsI E) (keysOf E) kv D ∧ Below w.heap.size w w' := by
  have hmm := @run_makeMap Tryz.prog
  have HPP := Lib.hid (fun i (hi : i < E.length) k => Nat.le_trans (pr_part E hi k) hS)
  obtain ⟨a, c, rfl, hnil, hl, hlc, hx⟩ := h
  have HX := Lib.hid hx
  clear hx
  have ⟨i0, hin, hz0, hz1, hz2⟩ := info_parts (show (Tryz.prog.info? 3).map (fun i => (i.zero, i.size, i.bytes)) = some (some (.int .i64 0), 1, 8) by kernel_rfl)
  have ⟨j0, hjn, jz0, jz1, jz2⟩ := info_parts (show (Tryz.prog.info? 37).map (fun i => (i.zero, i.size, i.bytes)) = some (some (.agg #[.string ⟨#[]⟩, .string ⟨#[]⟩]), 2, 32) by kernel_rfl)
  have p0 : PIs (((w.alloc (.map #[] 0)).alloc (.cells #[.map (some w.heap.size)] 133)).alloc (.cells #[.slice none 0 0] 57)) w.heap.size (prI E 0) (distL ((prI E 0).map fun p => p.1)) (.slice none 0 0) (.map []) := by
    have g0 := World.ownsGroups_made (H := Unit) w Tryz.prog 37 3 .i64
    have bA := Blk.new (w.alloc (.map #[] 0)) 133 #[.map (some w.heap.size)]
    rw [World.size_alloc] at bA
    have bK := Blk.new ((w.alloc (.map #[] 0)).alloc (.cells #[.map (some w.heap.size)] 133)) 57 #[.slice none 0 0]
    rw [World.size_alloc, World.size_alloc] at bK
    refine ⟨Blk.alloc bA _, bK, groups_kept g0 ((Kept.alloc _ _ (fun _ => False)).trans (Kept.alloc _ _ _)) id (fun g hg => hg.elim), fun y _ => ?_, World.ownsRow_nil _ _ _ _⟩
    rw [show valOf (prI E 0) y = [] from rfl]
    simp [DataW.atKey, datumOf]
  have b0 : Below w.heap.size w (((w.alloc (.map #[] 0)).alloc (.cells #[.map (some w.heap.size)] 133)).alloc (.cells #[.slice none 0 0] 57)) := (((Below.refl _ w).alloc (Nat.le_refl _) _).alloc (by simp) _).alloc (by simp; omega) _
  go_enter Tryz.func69, Tryz.ntmps69
  go_wp2_with fail
  go_loopw [12] (fun vi wr => ∃ (i : Nat) (kv : Value) (D : DataW Unit), i ≤ E.length ∧ vi = .int .i64 (i : Int) ∧ PIs wr w.heap.size (prI E i) (distL ((prI E i).map fun p => p.1)) kv D ∧ Below w.heap.size w wr) (fun vi _ => E.length - (intOf vi).toNat)
  case atStart => exact ⟨0, _, _, Nat.zero_le _, rfl, p0, b0⟩
  clear p0 b0
  obtain ⟨i, kv, D, hi', rfl, hp, hb⟩ := hrel
  rcases (show i < E.length ∨ i = E.length by omega) with hil | rfl
  · obtain ⟨hok, b, o, rfl, a', c', d0, hL, d1, d2, d3⟩ := HX.out i E[i] (List.getElem?_eq_getElem hil)
    have e0 := (hb.cell (World.block_lt_of_cell? _ _ d0)).trans d0
    have e1 := (hb.cell (World.block_lt_of_cell? _ _ d1)).trans d1
    have e2 := (hb.cell (World.block_lt_of_cell? _ _ d2)).trans d2
    have e3 := (hb.cell (World.block_lt_of_cell? _ _ d3)).trans d3
    have HPI := Lib.hid (fun k => HPP.out i hil k)
    have HPA := Lib.hid (fun k (hk : k < E[i].labels.length) => pairs_at E hil k hk)
    have HPS := Lib.hid (pr_succ E hil)
    clear d0 d1 d2 d3 hok
    generalize E[i] = x at *
    obtain ⟨L, la, of, le⟩ := x
    simp only at e0 e1 e2 e3 hL HPI HPA HPS
    obtain ⟨_, _, eL, hLn, hLx⟩ := hL
    obtain ⟨rfl, _, rfl⟩ := Value.slice.inj eL
    have HLX := Lib.hid hLx
    clear hLx eL
    have bX := one_alloc wr (.cells #[.slice a' L.length c', .int .i64 la, .int .i64 of, .int .i64 le] 59)
    have p1 : PIs (wr.alloc (.cells #[.slice a' L.length c', .int .i64 la, .int .i64 of, .int .i64 le] 59)) w.heap.size (prI E i ++ (L.take 0).map fun z => (z, i)) (distL ((prI E i ++ (L.take 0).map fun z => (z, i)).map fun p => p.1)) kv D := by
      rw [List.take_zero, List.map_nil, List.append_nil]
      exact hp.below bX
    have B1 := hb.trans (bX.mono hb.size)
    clear bX hp
    go_wp2_with fail
    go_loopw [20] (fun vk wq => ∃ (k : Nat) (kv : Value) (D : DataW Unit), k ≤ L.length ∧ vk = .int .i64 (k : Int) ∧ PIs wq w.heap.size (prI E i ++ (L.take k).map fun z => (z, i)) (distL ((prI E i ++ (L.take k).map fun z => (z, i)).map fun p => p.1)) kv D ∧ Below w.heap.size w wq) (fun vk _ => L.length - (intOf vk).toNat)
    case atStart => exact ⟨0, _, _, Nat.zero_le _, rfl, p1, B1⟩
    clear p1 B1 hb e0 e1 e2 e3
    obtain ⟨k, kv, D, hk, rfl, hp, hb⟩ := hrel
    rcases (show k < L.length ∨ k = L.length by omega) with hkl | rfl
    · obtain ⟨hy1, hy2, b3, o3, rfl, g0, g1⟩ := HLX.out k L[k] (List.getElem?_eq_getElem hkl)
      have x0 := (hb.cell (World.block_lt_of_cell? _ _ g0)).trans g0
      have x1 := (hb.cell (World.block_lt_of_cell? _ _ g1)).trans g1
      have HSA := Lib.hid (HPA.out k hkl)
      have hSl := HPI.out k
      clear g0 g1
      generalize L[k] = y at *
      generalize hSS : prI E i ++ (L.take k).map (fun z => (z, i)) = S at *
      generalize hS2 : prI E i ++ (L.take (k + 1)).map (fun z => (z, i)) = S2 at *
      have HS2 := Lib.hid hS2
      clear hSS hS2
      have HD := Lib.hid (dist_pairs S y i)
      have HVN := Lib.hid (val_none S y)
      have hdl : (distL (S.map fun p => p.1)).length ≤ S.length := by have := dist_len (S.map fun p => p.1); rwa [List.length_map] at this
      generalize hK : distL (S.map fun p => p.1) = K at *
      clear hK
      have bY := one_alloc wr (.cells #[.string (bs y.1), .string (bs y.2)] 37)
      have pa := hp.below bY
      have kY := Blk.new wr 37 #[.string (bs y.1), .string (bs y.2)]
      have BY := hb.trans (bY.mono hb.size)
      have yok : okLb y := ⟨hy1, hy2⟩
      obtain ⟨v1, zs, hlook, hat, hoi, hzl, _⟩ := pa.grp.at (Keyed.of_law lbLaw) Tryz.underlying133 (Tryz.zeroValue43 _) (by unfold maxLen; omega) (lb_key y yok)
      have hzs := datum_of hoi (hat.symm.trans (pa.dict y yok))
      subst hzs
      obtain ⟨va, vc, rfl⟩ := row_form hoi.1
      rw [intsN_len] at hlook
      have hpl := hp.lt
      have cA := (Blk.cell pa.boxA 0).trans (show _ = some (Value.map (some w.heap.size)) from rfl)
      have cK := (Blk.cell pa.boxK 0).trans (show _ = some kv from rfl)
      have y0 := (Blk.cell kY 0).trans (show _ = some (Value.string (bs y.1)) from rfl)
      have y1 := (Blk.cell kY 1).trans (show _ = some (Value.string (bs y.2)) from rfl)
      obtain ⟨ka, kc, rfl⟩ := row_form pa.row
      by_cases hv0 : valOf S y = []
      · have hnew : y ∉ K := HVN.out.1 hv0
        have HK2 := Lib.hid (show distL (S2.map fun p => p.1) = K ++ [y] by rw [HSA.out, HD.out, if_neg hnew])
        rw [hv0] at hlook
        rw [show ([] : List Nat).length = 0 from rfl] at hlook
        clear hv0 hat hoi hzl HVN
        go_wp2_with (first | (at_builtin; refine wpList_append_own_at _ rfl _ _ 57 rfl w.heap.size 37 j0 (.agg #[.string ⟨#[]⟩, .string ⟨#[]⟩]) 2 32 Tryz.underlying57 hjn jz0 jz1 jz2 rfl (by decide) _ _ _ rfl (World.ownsRow.alloc pa.row _) ⟨_, 0, none⟩ 1 1 [.string (bs y.1), .string (bs y.2)] rfl rfl (cells_new _ _ _ _ (World.size_alloc _ _)) (by simp [Value.oneCell']) (by unfold maxLen; omega) (by omega) (by simp; omega) ?_; intro v' w5 hown' hgrow hnil2 hloc; obtain ⟨sa', sc', rfl⟩ := row_form hown'; obtain ⟨hbK5, p5, kp5⟩ := keys_push (y := y) pa hown' hgrow; have k0 := (Blk.cell hbK5 0).trans (show _ = some (Value.slice ka K.length kc) from rfl); have f0 := Blk.frozen hbK5 0; have kY5 := kY.keptK kp5 (fun e => e.elim (by omega) (fun e => by have := (hp.row.lt _ e).2; omega)); have z0 := (Blk.cell kY5 0).trans (show _ = some (Value.string (bs y.1)) from rfl); have z1 := (Blk.cell kY5 1).trans (show _ = some (Value.string (bs y.2)) from rfl); have cA5 := (Blk.cell p5.boxA 0).trans (show _ = some (Value.map (some w.heap.size)) from rfl); obtain ⟨va2, vc2, st, w6, hE, ho6, hvl6, hc6, hs6, hS6⟩ := post_put p5 y yok i (by omega) (by omega); have HS6 := Lib.hid hS6; have KP5 := Lib.hid kp5; rw [World.size_setCell] at hc6; clear hS6 kp5 hbK5 kY5 hown' hgrow hnil2 hloc) | (at_builtin; refine wpList_append_own_at _ rfl _ _ 43 rfl (w.heap.size + 1) 3 i0 (.int .i64 0) 1 8 Tryz.underlying43 hin hz0 hz1 hz2 rfl (by decide) _ _ _ rfl ho6 ⟨_, 0, none⟩ 1 1 [.int .i64 (i : Int)] rfl rfl (one_cell hc6) (by simp [Value.oneCell']) (by unfold maxLen; omega) (by omega) hs6 ?_; intro v2' w7 hown7 hgrow7 hnil7 hloc7; obtain ⟨w8, D8, hst, p8, k8⟩ := HS6.out w7 v2' hown7 hgrow7 hloc7))
        go_roundw
        case rel =>
          have kk : Kept wr w8 (fun k => w.heap.size ≤ k) := ((Kept.alloc wr _ _).trans (KP5.out.weaken fun k e => e.elim (fun e => by omega) (fun e => (hp.row.lt _ e).1))).trans k8
          exact ⟨k + 1, _, D8, by omega, by go_num, by rw [HS2.out, HK2.out, HSA.out]; exact p8, hb.trans (kk.below hb.size fun k e => e)⟩
        case measure => simp [intOf]; omega
      · have hold : y ∈ K := by
          by_cases hm : y ∈ K
          · exact hm
          · exact absurd (HVN.out.2 hm) hv0
        have HK2 := Lib.hid (show distL (S2.map fun p => p.1) = K by rw [HSA.out, HD.out, if_pos hold])
        have hpos : (valOf S y).length ≠ 0 := fun e => hv0 (List.length_eq_zero_iff.1 e)
        have f1 : (((valOf S y).length : Int) == 0) = false := by simpa using hv0
        have f2 : ((valOf S y).length == 0) = false := by simpa using hv0
        obtain ⟨va2, vc2, st, w6, hE, ho6, hvl6, hc6, hs6, hS6⟩ := post_put pa y yok i (by omega) (by omega)
        have HS6 := Lib.hid hS6
        rw [World.size_alloc] at hc6
        clear hv0 hat hoi hzl HVN hold hS6
        generalize (valOf S y).length = vn at *
        go_wp2_with (at_builtin; refine wpList_append_own_at _ rfl _ _ 43 rfl (w.heap.size + 1) 3 i0 (.int .i64 0) 1 8 Tryz.underlying43 hin hz0 hz1 hz2 rfl (by decide) _ _ _ rfl ho6 ⟨_, 0, none⟩ 1 1 [.int .i64 (i : Int)] rfl rfl (one_cell hc6) (by simp [Value.oneCell']) (by unfold maxLen; omega) (by omega) hs6 ?_; intro v2' w7 hown7 hgrow7 hnil7 hloc7; obtain ⟨w8, D8, hst, p8, k8⟩ := HS6.out w7 v2' hown7 hgrow7 hloc7)
        go_roundw
        case rel =>
          have kk : Kept wr w8 (fun k => w.heap.size ≤ k) := (Kept.alloc wr _ _).trans k8
          exact ⟨k + 1, _, D8, by omega, by go_num, by rw [HS2.out, HK2.out, HSA.out]; exact p8, hb.trans (kk.below hb.size fun k e => e)⟩
        case measure => simp [intOf]; omega
    · rw [List.take_length] at hp
      go_wp2_with fail
      go_roundw
      case rel => exact ⟨i + 1, _, D, by omega, by go_num, by rw [HPS.out]; exact hp, hb⟩
      case measure => simp [intOf]; omega
  · rw [← pairs_pr] at hp
    have hdl := dist_len ((pairsI E).map fun p => p.1)
    rw [List.length_map] at hdl
    have HKE := Lib.hid (show keysOf E = sortLb (distL ((pairsI E).map fun p => p.1)) from rfl)
    generalize distL ((pairsI E).map fun p => p.1) = K at *
    have hpl := hp.lt
    have cK := (Blk.cell hp.boxK 0).trans (show _ = some kv from rfl)
    obtain ⟨ka, kc, rfl⟩ := row_form hp.row
    by_cases hK0 : K.length = 0
    · have q := Lib.hid (fun W => Tryz.slices_SortFunc_none (α := Lb) ka kc (.func (.func 102) #[] #[]) W)
      obtain rfl := List.length_eq_zero_iff.1 hK0
      rw [show ([] : List Lb).length = 0 from rfl] at cK
      have HP := Lib.hid hp
      clear hp hK0
      go_wp2_with fail
      refine (q.out _).mono ?_
      rintro e w2 ⟨rfl, rfl⟩
      go_wp2_with fail
      go_ret
      exact ⟨_, D, rfl, by rw [HKE.out, show sortLb [] = [] by unfold sortLb; simp]; exact HP.out, hb⟩
    · obtain ⟨g, rfl⟩ : ∃ g, ka = some ⟨g, 0, none⟩ := by
        rcases hp.row.2 with ⟨_, e⟩ | ⟨g, cap, cur, e, _⟩
        · exact absurd e hK0
        · exact ⟨g, (Value.slice.inj e).1⟩
      have q := Lib.hid (SortLb_any K w.heap.size g K.length kc wr hp.row rfl (by omega))
      have HP := Lib.hid hp
      have HN := Lib.hid hp.ne
      clear hp
      go_wp2_with fail
      refine q.out.mono ?_
      rintro e w2 ⟨rfl, hr2, hk2⟩
      have HR2 := Lib.hid hr2
      have HK2 := Lib.hid hk2
      clear hr2 hk2 q cK
      go_wp2_with fail
      go_ret
      have hgb : w.heap.size ≤ g := (HP.out.row.lt g rfl).1
      have hne := HN.out
      have n0 : g ≠ w.heap.size := fun e => hne.1 (by rw [← e]; rfl)
      have n1 : g ≠ w.heap.size + 1 := fun e => hne.2.1 (by rw [← e]; rfl)
      have n2 : g ≠ w.heap.size + 2 := fun e => hne.2.2 (by rw [← e]; rfl)
      refine ⟨_, D, rfl, ⟨HP.out.boxA.keptK HK2.out (by omega), HP.out.boxK.keptK HK2.out (by omega), groups_kept HP.out.grp HK2.out (by omega) (fun k e hl et => ?_), HP.out.dict, ?_⟩, hb.trans (HK2.out.below hb.size fun k e => by omega)⟩
      · subst e
        rw [tag_row HP.out.row rfl] at et
        simp at et
      · rw [HKE.out, sortLb_len]
        exact HR2.out
end Go.Proofs.YtpeahjocimhneaaGreatDoor
namespace Go.Proofs.YtpeahjocimhneaaGreatDoor
open Go.RowKit

theorem bl_irrefl : ∀ a : List UInt8, Op.bytesLess a a = false
  | [] => rfl
  | a :: l => by unfold Op.bytesLess; simp [bl_irrefl l]
theorem bl_trans : ∀ a b c : List UInt8, Op.bytesLess a b = true → Op.bytesLess b c = true → Op.bytesLess a c = true
  | _, [], _, h, _ => by unfold Op.bytesLess at h; cases h
  | _, _ :: _, [], _, h => by unfold Op.bytesLess at h; cases h
  | [], _ :: _, _ :: _, _, _ => rfl
  | a :: l, b :: m, c :: n, h1, h2 => by
    unfold Op.bytesLess at h1 h2 ⊢
    simp only [Bool.or_eq_true, Bool.and_eq_true, decide_eq_true_eq, beq_iff_eq] at h1 h2 ⊢
    rcases h1 with h1 | ⟨rfl, h1⟩
    · rcases h2 with h2 | ⟨rfl, h2⟩
      · have a1 : a.toNat < b.toNat := h1
        have a2 : b.toNat < c.toNat := h2
        exact .inl (show a.toNat < c.toNat by omega)
      · exact .inl h1
    · rcases h2 with h2 | ⟨rfl, h2⟩
      · exact .inl h2
      · exact .inr ⟨rfl, bl_trans l m n h1 h2⟩
theorem bl_tri : ∀ a b : List UInt8, Op.bytesLess a b = true ∨ a = b ∨ Op.bytesLess b a = true
  | [], [] => .inr (.inl rfl)
  | [], _ :: _ => .inl rfl
  | _ :: _, [] => .inr (.inr rfl)
  | a :: l, b :: m => by
    unfold Op.bytesLess
    simp only [Bool.or_eq_true, Bool.and_eq_true, decide_eq_true_eq, beq_iff_eq]
    rcases Nat.lt_trichotomy a.toNat b.toNat with h | h | h
    · exact .inl (.inl h)
    · obtain rfl := UInt8.toNat_inj.1 h
      rcases bl_tri l m with h | rfl | h
      · exact .inl (.inr ⟨rfl, h⟩)
      · exact .inr (.inl rfl)
      · exact .inr (.inr (.inr ⟨rfl, h⟩))
    · exact .inr (.inr (.inl h))
theorem bl_asymm {a b : List UInt8} (h : Op.bytesLess a b = true) : Op.bytesLess b a = false := by
  cases h2 : Op.bytesLess b a with
  | false => rfl
  | true =>
    have := bl_trans a b a h h2
    rw [bl_irrefl] at this
    cases this
theorem le_bl (a b : List UInt8) : decide (a ≤ b) = !Op.bytesLess b a := by
  rw [bytesLess_eq]
  by_cases h : b < a
  · simp [h, List.not_le.2 h]
  · simp [h, List.not_lt.1 h]
theorem sorted_le (l : List (List UInt8)) : (l.mergeSort fun x y => decide (x ≤ y)).Pairwise fun x y => Op.bytesLess y x = false := by
  have h := List.pairwise_mergeSort (le := fun x y : List UInt8 => decide (x ≤ y)) (fun a b c h1 h2 => by
    rw [le_bl] at h1 h2 ⊢
    simp only [Bool.not_eq_true'] at h1 h2 ⊢
    rcases bl_tri a c with h | rfl | h
    · exact bl_asymm h
    · exact bl_irrefl _
    · rcases bl_tri a b with h3 | rfl | h3
      · rw [bl_trans c a b h h3] at h2
        cases h2
      · rw [h] at h2
        cases h2
      · rw [h3] at h1
        cases h1) (fun a b => by
    rw [le_bl, le_bl]
    rcases bl_tri a b with h | rfl | h
    · rw [bl_asymm h]
      rfl
    · rw [bl_irrefl]
      rfl
    · rw [bl_asymm h]
      simp) l
  refine h.imp fun {a b} e => ?_
  rw [le_bl] at e
  simpa using e
theorem compact_strict (zs : List (List UInt8)) (hs : zs.Pairwise fun x y => Op.bytesLess y x = false) : (Lib.compact zs).Pairwise fun x y => Op.bytesLess x y = true := by
  have hat : ∀ j (h : j < zs.length), zs.toArray[j]! = zs[j] := fun j h => by simp [h]
  have key : ∀ m, m ≤ zs.length → (Lib.compactUpTo zs.toArray m).Pairwise (fun x y => Op.bytesLess x y = true) ∧ ∀ x ∈ Lib.compactUpTo zs.toArray m, ∃ j, j < m ∧ ∃ h : j < zs.length, x = zs[j] := by
    intro m
    induction m with
    | zero => exact fun _ => ⟨by simp [Lib.compactUpTo], fun x hx => by simp [Lib.compactUpTo] at hx⟩
    | succ m ih =>
      intro hm
      obtain ⟨h1, h2⟩ := ih (by omega)
      rw [Lib.compactUpTo_succ]
      split
      · rename_i hk
        rw [hat m (by omega)]
        refine ⟨List.pairwise_append.2 ⟨h1, by simp, fun x hx y hy => ?_⟩, fun x hx => ?_⟩
        · rw [List.mem_singleton] at hy
          subst hy
          obtain ⟨j, hj, hjl, rfl⟩ := h2 x hx
          unfold Lib.keeps at hk
          rw [decide_eq_true_eq] at hk
          have hm0 : ¬ m = 0 := by omega
          have hne : zs[m] ≠ zs[m - 1] := by
            rcases hk with hk | hk
            · omega
            · rw [hat m (by omega), hat (m - 1) (by omega)] at hk
              exact hk
          have a1 : Op.bytesLess zs[m - 1] zs[m] = true := by
            rcases bl_tri zs[m - 1] zs[m] with h | h | h
            · exact h
            · exact absurd h.symm hne
            · have := List.pairwise_iff_getElem.1 hs (m - 1) m (by omega) (by omega) (by omega)
              rw [h] at this
              cases this
          rcases (show j = m - 1 ∨ j < m - 1 by omega) with rfl | hj2
          · exact a1
          · have a2 := List.pairwise_iff_getElem.1 hs j (m - 1) hjl (by omega) hj2
            rcases bl_tri zs[j] zs[m - 1] with h | h | h
            · exact bl_trans _ _ _ h a1
            · rw [h]
              exact a1
            · rw [h] at a2
              cases a2
        · rcases List.mem_append.1 hx with hx | hx
          · obtain ⟨j, hj, hjl, e⟩ := h2 x hx
            exact ⟨j, by omega, hjl, e⟩
          · rw [List.mem_singleton] at hx
            exact ⟨m, by omega, by omega, hx⟩
      · rw [List.append_nil]
        exact ⟨h1, fun x hx => by
          obtain ⟨j, hj, hjl, e⟩ := h2 x hx
          exact ⟨j, by omega, hjl, e⟩⟩
  have := (key zs.length (Nat.le_refl _)).1
  unfold Lib.compact
  simpa using this
theorem symI_strict (l : List En) : (symI l).Pairwise fun x y => Op.bytesLess x y = true := compact_strict _ (sorted_le _)
theorem symI_nodup (l : List En) : (symI l).Nodup := (symI_strict l).imp fun {a b} h e => by
  subst e
  rw [bl_irrefl] at h
  cases h
end Go.Proofs.YtpeahjocimhneaaGreatDoor
namespace Go.Proofs.YtpeahjocimhneaaGreatDoor
open Go.RowKit Go.Maps Go.WideMaps
attribute [local go_sem] bs_toList bs_size

/-- How a number reads in a map of numbers. -/
def intR (v : Value) : Option (DataW Unit × List MemPlace) :=
  match v with
  | .int .i64 n => some (.lit (.int .i64 n), [])
  | _ => none
theorem intR_lit {v : Value} {n : Int} {ps : List MemPlace} (h : intR v = some (.lit (.int .i64 n), ps)) : v = .int .i64 n := by
  unfold intR at h
  split at h
  · simp only [Option.some.injEq, Prod.mk.injEq, DataW.lit.injEq, Lit.int.injEq] at h
    rw [h.1.2]
  · cases h
/-- The map tells where each key is first. -/
def KeyMap (D : DataW Unit) (K : List (List UInt8)) : Prop := ∀ l : List UInt8, Maps.has D (.string l) = decide (l ∈ K) ∧ (l ∈ K → ∀ z, D.atKey (.string l) z = .lit (.int .i64 (K.idxOf l : Nat)))
theorem keyMap_new {D : DataW Unit} {K : List (List UInt8)} {l : List UInt8} (hD : IsMap D) (h : KeyMap D K) (hl : l ∉ K) : KeyMap (D.put (.string l) (.lit (.int .i64 (K.length : Nat)))) (K ++ [l]) := fun x => by
  obtain ⟨h1, h2⟩ := h x
  by_cases e : x = l
  · subst e
    refine ⟨by rw [has_put_same hD (by trivial)]; simp, fun _ z => ?_⟩
    rw [atKey_put_same hD (by trivial), List.idxOf_append, if_neg hl]
    simp
  · have hne : (Lit.string x) ≠ Lit.string l := fun h => e (Lit.string.inj h)
    have hm : x ∈ K ++ [l] ↔ x ∈ K := by simp [e]
    refine ⟨by rw [has_put_other hne, h1]; exact decide_eq_decide.2 hm.symm, fun hx z => ?_⟩
    rw [atKey_put_other hne, h2 (hm.1 hx) z, List.idxOf_append, if_pos (hm.1 hx)]
theorem keyMap_nil : KeyMap (.map []) [] := fun l => ⟨by simp [Maps.has], fun h => by cases h⟩
end Go.Proofs.YtpeahjocimhneaaGreatDoor
