/- Who has labels, and who fits a matcher of each, in plain words. Are two rows of places the same: the walk of the document's Row. The law IndexFits: the walk. -/
import Derived.Test.YtpeahjocimhneaaGreatDoorGL
import Derived.Test.YtpeahjocimhneaaGreatDoorGD
import Derived.Test.YtpeahjocimhneaaGreatDoorGC
import Derived.Test.YtpeahjocimhneaaGreatDoorGM
namespace Go.Proofs.YtpeahjocimhneaaGreatDoor
open Go.RowKit

theorem gt_less {a b : List UInt8} (h : gtB a b = true) : Op.bytesLess b a = true := by
  unfold gtB at h
  rcases bl_tri a b with h1 | h1 | h1
  · rw [h1] at h; cases h
  · subst h1; simp at h
  · exact h1
theorem chk_above : ∀ (L : List Lb) (last : List UInt8), chkFrom last L = true → ∀ y ∈ L, Op.bytesLess last y.1 = true
  | [], _, _, y, hy => by cases hy
  | x :: l, last, h, y, hy => by
    unfold chkFrom at h
    simp only [Bool.and_eq_true] at h
    obtain ⟨h1, _, _, _, h2⟩ := h
    have hx := gt_less h1
    rcases List.mem_cons.1 hy with rfl | hy
    · exact hx
    · exact bl_trans _ _ _ hx (chk_above l x.1 h2 y hy)
theorem getL_has : ∀ (L : List Lb) (last : List UInt8), chkFrom last L = true → ∀ n v, (n, v) ∈ L → getL L n = v
  | [], _, _, n, v, hy => by cases hy
  | x :: l, last, h, n, v, hy => by
    unfold chkFrom at h
    simp only [Bool.and_eq_true] at h
    obtain ⟨_, _, _, _, h2⟩ := h
    rcases List.mem_cons.1 hy with rfl | hy
    · rw [getL, if_pos rfl]
    · have h3 := chk_above l x.1 h2 _ hy
      rw [getL, if_neg (fun e => by rw [e] at h3; simp only at h3; rw [bl_irrefl] at h3; cases h3)]
      exact getL_has l x.1 h2 n v hy
theorem has_getL : ∀ (L : List Lb) (n v : List UInt8), getL L n = v → v ≠ [] → (n, v) ∈ L
  | [], n, v, h, hv => (hv h.symm).elim
  | x :: l, n, v, h, hv => by
    rw [getL] at h
    split at h
    · rename_i hn
      subst hn h
      exact List.mem_cons_self
    · exact List.mem_cons_of_mem _ (has_getL l n v h hv)
theorem fits_has {L : List Lb} {n v : List UInt8} (h : checkE L = 0) (hv : v ≠ []) : fitsM ⟨0, n, v⟩ L = decide ((n, v) ∈ L) := by
  have hc : chkFrom [] L = true := by
    unfold checkE at h
    cases hq : chkFrom [] L with
    | true => rfl
    | false => rw [hq] at h; simp at h
  unfold fitsM
  rw [if_pos rfl, Bool.eq_iff_iff]
  simp only [beq_iff_eq, decide_eq_true_eq]
  exact ⟨fun e => has_getL L n v e hv, fun e => getL_has L [] hc n v e⟩
/-- Those of two rows of places. -/
theorem filter_one : ∀ (B : List Nat) (a : Nat), B.Nodup → (B.filter fun b => decide (a = b)) = if a ∈ B then [a] else []
  | [], a, _ => by simp
  | b :: B, a, h => by
    have ih := filter_one B a (List.nodup_cons.1 h).2
    have hb := (List.nodup_cons.1 h).1
    rw [List.filter_cons]
    by_cases hab : a = b
    · subst hab
      simp [ih, hb]
    · simp [ih, hab]
def bothN (A B : List Nat) : List Nat := A.flatMap fun a => B.filter fun b => decide (a = b)
theorem both_filter (A B : List Nat) (hB : B.Nodup) : bothN A B = A.filter fun a => decide (a ∈ B) := by
  unfold bothN
  induction A with
  | nil => rfl
  | cons a A ih =>
    rw [List.flatMap_cons, ih, filter_one B a hB, List.filter_cons]
    by_cases h : a ∈ B <;> simp [h]
theorem both_who (E : List En) (x y : Lb) (hE : ∀ e ∈ E, checkE e.labels = 0) (hx : x.2 ≠ []) (hy : y.2 ≠ []) : bothN (whoN E x) (whoN E y) = askN [⟨0, x.1, x.2⟩, ⟨0, y.1, y.2⟩] E := by
  have hn : (whoN E y).Nodup := List.Pairwise.filter _ List.nodup_range
  rw [both_filter _ _ hn]
  unfold whoN askN selN
  rw [List.filter_filter, List.length_map]
  refine List.filter_congr fun i hi => ?_
  have hil : i < E.length := List.mem_range.1 hi
  have hm : (E.map (·.labels)).getD i [] = (E.getD i zeroEn).labels := by
    simp [List.getD_eq_getElem?_getD, hil]
  have hc : checkE (E.getD i zeroEn).labels = 0 := by
    rw [List.getD_eq_getElem?_getD, List.getElem?_eq_getElem hil]
    exact hE _ (List.getElem_mem hil)
  have hf : fitI [⟨0, x.1, x.2⟩, ⟨0, y.1, y.2⟩] (E.map (·.labels)) i = (hasI E x i && hasI E y i) := by
    unfold fitI allM hasI
    rw [hm]
    simp only [List.all_cons, List.all_nil, Bool.and_true]
    rw [fits_has hc hx, fits_has hc hy]
  rw [hf, Bool.eq_iff_iff]
  simp only [Bool.and_eq_true, decide_eq_true_eq, List.mem_filter, List.mem_range]
  exact ⟨fun h => ⟨h.2, h.1.2⟩, fun h => ⟨⟨hil, h.2⟩, h.1⟩⟩
theorem who_len (E : List En) (y : Lb) : (whoN E y).length ≤ E.length := filter_range_len _ _
theorem both_len (A B : List Nat) : (bothN A B).length ≤ A.length * B.length := by
  unfold bothN
  induction A with
  | nil => simp
  | cons a A ih =>
    rw [List.flatMap_cons, List.length_append, List.length_cons, Nat.succ_mul]
    have := List.length_filter_le (fun b => decide (a = b)) B
    omega
end Go.Proofs.YtpeahjocimhneaaGreatDoor
namespace Go.Proofs.YtpeahjocimhneaaGreatDoor
open Go.RowKit Go.Maps Go.WideMaps
attribute [local go_sem] bs_toList bs_size

set_option maxRecDepth 100000 in
set_option maxHeartbeats 1000000 in
theorem Row_any {w : World} {v1 v2 : Value} {a b : List Int} (h1 : IntsAt w v1 a) (h2 : IntsAt w v2 b) :
    Calls Tryz.prog 24 #[v1, v2] w fun e w' => e = .returned (.bool (decide (a = b))) ∧ Below w.heap.size w w' := by
  obtain ⟨s1, c1, rfl, _, l1, _, x1⟩ := h1
  obtain ⟨s2, c2, rfl, _, l2, _, x2⟩ := h2
  by_cases hlen : a.length = b.length
  · rw [← hlen]
    generalize hna : a.length = n at *
    have hnA := Lib.hid hna
    have hnB := Lib.hid hlen
    clear hna hlen l2
    go_enter Tryz.func24, Tryz.ntmps24
    go_wp2_with fail
    go_loopw [5] (fun i wr => ∃ j : Nat, j ≤ n ∧ i = .int .i64 (j : Int) ∧ a.take j = b.take j ∧ Below w.heap.size w wr) (fun i _ => n - (intOf i).toNat)
    case atStart => exact ⟨0, Nat.zero_le _, rfl, rfl, Below.refl _ _⟩
    case round =>
      obtain ⟨j, hj, rfl, hpre, hbw⟩ := hrel
      by_cases hjn : j < n
      · have hja : j < a.length := by rw [hnA.out]; exact hjn
        obtain ⟨b1, o1, rfl, d1⟩ := x1 j a[j] (List.getElem?_eq_getElem hja)
        have hjb : j < b.length := by rw [← hnB.out]; exact hjn
        obtain ⟨b2, o2, rfl, d2⟩ := x2 j b[j] (List.getElem?_eq_getElem hjb)
        have g1 := (Below.cell hbw (World.block_lt_of_cell? _ _ d1)).trans d1
        have g2 := (Below.cell hbw (World.block_lt_of_cell? _ _ d2)).trans d2
        have hta : a.take (j + 1) = a.take j ++ [a[j]] := by rw [List.take_succ_eq_append_getElem hja]
        have htb : b.take (j + 1) = b.take j ++ [b[j]] := by rw [List.take_succ_eq_append_getElem hjb]
        by_cases hx : a[j] = b[j]
        · have hnext := Lib.hid (show a.take (j + 1) = b.take (j + 1) by rw [hta, htb, hpre, hx])
          rw [← hx] at g2
          clear hta htb hpre hx d1 d2 x1 x2
          generalize a[j] = y at *
          have hyy : (y == y) = true := by simp
          have hyn : (y != y) = false := by simp
          go_wp2_with fail
          go_quiet (fail)
          go_wp2
          go_roundw
          case rel => exact ⟨j + 1, by omega, by go_num, hnext.out, below_drewN hbw _⟩
          case measure => simp [intOf]; omega
        · have hd : decide (a = b) = false := by
            simp only [decide_eq_false_iff_not]
            intro e
            subst e
            exact hx rfl
          have hne : (a[j] == b[j]) = false := by simpa using hx
          have hne2 : (a[j] != b[j]) = true := by simpa using hx
          have HD := Lib.hid hd
          clear hd
          clear hta htb hpre hx d1 d2 x1 x2
          generalize a[j] = y at *
          generalize b[j] = z at *
          go_wp2_with fail
          go_quiet (fail)
          go_wp2
          go_ret
          exact ⟨by rw [HD.out]; rfl, below_drewN hbw _⟩
      · have hab : a = b := by
          rw [List.take_of_length_le (by rw [hnA.out]; omega), List.take_of_length_le (by rw [← hnB.out]; omega)] at hpre
          exact hpre
        have hd : decide (a = b) = true := by simpa using hab
        have HD := Lib.hid hd
        clear hd hab hpre
        go_wp2
        go_ret
        exact ⟨by rw [HD.out]; rfl, hbw⟩
  · have hne : ((a.length : Int) == (b.length : Int)) = false := by simp; omega
    have hne2 : ((a.length : Int) != (b.length : Int)) = true := by simp; omega
    have hd : decide (a = b) = false := by
      simp only [decide_eq_false_iff_not]
      intro e
      exact hlen (by rw [e])
    rw [hd]
    go_enter Tryz.func24, Tryz.ntmps24
    go_wp2
    go_ret
    exact ⟨rfl, Below.refl _ _⟩
end Go.Proofs.YtpeahjocimhneaaGreatDoor
namespace Go.Proofs.YtpeahjocimhneaaGreatDoor
open Go.RowKit Go.Maps Go.WideMaps Go.ChangeShapes Go.WideShapes Go.Deep
attribute [local go_sem] bs_toList bs_size

section
variable {H : Type} {enc : TypeId × Value → H} {w : World} {base : Nat} {sp : Nat → Bool} {held : Bool}
theorem label_of_trod {cs : Array Value} {d : DataW H} {p : List MemPlace} (h : DataW.Trod enc Tryz.prog w base sp held 37 (.agg cs) d p) : ∃ n v : List UInt8, Value.agg cs = .agg #[.string (bs n), .string (bs v)] ∧ n.length ≤ maxLen ∧ v.length ≤ maxLen := by
  obtain ⟨fuel, h⟩ := h
  have h : DataW.trod enc Tryz.prog w base sp held fuel 37 cs.toList = some (d, p) := h
  obtain ⟨hlen, k, hf⟩ := trod_flat Tryz.underlying37 (by kernel_rfl) (by kernel_rfl) h
  obtain ⟨l⟩ := cs
  match l, hlen with
  | [v0, v1], _ =>
    obtain ⟨y0, g0⟩ := hf 0 _ v0 rfl rfl
    obtain ⟨y1, g1⟩ := hf 1 _ v1 rfl rfl
    obtain ⟨sA, e1, _, w1⟩ := DataW.trod_string Tryz.underlying9 g0
    obtain ⟨sB, e2, _, w2⟩ := DataW.trod_string Tryz.underlying9 g1
    obtain ⟨lA, rfl⟩ := bs_ex sA
    obtain ⟨lB, rfl⟩ := bs_ex sB
    rw [bs_size] at w1 w2
    simp only [List.cons.injEq, and_true] at e1 e2
    subst e1 e2
    exact ⟨lA, lB, rfl, w1, w2⟩
end
theorem mats_two (w : World) (a b c d : List UInt8) (h1 : a.length ≤ maxLen) (h2 : b.length ≤ maxLen) (h3 : c.length ≤ maxLen) (h4 : d.length ≤ maxLen) :
    MatsAt (w.alloc (.cells #[.int .i64 0, .string (bs a), .string (bs b), .int .i64 0, .string (bs c), .string (bs d)] 55)) (.slice (some ⟨w.heap.size, 0, none⟩) 2 2) [⟨0, a, b⟩, ⟨0, c, d⟩] := by
  have h := Blk.new w 55 #[.int .i64 0, .string (bs a), .string (bs b), .int .i64 0, .string (bs c), .string (bs d)]
  refine ⟨_, 2, rfl, by simp, fun i x hx => ?_⟩
  rcases i with _ | _ | i
  · obtain rfl : (⟨0, a, b⟩ : Mr) = x := by simpa using hx
    exact ⟨⟨by simp, by simp⟩, h1, h2, w.heap.size, 0, rfl, (Blk.cell h 0).trans rfl, (Blk.cell h 1).trans rfl, (Blk.cell h 2).trans rfl⟩
  · obtain rfl : (⟨0, c, d⟩ : Mr) = x := by simpa using hx
    exact ⟨⟨by simp, by simp⟩, h3, h4, w.heap.size, 0, rfl, (Blk.cell h 3).trans rfl, (Blk.cell h 4).trans rfl, (Blk.cell h 5).trans rfl⟩
  · simp at hx
theorem both_take {A : List Nat} (B : List Nat) {i : Nat} (h : i < A.length) : bothN (A.take (i + 1)) B = bothN (A.take i) B ++ B.filter fun b => decide (A[i] = b) := by
  unfold bothN
  rw [List.take_succ_eq_append_getElem h, List.flatMap_append]
  simp
theorem filter_take {B : List Nat} (a : Nat) {k : Nat} (h : k < B.length) : ((B.take (k + 1)).filter fun b => decide (a = b)) = ((B.take k).filter fun b => decide (a = b)) ++ if a = B[k] then [a] else [] := by
  rw [List.take_succ_eq_append_getElem h, List.filter_append]
  by_cases e : a = B[k]
  · simp [e]
  · simp [e]
def natC (l : List Nat) : List Value := (intsN l).map (Value.int .i64)
theorem natC_snoc (l : List Nat) (a : Nat) : natC l ++ [.int .i64 (a : Int)] = natC (l ++ [a]) := ints_cells_snoc l a
set_option maxRecDepth 100000 in
set_option maxHeartbeats 1000000 in
theorem IndexFits_walk {H : Type} {enc : TypeId × Value → H} {d1 d2 d3 : DataW H} {p1 p2 p3 : List MemPlace} (sa1 : Option Addr) (sl1 sc1 : Nat) (cs2 cs3 : Array Value) (W : World)
    (h1 : DataW.Trod enc Tryz.prog W 0 (fun _ => true) true 22 (.slice sa1 sl1 sc1) d1 p1) (_hz2 : cs2.size = Tryz.prog.cellsOf 37) (h2 : DataW.Trod enc Tryz.prog W 0 (fun _ => true) true 37 (.agg cs2) d2 p2)
    (_hz3 : cs3.size = Tryz.prog.cellsOf 37) (h3 : DataW.Trod enc Tryz.prog W 0 (fun _ => true) true 37 (.agg cs3) d3 p3) :
    Calls Tryz.prog 6 #[.slice sa1 sl1 sc1, .agg cs2, .agg cs3] W fun e w' => e = .returned (.bool true) ∧ Below W.heap.size W w' := by
  obtain ⟨_, h1⟩ := h1
  obtain ⟨L, hL⟩ := ents_of_trod h1
  obtain ⟨x1, x2, ex, lx1, lx2⟩ := label_of_trod h2
  obtain ⟨y1, y2, ey, ly1, ly2⟩ := label_of_trod h3
  rw [ex, ey]
  clear h1 h2 h3 _hz2 _hz3 ex ey
  have kx : Blk ((W.alloc (.cells #[.string (bs x1), .string (bs x2)] 37)).alloc (.cells #[.string (bs y1), .string (bs y2)] 37)) W.heap.size 37 #[.string (bs x1), .string (bs x2)] := (Blk.new W _ _).alloc _
  have ky : Blk ((W.alloc (.cells #[.string (bs x1), .string (bs x2)] 37)).alloc (.cells #[.string (bs y1), .string (bs y2)] 37)) (W.heap.size + 1) 37 #[.string (bs y1), .string (bs y2)] := by
    have := Blk.new (W.alloc (.cells #[.string (bs x1), .string (bs x2)] 37)) 37 #[.string (bs y1), .string (bs y2)]
    rw [World.size_alloc] at this
    exact this
  have b0 : Below W.heap.size W ((W.alloc (.cells #[.string (bs x1), .string (bs x2)] 37)).alloc (.cells #[.string (bs y1), .string (bs y2)] 37)) := ((Below.refl _ W).alloc (Nat.le_refl _) _).alloc (by simp) _
  have hL0 := hL.below b0
  have q0 := Lib.hid (works_any ((W.alloc (.cells #[.string (bs x1), .string (bs x2)] 37)).alloc (.cells #[.string (bs y1), .string (bs y2)] 37)))
  clear hL
  go_enter Tryz.func6, Tryz.ntmps6
  go_wp2_with fail
  generalize ((W.alloc (.cells #[.string (bs x1), .string (bs x2)] 37)).alloc (.cells #[.string (bs y1), .string (bs y2)] 37)) = W0 at *
  refine q0.out.mono ?_
  rintro e W1 ⟨rfl, b1⟩
  have hL1 := hL0.below b1
  have q1 := Lib.hid (few12_any hL1)
  have kx1 := Blk.below kx b1 kx.lt
  have ky1 := Blk.below ky b1 ky.lt
  have c1 := b0.trans (b1.mono b0.size)
  clear q0 hL0 kx ky b0 b1
  go_wp2_with fail
  refine q1.out.mono ?_
  rintro e W2 ⟨B1, rfl, b2, hf1⟩
  have HF1 := Lib.hid hf1
  clear hf1 q1
  have c2 := c1.trans (b2.mono c1.size)
  cases B1 with
  | false =>
    go_wp2_with fail
    go_ret
    exact ⟨rfl, c2⟩
  | true =>
    have hL2 := (hL1.below b2).at (HF1.out rfl)
    have kx2 := Blk.below kx1 b2 kx1.lt
    have ky2 := Blk.below ky1 b2 ky1.lt
    clear hL1 HF1 b2 kx1 ky1 c1
    have hln := hL2
    obtain ⟨_, _, e0, _, hLl, _⟩ := hln
    obtain ⟨rfl, rfl, rfl⟩ := Value.slice.inj e0
    clear e0
    have qv := Lib.hid (IValid_any L _ 3 W2 hL2 (by omega) (by omega))
    rcases (Classical.em (validI L 3 = 0)).symm with hv | hv
    · have f1 : (validI L 3 != 0) = true := by simpa using hv
      generalize validI L 3 = V at *
      clear hv
      go_wp2_with fail
      refine qv.out.mono ?_
      rintro e W3 ⟨rfl, b3⟩
      have c3 := c2.trans (b3.mono c2.size)
      go_wp2_with fail
      go_ret
      exact ⟨rfl, c3⟩
    · have hE : ∀ e ∈ L, checkE e.labels = 0 := fun e he => (right_parts ((valid_parts hv).2.2.2.2 e he).1).1
      have hL20 := (valid_parts hv).2.2.1
      rw [hv] at qv
      clear hv
      go_wp2_with fail
      refine qv.out.mono ?_
      rintro e W3 ⟨rfl, b3⟩
      have hL3 := hL2.below b3
      have kx3 := Blk.below kx2 b3 kx2.lt
      have ky3 := Blk.below ky2 b3 ky2.lt
      have c3 := c2.trans (b3.mono c2.size)
      clear qv hL2 kx2 ky2 c2 b3
      have ex1 := (Blk.cell kx3 0).trans (show _ = some (Value.string (bs x1)) from rfl)
      have ex2 := (Blk.cell kx3 1).trans (show _ = some (Value.string (bs x2)) from rfl)
      have ey1 := (Blk.cell ky3 0).trans (show _ = some (Value.string (bs y1)) from rfl)
      have ey2 := (Blk.cell ky3 1).trans (show _ = some (Value.string (bs y2)) from rfl)
      by_cases hx2 : x2 = []
      · subst hx2
        go_wp2_with fail
        go_ret
        exact ⟨rfl, c3⟩
      have fx : x2.isEmpty = false := by cases x2 with
        | nil => exact (hx2 rfl).elim
        | cons _ _ => rfl
      have fx' : (x2 == []) = false := by simpa using hx2
      by_cases hy2 : y2 = []
      · subst hy2
        clear hx2
        go_wp2_with fail
        go_ret
        exact ⟨rfl, c3⟩
      have fy : y2.isEmpty = false := by cases y2 with
        | nil => exact (hy2 rfl).elim
        | cons _ _ => rfl
      have fy' : (y2 == []) = false := by simpa using hy2
      have HBW := Lib.hid (both_who L (x1, x2) (y1, y2) hE hx2 hy2)
      simp only at HBW
      have hla := who_len L (x1, x2)
      have hlb := who_len L (y1, y2)
      have qa := Lib.hid (Postings_any L _ (x1, x2) W3 hL3)
      have qb := Lib.hid (fun W' h => Postings_any L (.slice sa1 L.length sc1) (y1, y2) W' h)
      simp only at qa qb
      clear hx2 hy2 hE
      generalize whoN L (x1, x2) = A at *
      generalize whoN L (y1, y2) = B at *
      go_wp2_with fail
      refine qa.out.mono ?_
      rintro e W4 ⟨av, rfl, hA4, b4⟩
      obtain ⟨aa, ac, hav, _⟩ := id hA4
      rw [intsN_len] at hav
      subst hav
      have hL4 := hL3.below b4
      have kx4 := Blk.below kx3 b4 kx3.lt
      have ky4 := Blk.below ky3 b4 ky3.lt
      have c4 := c3.trans (b4.mono c3.size)
      clear qa hL3 kx3 ky3 c3 b4 ex1 ex2 ey1 ey2
      have ey1 := (Blk.cell ky4 0).trans (show _ = some (Value.string (bs y1)) from rfl)
      have ey2 := (Blk.cell ky4 1).trans (show _ = some (Value.string (bs y2)) from rfl)
      go_wp2_with fail
      refine (qb.out _ hL4).mono ?_
      rintro e W5 ⟨bv, rfl, hB5, b5⟩
      obtain ⟨ba, bc, hbv, _⟩ := id hB5
      rw [intsN_len] at hbv
      subst hbv
      have hL5 := hL4.below b5
      have hA5 := hA4.below b5
      have kx5 := Blk.below kx4 b5 kx4.lt
      have ky5 := Blk.below ky4 b5 ky4.lt
      have c5 := c4.trans (b5.mono c4.size)
      clear qb hL4 hA4 kx4 ky4 c4 b5 ey1 ey2
      have ⟨i0, hin, hz0, hz1, hz2⟩ := info_parts (show (Tryz.prog.info? 3).map (fun i => (i.zero, i.size, i.bytes)) = some (some (.int .i64 0), 1, 8) by kernel_rfl)
      have r0 : W5.ownsRow W5.heap.size 3 1 (.slice none 0 0) (bothN (A.take 0) B).length (natC (bothN (A.take 0) B)) := World.ownsRow_nil _ _ _ _
      have hbl := both_len A B
      have hmul : A.length * B.length ≤ 400 := Nat.mul_le_mul (show A.length ≤ 20 by omega) (show B.length ≤ 20 by omega)
      have hbi : ∀ i, (bothN (A.take i) B).length ≤ 400 := fun i => by
        have h1 := both_len (A.take i) B
        have h2 : (A.take i).length ≤ 20 := by rw [List.length_take]; omega
        have h3 : (A.take i).length * B.length ≤ 400 := Nat.mul_le_mul h2 (show B.length ≤ 20 by omega)
        omega
      have HBI := Lib.hid hbi
      clear hbi hmul
      go_wp2_with fail
      go_loopw [11, 12] (fun vb vi wr => ∃ (i : Nat), i ≤ A.length ∧ vi = .int .i64 (i : Int) ∧ wr.ownsRow W5.heap.size 3 1 vb (bothN (A.take i) B).length (natC (bothN (A.take i) B)) ∧ Below W5.heap.size W5 wr) (fun _ vi _ => A.length - (intOf vi).toNat)
      case atStart => exact ⟨0, Nat.zero_le _, rfl, r0, Below.refl _ _⟩
      clear r0
      obtain ⟨i, hi, rfl, hu, hb⟩ := hrel
      obtain ⟨va, vc, rfl⟩ := row_form hu
      rcases (show i < A.length ∨ i = A.length by omega) with hil | hiN
      · obtain ⟨_, _, e1, _, _, _, hAx⟩ := id hA5
        obtain ⟨rfl, hdel, rfl⟩ := Value.slice.inj e1
        clear e1 hdel
        obtain ⟨ab, ao, rfl, da⟩ := hAx i (A[i] : Int) (by simp [intsN, hil])
        have HBT := Lib.hid (both_take B hil)
        have hPl := HBI.out i
        have hu0 : wr.ownsRow W5.heap.size 3 1 (.slice va (bothN (A.take i) B).length vc) (bothN (A.take i) B ++ (B.take 0).filter fun b => decide (A[i] = b)).length (natC (bothN (A.take i) B ++ (B.take 0).filter fun b => decide (A[i] = b))) := by
          rw [List.take_zero, List.filter_nil, List.append_nil]
          exact hu
        clear hAx
        generalize A[i] = a0 at *
        generalize bothN (A.take i) B = P at *
        go_wp2_with fail
        go_loopw [11, 13] (fun vb vk wr => ∃ (k : Nat), k ≤ B.length ∧ vk = .int .i64 (k : Int) ∧ wr.ownsRow W5.heap.size 3 1 vb (P ++ (B.take k).filter fun b => decide (a0 = b)).length (natC (P ++ (B.take k).filter fun b => decide (a0 = b))) ∧ Below W5.heap.size W5 wr) (fun _ vk _ => B.length - (intOf vk).toNat)
        case atStart => exact ⟨0, Nat.zero_le _, rfl, hu0, hb⟩
        clear hu hu0 hb
        obtain ⟨k, hk, rfl, hu, hb⟩ := hrel
        obtain ⟨va, vc, rfl⟩ := row_form hu
        have da' := (hb.cell (World.block_lt_of_cell? _ _ da)).trans da
        rcases (show k < B.length ∨ k = B.length by omega) with hkl | hkN
        · obtain ⟨_, _, e1, _, _, _, hBx⟩ := id hB5
          obtain ⟨rfl, hdel, rfl⟩ := Value.slice.inj e1
          clear e1 hdel
          obtain ⟨bb, bo, rfl, db⟩ := hBx k (B[k] : Int) (by simp [intsN, hkl])
          have db' := (hb.cell (World.block_lt_of_cell? _ _ db)).trans db
          have HFT := Lib.hid (filter_take a0 hkl)
          have hFl : ((B.take k).filter fun b => decide (a0 = b)).length ≤ 20 := by
            have h1 := List.length_filter_le (fun b => decide (a0 = b)) (B.take k)
            rw [List.length_take] at h1
            omega
          clear hBx db
          generalize B[k] = b0 at *
          generalize ((B.take k).filter fun b => decide (a0 = b)) = F at *
          by_cases hab : a0 = b0
          · subst hab
            have f1 : ((a0 : Int) == (a0 : Int)) = true := by simp
            have hFT := HFT.out
            rw [if_pos rfl] at hFT
            have HFT2 := Lib.hid hFT
            have hrl : (P ++ (F ++ [a0])).length = (P ++ F).length + 1 := by simp; omega
            have huN : ∀ n, (wr.drewN n).ownsRow W5.heap.size 3 1 (.slice va (P ++ F).length vc) (P ++ F).length (natC (P ++ F)) := fun n => hu
            have hbN : ∀ n, Below W5.heap.size W5 (wr.drewN n) := fun n => below_drewN hb n
            have hPF : (P ++ F).length ≤ 420 := by rw [List.length_append]; omega
            clear hFT HFT
            generalize (P ++ F).length = pf at *
            go_wp2_with fail
            go_quiet (fail)
            go_wp2_with (at_builtin; go_loud (refine wpList_append_own_at _ rfl _ _ 43 rfl W5.heap.size 3 i0 (.int .i64 0) 1 8 Tryz.underlying43 hin hz0 hz1 hz2 rfl (by decide) _ _ _ rfl (World.ownsRow.alloc (huN _) _) ⟨wr.heap.size, 0, none⟩ 1 1 [.int .i64 (a0 : Int)] rfl rfl (cells_new (wr.drewN _) [.int .i64 (a0 : Int)] 3 wr.heap.size rfl) (by simp [Value.oneCell']) (by unfold maxLen; omega) (by omega) (by simp; have := hb.size; omega) ?_; intro v' w9 hown' hgrow hnil2 hloc; obtain ⟨va', vc', rfl⟩ := row_form hown'; have hb9 : Below W5.heap.size W5 w9 := Kept.below (((Kept.of_below (S := fun _ => False) (hbN _)).trans (Kept.alloc _ _ _)).grow_row hgrow (fun k e => (hu.lt k e).1)) (Nat.le_refl _) (fun k e => e.elim)))
            go_roundw
            case rel =>
              refine ⟨k + 1, by omega, by go_num, ?_, hb9⟩
              rw [HFT2.out, hrl, ← List.append_assoc, ← natC_snoc]
              exact hown'
            case measure => simp [intOf]; omega
          · have f1 : ((a0 : Int) == (b0 : Int)) = false := by simpa using fun e => hab (by omega)
            have hFT := HFT.out
            rw [if_neg hab, List.append_nil] at hFT
            have HFT2 := Lib.hid hFT
            clear hFT HFT hab
            go_wp2_with fail
            go_quiet (fail)
            go_wp2
            go_roundw
            case rel => exact ⟨k + 1, by omega, by go_num, by rw [HFT2.out]; exact hu, below_drewN hb _⟩
            case measure => simp [intOf]; omega
        · subst hkN
          rw [List.take_length] at hu ⊢
          go_wp2_with fail
          go_roundw
          case rel => exact ⟨i + 1, by omega, by go_num, by rw [HBT.out]; exact hu, hb⟩
          case measure => simp [intOf]; omega
      · subst hiN
        rw [List.take_length] at hu ⊢
        have hQl : (bothN A B).length ≤ 400 := by have := HBI.out A.length; rwa [List.take_length] at this
        clear hbl HBI
        generalize bothN A B = Q at *
        have hL6 := hL5.below hb
        have kx6 := Blk.below kx5 hb kx5.lt
        have ky6 := Blk.below ky5 hb ky5.lt
        have c6 := c5.trans (hb.mono c5.size)
        have hI6 : IntsAt wr (.slice va Q.length vc) (intsN Q) := ints_of_own hu (intsN_len Q) (by rw [intsN_len]; omega) (fun x hx => by
          have h2 : ∀ q ∈ Q, q < 100000 := by
            rw [HBW.out]
            intro q hq
            have := List.mem_range.1 (List.mem_filter.1 hq).1
            rw [List.length_map] at this
            omega
          unfold intsN at hx
          obtain ⟨q, hq, rfl⟩ := List.mem_map.1 hx
          have := h2 q hq
          omega)
        clear hL5 kx5 ky5 c5 hu hb hA5 hB5
        have b7 := one_alloc wr (.cells #[.int .i64 0, .string (bs x1), .string (bs x2), .int .i64 0, .string (bs y1), .string (bs y2)] 55)
        have hL7 := hL6.below b7
        have hI7 := hI6.below b7
        have c7 := c6.trans (b7.mono c6.size)
        have hMt := mats_two wr x1 x2 y1 y2 lx1 lx2 ly1 ly2
        have ex1 := (Blk.cell kx6 0).trans (show _ = some (Value.string (bs x1)) from rfl)
        have ex2 := (Blk.cell kx6 1).trans (show _ = some (Value.string (bs x2)) from rfl)
        have ey1 := (Blk.cell ky6 0).trans (show _ = some (Value.string (bs y1)) from rfl)
        have ey2 := (Blk.cell ky6 1).trans (show _ = some (Value.string (bs y2)) from rfl)
        have ⟨j0, jin, jz0, jz1, jz2⟩ := info_parts (show (Tryz.prog.info? 57).map (fun i => (i.zero, i.size, i.bytes)) = some (some (.slice none 0 0), 1, 24) by kernel_rfl)
        clear hL6 hI6 b7 c6 hin hz0 hz1 hz2
        go_wp2_with fail
        generalize wr.alloc (.cells #[.int .i64 0, .string (bs x1), .string (bs x2), .int .i64 0, .string (bs y1), .string (bs y2)] 55) = W7 at *
        generalize wr.heap.size = gm at *
        have r0 : W7.ownsRow W7.heap.size 57 1 (.slice none 0 0) 0 [] := World.ownsRow_nil _ _ _ _
        clear ex1 ex2 ey1 ey2 kx6 ky6
        go_loopw [15, 16] (fun vo vi wr => ∃ (i : Nat) (vs : List Value), i ≤ L.length ∧ vi = .int .i64 (i : Int) ∧ wr.ownsRow W7.heap.size 57 1 vo i vs ∧ Hid (LabVals W7 vs (L.take i)) ∧ Below W7.heap.size W7 wr) (fun _ vi _ => L.length - (intOf vi).toNat)
        case atStart => exact ⟨0, [], Nat.zero_le _, rfl, r0, Lib.hid (labVals_nil W7), Below.refl _ _⟩
        clear r0
        obtain ⟨i, vs, hi, rfl, hrow, HV, hb⟩ := hrel
        obtain ⟨sa, sc, rfl⟩ := row_form hrow
        rcases (show i < L.length ∨ i = L.length by omega) with hil | hiN
        · obtain ⟨_, _, e1, _, _, _, hLx⟩ := id hL7
          obtain ⟨rfl, _, rfl⟩ := Value.slice.inj e1
          clear e1
          obtain ⟨_, b, o, rfl, a', c', d0, hLab, _⟩ := hLx i L[i] (List.getElem?_eq_getElem hil)
          have e0 := (hb.cell (World.block_lt_of_cell? _ _ d0)).trans d0
          have HV2 := Lib.hid (labVals_snoc HV.out hLab)
          rw [← List.take_succ_eq_append_getElem hil] at HV2
          clear d0 hLab HV hLx
          generalize L[i] = x at *
          go_wp2_with (at_builtin; go_loud (refine wpList_append_own_at _ rfl _ _ 56 rfl W7.heap.size 57 j0 (.slice none 0 0) 1 24 Tryz.underlying56 jin jz0 jz1 jz2 rfl (by decide) _ _ _ rfl (World.ownsRow.alloc hrow _) ⟨wr.heap.size, 0, none⟩ 1 1 [.slice a' x.labels.length c'] rfl rfl (cells_new wr [.slice a' x.labels.length c'] 57 wr.heap.size rfl) (by simp [Value.oneCell']) (by unfold maxLen; omega) (by omega) (by simp; have := hb.size; omega) ?_; intro v' w9 hown' hgrow hnil2 hloc; obtain ⟨va', vc', rfl⟩ := row_form hown'; have hb9 : Below W7.heap.size W7 w9 := Kept.below (((Kept.of_below (S := fun _ => False) hb).trans (Kept.alloc _ _ _)).grow_row hgrow (fun k e => (hrow.lt k e).1)) (Nat.le_refl _) (fun k e => e.elim)))
          go_roundw
          case rel => first
            | exact ⟨i + 1, vs ++ [.slice a' x.labels.length c'], by omega, by go_num, hown', HV2, hb9⟩
            | exact ⟨i + 1, vs ++ [.slice a' x.labels.length c'], by omega, by go_num, hown', HV2.out.1, HV2.out.2, hb9⟩
            | exact ⟨i + 1, vs ++ [.slice a' x.labels.length c'], by omega, by go_num, hown', HV2.out, hb9⟩
          case measure => simp [intOf]; omega
        · subst hiN
          have hV := HV.out
          rw [List.take_length] at hV
          have hLL := LLAt.of hrow rfl hV hb hLl
          have hL8 := hL7.below hb
          have hI8 := hI7.below hb
          have hM8 := hMt.below hb
          have c8 := c7.trans (hb.mono c7.size)
          clear HV hV hL7 hI7 hMt c7 hb hrow
          have qk := Lib.hid (Ask_any L _ _ _ wr hL8 hM8)
          rw [← HBW.out] at qk
          go_wp2_with fail
          refine qk.out.mono ?_
          rintro e W9 ⟨rv, rfl, hI9, b9⟩
          have qr := Lib.hid (Row_any hI9 (hI8.below b9))
          obtain ⟨ra, rc, hrv, _⟩ := id hI9
          rw [intsN_len] at hrv
          subst hrv
          have c9 := c8.trans (b9.mono c8.size)
          rw [show decide (intsN Q = intsN Q) = true by simp] at qr
          clear qk hL8
          go_wp2_with fail
          refine qr.out.mono ?_
          rintro e W10 ⟨rfl, b10⟩
          have c10 := c9.trans (b10.mono c9.size)
          have b810 := b9.trans (b10.mono b9.size)
          have hI10 := hI8.below b810
          have qs := Lib.hid (Select_any _ _ _ _ W10 (hM8.below b810) (hLL.below b810))
          rw [show selN [⟨0, x1, x2⟩, ⟨0, y1, y2⟩] (L.map (·.labels)) = Q from HBW.out.symm] at qs
          clear qr hI9 hI8 hM8 hLL b9 b10 b810 c8 c9
          go_wp2_with fail
          refine qs.out.mono ?_
          rintro e W11 ⟨tv, rfl, hI11, b11⟩
          have qr := Lib.hid (Row_any hI11 (hI10.below b11))
          rw [show decide (intsN Q = intsN Q) = true by simp] at qr
          obtain ⟨ta, tc, htv, _⟩ := id hI11
          rw [intsN_len] at htv
          subst htv
          have c11 := c10.trans (b11.mono c10.size)
          clear qs hI11 hI10 b11 c10
          go_wp2_with fail
          refine qr.out.mono ?_
          rintro e W12 ⟨rfl, b12⟩
          have c12 := c11.trans (b12.mono c11.size)
          clear qr b12 c11
          go_wp2_with fail
          go_ret
          exact ⟨rfl, c12⟩
end Go.Proofs.YtpeahjocimhneaaGreatDoor
