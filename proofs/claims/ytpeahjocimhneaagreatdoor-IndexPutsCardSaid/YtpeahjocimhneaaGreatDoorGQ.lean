/- The document's order of texts, and its look-up of a label: the walks of ref06.Ahead and ref06.Get. Who has a label, as the document has it; are two rows of texts the same: the walks of ref12.Postings and ref10.Texts. All texts in order, as the document has them: the walks of ref12.with and ref12.Symbols. All names and values, as the document has them: the plain law, and the walk of ref12.Symbols. Entries as the document has them: the walk of Of. -/
import Derived.Test.YtpeahjocimhneaaGreatDoorGG
import Derived.Test.YtpeahjocimhneaaGreatDoorGC
import Derived.Test.YtpeahjocimhneaaGreatDoorGF
import Derived.Test.YtpeahjocimhneaaGreatDoorGJ
import Derived.Test.YtpeahjocimhneaaGreatDoorGL
import Derived.Test.YtpeahjocimhneaaGreatDoorGD
namespace Go.Proofs.YtpeahjocimhneaaGreatDoor
open Go.RowKit Go.Maps Go.WideMaps
attribute [local go_sem] bs_toList bs_size

theorem bl_same (x : UInt8) (l m : List UInt8) : Op.bytesLess (x :: l) (x :: m) = Op.bytesLess l m := by
  conv => lhs; unfold Op.bytesLess
  simp
theorem bl_other {x y : UInt8} (h : x ≠ y) (l m : List UInt8) : Op.bytesLess (x :: l) (y :: m) = decide (x.toNat < y.toNat) := by
  conv => lhs; unfold Op.bytesLess
  rw [Bool.eq_iff_iff]
  simp only [Bool.or_eq_true, Bool.and_eq_true, decide_eq_true_eq, beq_iff_eq, h, false_and, or_false]
  exact Iff.rfl
theorem bl_ends (l m : List UInt8) (h : l = [] ∨ m = []) : Op.bytesLess l m = decide (l.length < m.length) := by
  rcases h with rfl | rfl
  · cases m <;> simp [Op.bytesLess]
  · cases l <;> simp [Op.bytesLess]
set_option maxRecDepth 100000 in
set_option maxHeartbeats 1000000 in
theorem Ahead_any (s t : List UInt8) (w : World) (hs : s.length ≤ 1099511627776) :
    Calls Tryz.prog 37 #[.string (bs s), .string (bs t)] w fun e w' => e = .returned (.bool (Op.bytesLess s t)) ∧ Below w.heap.size w w' := by
  have HI1 := Lib.hid (fun (i : Nat) b (h : s[i]? = some b) k W => run_index_bs (P := Tryz.prog) 9 Tryz.underlying9 s i b h k W)
  have HI2 := Lib.hid (fun (i : Nat) b (h : t[i]? = some b) k W => run_index_bs (P := Tryz.prog) 9 Tryz.underlying9 t i b h k W)
  have hz1 := bs_size s
  have hz2 := bs_size t
  have H0 := Lib.hid (show Op.bytesLess s t = Op.bytesLess (s.drop 0) (t.drop 0) from rfl)
  generalize Op.bytesLess s t = R at *
  go_enter Tryz.func37, Tryz.ntmps37
  go_wp2_with fail
  go_loopw [5] (fun vi wr => ∃ k : Nat, k ≤ s.length ∧ k ≤ t.length ∧ vi = .int .i64 (k : Int) ∧ Hid (R = Op.bytesLess (s.drop k) (t.drop k)) ∧ Below w.heap.size w wr) (fun vi _ => s.length - (intOf vi).toNat)
  case atStart => exact ⟨0, Nat.zero_le _, Nat.zero_le _, rfl, H0, Below.refl _ _⟩
  clear H0
  obtain ⟨k, hk1, hk2, rfl, HR, hb⟩ := hrel
  by_cases h1 : k < s.length
  · by_cases h2 : k < t.length
    · have j1 := HI1.out k s[k] (List.getElem?_eq_getElem h1)
      have j2 := HI2.out k t[k] (List.getElem?_eq_getElem h2)
      by_cases he : s[k] = t[k]
      · have HC := Lib.hid (show R = Op.bytesLess (s.drop (k + 1)) (t.drop (k + 1)) by
          rw [HR.out, List.drop_eq_getElem_cons h1, List.drop_eq_getElem_cons h2, he, bl_same])
        rw [← he] at j2
        generalize s[k] = x at *
        have f2 : ((x.toNat : Int) == (x.toNat : Int)) = true := by simp
        have f2' : ((x.toNat : Int) != (x.toNat : Int)) = false := by simp
        clear HI1 HI2 he HR
        go_wp2_with fail
        go_quiet (fail)
        go_wp2_with fail
        go_roundw
        case rel => exact ⟨k + 1, by omega, by omega, by go_num, HC, below_drewN hb _⟩
        case measure => simp [intOf]; omega
      · have HC := Lib.hid (show R = decide (s[k].toNat < t[k].toNat) by
          rw [HR.out, List.drop_eq_getElem_cons h1, List.drop_eq_getElem_cons h2, bl_other he])
        have hne : s[k].toNat ≠ t[k].toNat := fun e => he (UInt8.toNat_inj.1 e)
        generalize s[k] = x at *
        generalize t[k] = y at *
        have f2 : ((x.toNat : Int) == (y.toNat : Int)) = false := by simp; omega
        have f2' : ((x.toNat : Int) != (y.toNat : Int)) = true := by simp; omega
        clear HI1 HI2 he HR hne
        by_cases hlt : x.toNat < y.toNat
        · have f3 : decide (x.toNat < y.toNat) = true := by simpa using hlt
          have f3' : decide ((x.toNat : Int) < (y.toNat : Int)) = true := by simp; omega
          rw [f3] at HC
          clear hlt
          go_wp2_with fail
          go_quiet (fail)
          go_wp2_with fail
          go_quiet (fail)
          go_wp2_with fail
          go_ret
          exact ⟨by rw [HC.out]; rfl, below_drewN (below_drewN hb _) _⟩
        · have f3 : decide (x.toNat < y.toNat) = false := by simpa using hlt
          have f3' : decide ((x.toNat : Int) < (y.toNat : Int)) = false := by simp; omega
          rw [f3] at HC
          clear hlt
          go_wp2_with fail
          go_quiet (fail)
          go_wp2_with fail
          go_quiet (fail)
          go_wp2_with fail
          go_ret
          exact ⟨by rw [HC.out]; rfl, below_drewN (below_drewN hb _) _⟩
    · have HC := Lib.hid (show R = false by
        rw [HR.out, bl_ends _ _ (.inr (List.drop_of_length_le (by omega)))]
        simp
        omega)
      have f1 : decide ((s.length : Int) < (t.length : Int)) = false := by simp; omega
      have f1' : decide (s.length < t.length) = false := by simp; omega
      clear HI1 HI2 HR
      go_wp2_with fail
      go_ret
      exact ⟨by rw [HC.out]; rfl, hb⟩
  · have HC := Lib.hid (show R = decide (s.length < t.length) by
      rw [HR.out, bl_ends _ _ (.inl (List.drop_of_length_le (by omega)))]
      simp only [List.length_drop]
      congr 1
      simp only [eq_iff_iff]
      omega)
    by_cases hlt : s.length < t.length
    · have f1 : decide ((s.length : Int) < (t.length : Int)) = true := by simp; omega
      have f1' : decide (s.length < t.length) = true := by simp; omega
      rw [f1'] at HC
      clear HI1 HI2 HR
      go_wp2_with fail
      go_ret
      exact ⟨by rw [HC.out]; rfl, hb⟩
    · have f1 : decide ((s.length : Int) < (t.length : Int)) = false := by simp; omega
      have f1' : decide (s.length < t.length) = false := by simp; omega
      rw [f1'] at HC
      clear HI1 HI2 HR
      go_wp2_with fail
      go_ret
      exact ⟨by rw [HC.out]; rfl, hb⟩
set_option maxRecDepth 100000 in
set_option maxHeartbeats 1000000 in
theorem RGet_any (L : List Lb) (v : Value) (n : List UInt8) (w : World) (h : LabsAt w v L) :
    Calls Tryz.prog 120 #[v, .string (bs n)] w fun e w' => e = .returned (.string (bs (getL L n))) ∧ Below w.heap.size w w' := by
  obtain ⟨a, c, rfl, hl, hx⟩ := h
  have HX := Lib.hid hx
  clear hx
  have HAT := Lib.hid (fun i (h : i < L.length) => getL_at (n := n) h)
  have H0 := Lib.hid (show getL L n = getL (L.drop 0) n from rfl)
  generalize getL L n = R at *
  go_enter Tryz.func120, Tryz.ntmps120
  go_wp2_with fail
  go_loopw [5] (fun vi wr => ∃ i : Nat, i ≤ L.length ∧ vi = .int .i64 (i : Int) ∧ Below w.heap.size w wr ∧ Hid (R = getL (L.drop i) n)) (fun vi _ => L.length - (intOf vi).toNat)
  case atStart => exact ⟨0, Nat.zero_le _, rfl, Below.refl _ _, H0⟩
  clear H0
  obtain ⟨i, hi, rfl, hb, HR⟩ := hrel
  rcases (show i < L.length ∨ i = L.length by omega) with hil | hiN
  · obtain ⟨h1, h2, b, o, rfl, d0, d1⟩ := HX.out i L[i] (List.getElem?_eq_getElem hil)
    have e0 := (hb.cell (World.block_lt_of_cell? _ _ d0)).trans d0
    have e1 := (hb.cell (World.block_lt_of_cell? _ _ d1)).trans d1
    have HA := HAT.out i hil
    rw [HA] at HR
    clear d0 d1 HA HAT
    generalize L[i] = y at *
    by_cases hn : y.1 = n
    · have HR2 := Lib.hid (show R = y.2 by rw [HR.out, if_pos hn])
      have f1 : (y.1 == n) = true := by simpa using hn
      clear HR hn
      go_wp2_with fail
      go_ret
      exact ⟨by rw [HR2.out]; rfl, hb⟩
    · have HR2 := Lib.hid (show R = getL (L.drop (i + 1)) n by rw [HR.out, if_neg hn])
      have f1 : (y.1 == n) = false := by simpa using hn
      clear HR hn
      go_wp2_with fail
      go_roundw
      case rel => exact ⟨i + 1, by omega, by go_num, hb, HR2⟩
      case measure => simp [intOf]; omega
  · subst hiN
    have HR2 := Lib.hid (show R = [] by rw [HR.out, List.drop_length]; rfl)
    go_wp2_with fail
    go_ret
    exact ⟨by rw [HR2.out]; rfl, hb⟩
end Go.Proofs.YtpeahjocimhneaaGreatDoor
namespace Go.Proofs.YtpeahjocimhneaaGreatDoor
open Go.RowKit Go.Maps Go.WideMaps
attribute [local go_sem] bs_toList bs_size

set_option maxRecDepth 100000 in
set_option maxHeartbeats 1000000 in
theorem TextsAt_any {w : World} {v1 v2 : Value} {a b : List (List UInt8)} (h1 : StrsAt w v1 a) (h2 : StrsAt w v2 b) :
    Calls Tryz.prog 23 #[v1, v2] w fun e w' => e = .returned (.bool (decide (a = b))) ∧ Below w.heap.size w w' := by
  obtain ⟨s1, c1, rfl, _, l1, x1⟩ := h1
  obtain ⟨s2, c2, rfl, _, l2, x2⟩ := h2
  by_cases hlen : a.length = b.length
  · rw [← hlen]
    generalize hna : a.length = n at *
    have hnA := Lib.hid hna
    have hnB := Lib.hid hlen
    clear hna hlen l2
    go_enter Tryz.func23, Tryz.ntmps23
    go_wp2_with fail
    go_loopw [5] (fun i wr => ∃ j : Nat, j ≤ n ∧ i = .int .i64 (j : Int) ∧ a.take j = b.take j ∧ Below w.heap.size w wr) (fun i _ => n - (intOf i).toNat)
    case atStart => exact ⟨0, Nat.zero_le _, rfl, rfl, Below.refl _ _⟩
    case round =>
      obtain ⟨j, hj, rfl, hpre, hbw⟩ := hrel
      by_cases hjn : j < n
      · have hja : j < a.length := by rw [hnA.out]; exact hjn
        obtain ⟨_, b1, o1, rfl, d1⟩ := x1 j a[j] (List.getElem?_eq_getElem hja)
        have hjb : j < b.length := by rw [← hnB.out]; exact hjn
        obtain ⟨_, b2, o2, rfl, d2⟩ := x2 j b[j] (List.getElem?_eq_getElem hjb)
        have g1 := (Below.cell hbw (World.block_lt_of_cell? _ _ d1)).trans d1
        have g2 := (Below.cell hbw (World.block_lt_of_cell? _ _ d2)).trans d2
        have hta : a.take (j + 1) = a.take j ++ [a[j]] := by rw [List.take_succ_eq_append_getElem hja]
        have htb : b.take (j + 1) = b.take j ++ [b[j]] := by rw [List.take_succ_eq_append_getElem hjb]
        by_cases hx : a[j] = b[j]
        · have hnext := Lib.hid (show a.take (j + 1) = b.take (j + 1) by rw [hta, htb, hpre, hx])
          rw [← hx] at g2
          clear hta htb hpre hx d1 d2 x1 x2
          generalize a[j] = y at *
          go_wp2_with fail
          go_quiet (fail)
          go_wp2
          go_roundw
          case rel => exact ⟨j + 1, by omega, by go_num, hnext.out, below_drewN hbw _⟩
          case measure => simp [intOf]; omega
        · have hd : decide (a = b) = false := by
            simp only [decide_eq_false_iff_not]
            intro e
            subst e
            exact hx rfl
          have hne : (a[j] == b[j]) = false := by simpa using hx
          have HD := Lib.hid hd
          clear hd
          clear hta htb hpre hx d1 d2 x1 x2
          generalize a[j] = y at *
          generalize b[j] = z at *
          go_wp2_with fail
          go_quiet (fail)
          go_wp2
          go_ret
          exact ⟨by rw [HD.out]; rfl, below_drewN hbw _⟩
      · have hab : a = b := by
          rw [List.take_of_length_le (by rw [hnA.out]; omega), List.take_of_length_le (by rw [← hnB.out]; omega)] at hpre
          exact hpre
        have hd : decide (a = b) = true := by simpa using hab
        have HD := Lib.hid hd
        clear hd hab hpre
        go_wp2
        go_ret
        exact ⟨by rw [HD.out]; rfl, hbw⟩
  · have hne : ((a.length : Int) == (b.length : Int)) = false := by simp; omega
    have hd : decide (a = b) = false := by
      simp only [decide_eq_false_iff_not]
      intro e
      exact hlen (by rw [e])
    rw [hd]
    go_enter Tryz.func23, Tryz.ntmps23
    go_wp2
    go_ret
    exact ⟨rfl, Below.refl _ _⟩

theorem mem_snoc (L : List Lb) (y : Lb) {k : Nat} (h : k < L.length) : decide (y ∈ L.take (k + 1)) = (decide (y ∈ L.take k) || decide (L[k] = y)) := by
  rw [List.take_succ_eq_append_getElem h, Bool.eq_iff_iff]
  simp only [decide_eq_true_eq, Bool.or_eq_true, List.mem_append, List.mem_singleton]
  exact or_congr Iff.rfl eq_comm
theorem who_step (E : List En) (y : Lb) {i : Nat} (h : i < E.length) : (List.range (i + 1)).filter (hasI E y) = (List.range i).filter (hasI E y) ++ if decide (y ∈ E[i].labels) then [i] else [] := by
  rw [who_snoc]
  have : hasI E y i = decide (y ∈ E[i].labels) := by
    unfold hasI
    simp [List.getD_eq_getElem?_getD, h]
  rw [this]
set_option maxRecDepth 100000 in
set_option maxHeartbeats 2000000 in
theorem RPostings_any (E : List En) (v : Value) (y : Lb) (w : World) (h : EntsAt w v E) :
    Calls Tryz.prog 25 #[v, .agg #[.string (bs y.1), .string (bs y.2)]] w fun e w' => ∃ pv, e = .returned pv ∧ IntsAt w' pv (intsN (whoN E y)) ∧ Below w.heap.size w w' := by
  obtain ⟨a, c, rfl, hnil, hl, hlc, hx⟩ := id h
  have HX := Lib.hid hx
  have HAT := Lib.hid (fun i (h : i < E.length) => who_step E y h)
  have HFL := Lib.hid (fun i => filter_range_len (hasI E y) i)
  have ⟨i0, hin, hz0, hz1, hz2⟩ := info_parts (show (Tryz.prog.info? 3).map (fun i => (i.zero, i.size, i.bytes)) = some (some (.int .i64 0), 1, 8) by kernel_rfl)
  have b0 := one_alloc w (.cells #[.string (bs y.1), .string (bs y.2)] 37)
  have k0 := Blk.new w 37 #[.string (bs y.1), .string (bs y.2)]
  have r0 : (w.alloc (.cells #[.string (bs y.1), .string (bs y.2)] 37)).ownsRow (w.heap.size + 1) 3 1 (.slice none 0 0) ((List.range 0).filter (hasI E y)).length ((intsN ((List.range 0).filter (hasI E y))).map (Value.int .i64)) := World.ownsRow_nil _ _ _ _
  clear hx
  obtain ⟨y1, y2⟩ := y
  simp only at b0 k0 r0 ⊢
  go_enter Tryz.func25, Tryz.ntmps25
  go_wp2_with fail
  go_loopw [5, 6] (fun vo vi wr => ∃ i : Nat, i ≤ E.length ∧ vi = .int .i64 (i : Int) ∧ wr.ownsRow (w.heap.size + 1) 3 1 vo ((List.range i).filter (hasI E (y1, y2))).length ((intsN ((List.range i).filter (hasI E (y1, y2)))).map (Value.int .i64)) ∧ Blk wr w.heap.size 37 #[.string (bs y1), .string (bs y2)] ∧ Below w.heap.size w wr) (fun _ vi _ => E.length - (intOf vi).toNat)
  case atStart => exact ⟨0, Nat.zero_le _, rfl, r0, k0, b0⟩
  clear r0 k0 b0
  obtain ⟨i, hi, rfl, hu, kx, hb⟩ := hrel
  obtain ⟨sa, sc, rfl⟩ := row_form hu
  rcases (show i < E.length ∨ i = E.length by omega) with hil | hiN
  · obtain ⟨_, b, o, rfl, a', c', d0, hLab, _⟩ := HX.out i E[i] (List.getElem?_eq_getElem hil)
    have HA := Lib.hid (HAT.out i hil)
    have hFl := HFL.out i
    have hLab := Lib.hid hLab
    clear HAT HX
    generalize E[i] = x at *
    generalize (List.range i).filter (hasI E (y1, y2)) = F at *
    have e0 := (hb.cell (World.block_lt_of_cell? _ _ d0)).trans d0
    go_wp2_with fail
    go_loopw [7, 8] (fun vh vk wr => ∃ k : Nat, k ≤ x.labels.length ∧ vk = .int .i64 (k : Int) ∧ vh = .bool (decide ((y1, y2) ∈ x.labels.take k)) ∧ wr.ownsRow (w.heap.size + 1) 3 1 (.slice sa F.length sc) F.length ((intsN F).map (Value.int .i64)) ∧ Blk wr w.heap.size 37 #[.string (bs y1), .string (bs y2)] ∧ Below w.heap.size w wr) (fun _ vk _ => x.labels.length - (intOf vk).toNat)
    case atStart => exact ⟨0, Nat.zero_le _, rfl, by simp, hu, kx, hb⟩
    clear hu kx hb e0
    obtain ⟨k, hk, rfl, rfl, hu, kx, hb⟩ := hrel
    have e0 := (hb.cell (World.block_lt_of_cell? _ _ d0)).trans d0
    rcases (show k < x.labels.length ∨ k = x.labels.length by omega) with hkl | hkN
    · obtain ⟨_, _, e1, _, hLx⟩ := hLab.out
      obtain ⟨rfl, _, rfl⟩ := Value.slice.inj e1
      clear e1
      obtain ⟨_, _, yb, yo, rfl, dn, dv⟩ := hLx k x.labels[k] (List.getElem?_eq_getElem hkl)
      have dn' := (hb.cell (World.block_lt_of_cell? _ _ dn)).trans dn
      have dv' := (hb.cell (World.block_lt_of_cell? _ _ dv)).trans dv
      have HS := Lib.hid (mem_snoc x.labels (y1, y2) hkl)
      have hq := fun W => eqLb_run x.labels[k] (y1, y2) W
      unfold encLb at hq
      simp only at hq
      have g0 := (Blk.cell kx 0).trans (show _ = some (Value.string (bs y1)) from rfl)
      have g1 := (Blk.cell kx 1).trans (show _ = some (Value.string (bs y2)) from rfl)
      clear hLx dn dv
      have hbe : (x.labels[k].1 == y1 && x.labels[k].2 == y2) = decide (x.labels[k] = (y1, y2)) := lb_eq x.labels[k] (y1, y2)
      generalize decide (x.labels[k] = (y1, y2)) = eq at *
      generalize x.labels[k] = z at *
      generalize decide ((y1, y2) ∈ x.labels.take k) = bH at *
      have HBE := Lib.hid hbe
      clear hbe
      cases bH with
      | true =>
        go_wp2_with fail
        go_quiet (fail)
        go_wp2_with fail
        go_roundw
        case rel => exact ⟨k + 1, by omega, by go_num, by rw [HS.out]; rfl, hu, kx, below_drewN hb _⟩
        case measure => simp [intOf]; omega
      | false =>
        go_wp2_with fail
        go_quiet (fail)
        go_wp2_with fail
        go_roundw
        case rel => exact ⟨k + 1, by omega, by go_num, by rw [HS.out]; simp, hu, kx, below_drewN hb _⟩
        case measure => simp [intOf]; omega
    · subst hkN
      have HT := Lib.hid (show decide ((y1, y2) ∈ x.labels.take x.labels.length) = decide ((y1, y2) ∈ x.labels) by rw [List.take_length])
      rw [HT.out]
      clear HT
      generalize decide ((y1, y2) ∈ x.labels) = f at *
      cases f with
      | false =>
        go_wp2_with fail
        go_roundw
        case rel => exact ⟨i + 1, by omega, by go_num, by rw [HA.out]; simpa using hu, kx, hb⟩
        case measure => simp [intOf]; omega
      | true =>
        have hbs := hb.size
        have hwl := kx.lt
        go_wp2_with (at_builtin; go_loud (refine wpList_append_own_at _ rfl _ _ 43 rfl (w.heap.size + 1) 3 i0 (.int .i64 0) 1 8 Tryz.underlying43 hin hz0 hz1 hz2 rfl (by decide) _ _ _ rfl (World.ownsRow.alloc hu _) ⟨wr.heap.size, 0, none⟩ 1 1 [.int .i64 (i : Int)] rfl rfl (cells_new wr [.int .i64 (i : Int)] 3 wr.heap.size rfl) (by simp [Value.oneCell']) (by unfold maxLen; omega) (by omega) (by simp; omega) ?_; intro v' w9 hown' hgrow hnil2 hloc; obtain ⟨va', vc', rfl⟩ := row_form hown'; have hb9 : Below w.heap.size w w9 := Kept.below (((Kept.of_below (S := fun _ => False) hb).trans (Kept.alloc _ _ _)).grow_row hgrow (fun k e => Nat.le_of_succ_le (hu.lt k e).1)) (Nat.le_refl _) (fun k e => e.elim); have kx9 := Blk.grown (Blk.alloc kx _) hgrow (fun e => by have := (hu.lt _ e.symm).1; omega)))
        go_roundw
        case rel =>
          refine ⟨i + 1, by omega, by go_num, ?_, kx9, hb9⟩
          rw [HA.out, if_pos rfl, List.length_append, ← ints_cells_snoc]
          exact hown'
        case measure => simp [intOf]; omega
  · subst hiN
    have hFl := HFL.out E.length
    have hI : IntsAt wr _ (intsN (whoN E (y1, y2))) := ints_of_own hu (intsN_len _) (by rw [intsN_len]; unfold whoN; omega) (intsN_bd (n := E.length) (by omega) (fun x hx => List.mem_range.1 (List.mem_filter.1 hx).1))
    go_wp2_with fail
    go_ret
    exact ⟨_, rfl, hI, hb⟩
end Go.Proofs.YtpeahjocimhneaaGreatDoor
namespace Go.Proofs.YtpeahjocimhneaaGreatDoor
open Go.RowKit Go.Maps Go.WideMaps
attribute [local go_sem] bs_toList bs_size

/-- Texts with one more, in order, each once. -/
def atL (S : List (List UInt8)) (s : List UInt8) : Nat := (S.takeWhile fun x => Op.bytesLess x s).length
def insL (S : List (List UInt8)) (s : List UInt8) : List (List UInt8) := if S[atL S s]? = some s then S else S.take (atL S s) ++ ([s] ++ S.drop (atL S s))
theorem atL_is : ∀ (S : List (List UInt8)) (s : List UInt8) (k : Nat), k ≤ S.length → (∀ x ∈ S.take k, Op.bytesLess x s = true) → (∀ x, S[k]? = some x → Op.bytesLess x s = false) → atL S s = k
  | [], s, k, h, _, _ => by simp at h; subst h; rfl
  | x :: S, s, 0, _, _, h2 => by
    have := h2 x rfl
    unfold atL
    rw [List.takeWhile_cons, this]
    rfl
  | x :: S, s, k + 1, h, h1, h2 => by
    have hx := h1 x (by simp)
    have ih := atL_is S s k (by simpa using h) (fun y hy => h1 y (by simp [hy])) (fun y hy => h2 y (by simpa using hy))
    unfold atL at ih ⊢
    rw [List.takeWhile_cons, hx]
    simp [ih]
theorem strC_take (S : List (List UInt8)) (k : Nat) : strC (S.take k) = (strC S).take k := by unfold strC; rw [List.map_take]
theorem strC_drop (S : List (List UInt8)) (k : Nat) : strC (S.drop k) = (strC S).drop k := by unfold strC; rw [List.map_drop]
theorem strC_len (S : List (List UInt8)) : (strC S).length = S.length := by unfold strC; rw [List.length_map]
theorem strC_one (S : List (List UInt8)) : ∀ u ∈ strC S, u.oneCell' = true := fun u hu => by
  unfold strC at hu
  obtain ⟨s, _, rfl⟩ := List.mem_map.1 hu
  rfl
theorem strs_cells {w : World} {b o c : Nat} {S : List (List UInt8)} (h : StrsAt w (.slice (some ⟨b, o, none⟩) S.length c) S) : ∀ j u, (strC S)[j]? = some u → w.cell? ⟨b, o + j, none⟩ = some u := fun j u hu => by
  obtain ⟨_, _, e, _, _, hx⟩ := h
  unfold strC at hu
  rw [List.getElem?_map] at hu
  cases hs : S[j]? with
  | none => rw [hs] at hu; cases hu
  | some s =>
    rw [hs] at hu
    obtain rfl : Value.string (bs s) = u := by simpa using hu
    obtain ⟨_, b', o', e', h'⟩ := hx j s hs
    obtain ⟨rfl, _, rfl⟩ := Value.slice.inj e
    have := Option.some.inj e'
    simp only [Addr.mk.injEq] at this
    obtain ⟨rfl, rfl, _⟩ := this
    exact h'
theorem add_o (b o j : Nat) : (⟨b, o, none⟩ : Addr).add j = ⟨b, o + j, none⟩ := by unfold Addr.add; split <;> simp_all
set_option maxRecDepth 100000 in
set_option maxHeartbeats 1000000 in
theorem with_any (S : List (List UInt8)) (v : Value) (s : List UInt8) (w : World) (h : StrsAt w v S) (hv : S = [] → v = .slice none 0 0) (hcap : ∀ a n c, v = .slice a n c → n ≤ c) (hn : S.length ≤ 10000) (hs : s.length ≤ 1048576) :
    Calls Tryz.prog 53 #[v, .string (bs s)] w fun e w' => ∃ v', e = .returned v' ∧ StrsAt w' v' (insL S s) ∧ (∃ a c, v' = .slice (some a) (insL S s).length c ∧ (insL S s).length ≤ c) ∧ Below w.heap.size w w' := by
  have ⟨i0, hin, hz0, hz1, hz2⟩ := info_parts (show (Tryz.prog.info? 9).map (fun i => (i.zero, i.size, i.bytes)) = some (some (.string ⟨#[]⟩), 1, 16) by kernel_rfl)
  have HAT := Lib.hid (fun k h1 h2 h3 => atL_is S s k h1 h2 h3)
  have HI := Lib.hid (show insL S s = if S[atL S s]? = some s then S else S.take (atL S s) ++ ([s] ++ S.drop (atL S s)) from rfl)
  have hSb : ∀ x ∈ S, x.length ≤ 1048576 := fun x hx => by
    obtain ⟨i, hi⟩ := List.getElem?_of_mem hx
    obtain ⟨_, _, _, _, _, h4⟩ := h
    exact (h4 i x hi).1
  have HSB := Lib.hid hSb
  clear hSb
  have r0 : ∀ W : World, W.ownsRow w.heap.size 9 1 (.slice none 0 0) 0 [] := fun W => World.ownsRow_nil _ _ _ _
  generalize insL S s = R at *
  generalize atL S s = at0 at *
  rcases S with _ | ⟨x0, S⟩
  · have hv0 := hv rfl
    subst hv0
    have hat := HAT.out 0 (Nat.zero_le _) (by simp) (by simp)
    have HR := Lib.hid (show R = [s] by rw [HI.out, hat]; simp)
    clear HAT HI hat h hv hcap
    go_enter Tryz.func53, Tryz.ntmps53
    go_wp2_with fail
    go_loopw [5] (fun vi wr => vi = .int .i64 0 ∧ Below w.heap.size w wr) (fun _ _ => 0)
    case atStart => exact ⟨rfl, Below.refl _ _⟩
    obtain ⟨rfl, hb⟩ := hrel
    have hbs := hb.size
    go_wp2_with (at_builtin; first | (refine wpList_append_own_none rfl _ _ 40 rfl w.heap.size 9 i0 1 Tryz.underlying40 hin _ _ _ rfl hown1 rfl ?_) | (refine wpList_append_own_at _ rfl _ _ 40 rfl w.heap.size 9 i0 (.string ⟨#[]⟩) 1 16 Tryz.underlying40 hin hz0 hz1 hz2 rfl (by decide) _ _ _ rfl (World.ownsRow.alloc (r0 _) _) ⟨wr.heap.size, 0, none⟩ 1 1 [.string (bs s)] rfl rfl (cells_new wr [.string (bs s)] 9 wr.heap.size rfl) (by simp [Value.oneCell']) (by unfold maxLen; omega) (by omega) (by simp; omega) ?_; intro v1 w5 hown1 hgrow1 hnil1 hloc1; obtain ⟨va1, vc1, rfl⟩ := row_form hown1; have hb5 : Below w.heap.size w w5 := Kept.below (((Kept.of_below (S := fun _ => False) hb).trans (Kept.alloc _ _ _)).grow_row hgrow1 (fun k e => by cases e)) (Nat.le_refl _) (fun k e => e.elim)) | (refine wpList_append_own_none rfl _ _ 40 rfl w.heap.size 9 i0 1 Tryz.underlying40 hin _ _ _ rfl (r0 _) rfl ?_))
    go_ret
    have hS := strs_of_own (S := [s]) hown1 rfl (by simp) (by simpa using hs)
    obtain ⟨g1, hg1, hg2⟩ : ∃ g1, va1 = some g1 ∧ 1 ≤ vc1 := by
      rcases hown1.2 with ⟨e, e0⟩ | ⟨g, cap, cur, e, _, _, e3, _⟩
      · simp at e0
      · obtain ⟨e1, _, e2⟩ := Value.slice.inj e
        exact ⟨_, e1, by omega⟩
    subst hg1
    exact ⟨_, rfl, by rw [HR.out]; exact hS, ⟨g1, vc1, by rw [HR.out]; rfl, by rw [HR.out]; exact hg2⟩, hb5⟩
  · obtain ⟨sa, sc, rfl, _, hl, hx⟩ := id h
    obtain ⟨_, b, o, rfl, hcb⟩ := hx 0 x0 rfl
    have hbw := World.block_lt_of_cell? _ _ hcb
    simp only at hbw
    have HC := Lib.hid (strs_cells h)
    have HX := Lib.hid hx
    have HL := Lib.hid (show (x0 :: S) ≠ [] from by simp)
    have hcap := hcap _ _ _ rfl
    clear hx hv hcb
    generalize hG : x0 :: S = L at *
    clear hG
    go_enter Tryz.func53, Tryz.ntmps53
    go_wp2_with fail
    go_loopw [5] (fun vi wr => ∃ k : Nat, k ≤ L.length ∧ vi = .int .i64 (k : Int) ∧ Hid (∀ x ∈ L.take k, Op.bytesLess x s = true) ∧ Below w.heap.size w wr) (fun vi _ => L.length - (intOf vi).toNat)
    case atStart => exact ⟨0, Nat.zero_le _, rfl, Lib.hid (by simp), Below.refl _ _⟩
    obtain ⟨k, hk, rfl, HP, hb⟩ := hrel
    have hbs := hb.size
    rcases (show k < L.length ∨ k = L.length by omega) with hkl | hkN
    · obtain ⟨hxl, b', o', e', d0⟩ := HX.out k L[k] (List.getElem?_eq_getElem hkl)
      have e' := Option.some.inj e'
      simp only [Addr.mk.injEq] at e'
      obtain ⟨rfl, rfl, _⟩ := e'
      have d0' := (hb.cell (World.block_lt_of_cell? _ _ d0)).trans d0
      have q := Lib.hid (Ahead_any L[k] s wr (by omega))
      have HT := Lib.hid (show L.take (k + 1) = L.take k ++ [L[k]] from List.take_succ_eq_append_getElem hkl)
      have HG := Lib.hid (show L[k]? = some L[k] from List.getElem?_eq_getElem hkl)
      generalize L[k] = x at *
      cases hless : Op.bytesLess x s with
      | true =>
        rw [hless] at q
        go_wp2_with fail
        refine q.out.mono ?_
        rintro e w2 ⟨rfl, b2⟩
        have B2 := hb.trans (b2.mono hb.size)
        clear q b2
        go_wp2_with fail
        go_roundw
        case rel =>
          refine ⟨k + 1, by omega, by go_num, Lib.hid fun y hy => ?_, B2⟩
          rw [HT.out] at hy
          rcases List.mem_append.1 hy with hy | hy
          · exact HP.out y hy
          · obtain rfl := List.mem_singleton.1 hy
            exact hless
        case measure => simp [intOf]; omega
      | false =>
        rw [hless] at q
        have hat := HAT.out k (by omega) HP.out (fun y hy => by rw [HG.out] at hy; obtain rfl := Option.some.inj hy; exact hless)
        rw [hat, HG.out] at HI
        clear HAT hat HT HG HX HP hless
        go_wp2_with fail
        refine q.out.mono ?_
        rintro e w2 ⟨rfl, b2⟩
        have B2 := hb.trans (b2.mono hb.size)
        have d2 := (b2.cell (World.block_lt_of_cell? _ _ d0')).trans d0'
        clear q b2 d0' d0
        by_cases he : x = s
        · subst he
          have f1 : (x == x) = true := by simp
          have HR := Lib.hid (show R = L by rw [HI.out, if_pos rfl])
          clear HI
          go_wp2_with fail
          go_ret
          exact ⟨_, rfl, by rw [HR.out]; exact h.below (B2.mono (Nat.le_refl _)), ⟨_, sc, by rw [HR.out]; rfl, by rw [HR.out]; exact hcap⟩, B2⟩
        · have f1 : (x == s) = false := by simpa using he
          have HR := Lib.hid (show R = L.take k ++ ([s] ++ L.drop k) by rw [HI.out, if_neg (fun e => he (Option.some.inj e))])
          clear HI he
          have hck : ¬ (sc = k) := by omega
          have hbs2 := B2.size
          have HCW := Lib.hid (fun j u hu => (B2.cell (World.block_lt_of_cell? _ _ (HC.out j u hu))).trans (HC.out j u hu))
          have n1 : (strC (L.take k)).length = k * 1 := by rw [strC_len, List.length_take]; omega
          have n3 : (strC (L.drop k)).length = (L.length - k) * 1 := by rw [strC_len, List.length_drop]; omega
          have z1 := strC_one (L.take k)
          have z3 := strC_one (L.drop k)
          go_wp2_with (at_builtin; go_loud (first | (refine wpList_append_own_at _ rfl _ _ 40 rfl w.heap.size 9 i0 (.string ⟨#[]⟩) 1 16 Tryz.underlying40 hin hz0 hz1 hz2 rfl (by decide) _ _ _ rfl hown2 ⟨b, o + k, none⟩ (L.length - k) (sc - k) (strC (L.drop k)) rfl n3 (fun j u hu => by rw [add_o]; rw [strC_drop, List.getElem?_drop] at hu; have := HC.out _ _ hu; rw [← Nat.add_assoc] at this; exact (hb6.cell hbw).trans this) z3 (by unfold maxLen; omega) (by omega) (by have := hb6.size; omega) ?_; intro v3 w7 hown3 hgrow3 hnil3 hloc3; obtain ⟨va3, vc3, rfl⟩ := row_form hown3; have hb7 : Below w.heap.size w w7 := Kept.below ((Kept.of_below (S := fun _ => False) hb6).grow_row hgrow3 (fun k e => (hown2.lt k e).1)) (Nat.le_refl _) (fun k e => e.elim)) | (refine wpList_append_own_at _ rfl _ _ 40 rfl w.heap.size 9 i0 (.string ⟨#[]⟩) 1 16 Tryz.underlying40 hin hz0 hz1 hz2 rfl (by decide) _ _ _ rfl (World.ownsRow.alloc hown1 _) ⟨w5.heap.size, 0, none⟩ 1 1 [.string (bs s)] rfl rfl (cells_new w5 [.string (bs s)] 9 w5.heap.size rfl) (by simp [Value.oneCell']) (by unfold maxLen; omega) (by omega) (by simp; have := hb5.size; omega) ?_; intro v2 w6 hown2 hgrow2 hnil2 hloc2; obtain ⟨va2, vc2, rfl⟩ := row_form hown2; have hb6 : Below w.heap.size w w6 := Kept.below (((Kept.of_below (S := fun _ => False) hb5).trans (Kept.alloc _ _ _)).grow_row hgrow2 (fun k e => (hown1.lt k e).1)) (Nat.le_refl _) (fun k e => e.elim)) | (refine wpList_append_own_at _ rfl _ _ 40 rfl w.heap.size 9 i0 (.string ⟨#[]⟩) 1 16 Tryz.underlying40 hin hz0 hz1 hz2 rfl (by decide) _ _ _ rfl (r0 w2) ⟨b, o, none⟩ k sc (strC (L.take k)) rfl n1 (fun j u hu => by rw [add_o]; rw [strC_take] at hu; have hj := (List.getElem?_eq_some_iff.1 hu).1; rw [List.getElem?_take_of_lt (by rw [List.length_take] at hj; omega)] at hu; exact HCW.out j u hu) z1 (by unfold maxLen; omega) (by omega) (by omega) ?_; intro v1 w5 hown1 hgrow1 hnil1 hloc1; rw [Nat.zero_add, List.nil_append] at hown1; obtain ⟨va1, vc1, rfl⟩ := row_form hown1; have hb5 : Below w.heap.size w w5 := Kept.below ((Kept.of_below (S := fun _ => False) B2).grow_row hgrow1 (fun k e => by cases e)) (Nat.le_refl _) (fun k e => e.elim))))
          go_ret
          have hxs : strC (L.take k) ++ [Value.string (bs s)] ++ strC (L.drop k) = strC R := by rw [HR.out]; simp [strC]
          have hRl : R.length = k + 1 + (L.length - k) := by rw [HR.out]; simp; omega
          have hS : StrsAt w7 _ R := strs_of_own (by rw [← hxs]; exact hown3) hRl (by omega) (fun x hx => by
            rw [HR.out] at hx
            rcases List.mem_append.1 hx with hx | hx
            · exact HSB.out x (List.mem_of_mem_take hx)
            · rcases List.mem_cons.1 hx with rfl | hx
              · exact hs
              · exact HSB.out x (List.mem_of_mem_drop hx))
          obtain ⟨g1, hg1, hg2⟩ : ∃ g1, va3 = some g1 ∧ R.length ≤ vc3 := by
            rcases hown3.2 with ⟨e, e0⟩ | ⟨g, cap, cur, e, _, _, e3, _⟩
            · omega
            · obtain ⟨e1, _, e2⟩ := Value.slice.inj e
              exact ⟨_, e1, by omega⟩
          subst hg1
          exact ⟨_, rfl, hS, ⟨g1, vc3, by rw [hRl]; rfl, hg2⟩, hb7⟩
    · subst hkN
      have hat := HAT.out L.length (Nat.le_refl _) HP.out (fun y hy => by simp at hy)
      have HR := Lib.hid (show R = L.take L.length ++ ([s] ++ L.drop L.length) by rw [HI.out, hat, if_neg (by simp)])
      clear HAT hat HX HP HI
      by_cases hck : sc = L.length
      · clear hk
        subst hck
        have hbs2 := hb.size
        have HCW := Lib.hid (fun j u hu => (hb.cell (World.block_lt_of_cell? _ _ (HC.out j u hu))).trans (HC.out j u hu))
        have n1 : (strC (L.take L.length)).length = L.length * 1 := by rw [strC_len, List.length_take]; omega
        have n3 : (strC (L.drop L.length)).length = 0 * 1 := by rw [strC_len, List.length_drop]; omega
        have z1 := strC_one (L.take L.length)
        have z3 := strC_one (L.drop L.length)
        go_wp2_with (at_builtin; go_loud (first | (refine wpList_append_own_at _ rfl _ _ 40 rfl w.heap.size 9 i0 (.string ⟨#[]⟩) 1 16 Tryz.underlying40 hin hz0 hz1 hz2 rfl (by decide) _ _ _ rfl hown2 ⟨b, o, none⟩ 0 0 (strC (L.drop L.length)) rfl n3 (fun j u hu => by rw [List.drop_length] at hu; simp [strC] at hu) z3 (by unfold maxLen; omega) (by omega) (by have := hb6.size; omega) ?_; intro v3 w7 hown3 hgrow3 hnil3 hloc3; obtain ⟨va3, vc3, rfl⟩ := row_form hown3; have hb7 : Below w.heap.size w w7 := Kept.below ((Kept.of_below (S := fun _ => False) hb6).grow_row hgrow3 (fun k e => (hown2.lt k e).1)) (Nat.le_refl _) (fun k e => e.elim)) | (refine wpList_append_own_at _ rfl _ _ 40 rfl w.heap.size 9 i0 (.string ⟨#[]⟩) 1 16 Tryz.underlying40 hin hz0 hz1 hz2 rfl (by decide) _ _ _ rfl (World.ownsRow.alloc hown1 _) ⟨w5.heap.size, 0, none⟩ 1 1 [.string (bs s)] rfl rfl (cells_new w5 [.string (bs s)] 9 w5.heap.size rfl) (by simp [Value.oneCell']) (by unfold maxLen; omega) (by omega) (by simp; have := hb5.size; omega) ?_; intro v2 w6 hown2 hgrow2 hnil2 hloc2; obtain ⟨va2, vc2, rfl⟩ := row_form hown2; have hb6 : Below w.heap.size w w6 := Kept.below (((Kept.of_below (S := fun _ => False) hb5).trans (Kept.alloc _ _ _)).grow_row hgrow2 (fun k e => (hown1.lt k e).1)) (Nat.le_refl _) (fun k e => e.elim)) | (refine wpList_append_own_at _ rfl _ _ 40 rfl w.heap.size 9 i0 (.string ⟨#[]⟩) 1 16 Tryz.underlying40 hin hz0 hz1 hz2 rfl (by decide) _ _ _ rfl (r0 wr) ⟨b, o, none⟩ L.length L.length (strC (L.take L.length)) rfl n1 (fun j u hu => by rw [add_o]; rw [strC_take] at hu; have hj := (List.getElem?_eq_some_iff.1 hu).1; rw [List.getElem?_take_of_lt (by rw [List.length_take] at hj; omega)] at hu; exact HCW.out j u hu) z1 (by unfold maxLen; omega) (by omega) (by omega) ?_; intro v1 w5 hown1 hgrow1 hnil1 hloc1; rw [Nat.zero_add, List.nil_append] at hown1; obtain ⟨va1, vc1, rfl⟩ := row_form hown1; have hb5 : Below w.heap.size w w5 := Kept.below ((Kept.of_below (S := fun _ => False) hb).grow_row hgrow1 (fun k e => by cases e)) (Nat.le_refl _) (fun k e => e.elim))))
        go_ret
        have hxs : strC (L.take L.length) ++ [Value.string (bs s)] ++ strC (L.drop L.length) = strC R := by rw [HR.out]; simp [strC]
        have hRl : R.length = L.length + 1 + 0 := by rw [HR.out]; simp
        have hS : StrsAt w7 _ R := strs_of_own (by rw [← hxs]; exact hown3) hRl (by omega) (fun x hx => by
          rw [HR.out] at hx
          rcases List.mem_append.1 hx with hx | hx
          · exact HSB.out x (List.mem_of_mem_take hx)
          · rcases List.mem_cons.1 hx with rfl | hx
            · exact hs
            · exact HSB.out x (List.mem_of_mem_drop hx))
        obtain ⟨g1, hg1, hg2⟩ : ∃ g1, va3 = some g1 ∧ R.length ≤ vc3 := by
          rcases hown3.2 with ⟨e, e0⟩ | ⟨g, cap, cur, e, _, _, e3, _⟩
          · omega
          · obtain ⟨e1, _, e2⟩ := Value.slice.inj e
            exact ⟨_, e1, by omega⟩
        subst hg1
        exact ⟨_, rfl, hS, ⟨g1, vc3, by rw [hRl]; rfl, hg2⟩, hb7⟩
      · clear hk
        have hbs2 := hb.size
        have HCW := Lib.hid (fun j u hu => (hb.cell (World.block_lt_of_cell? _ _ (HC.out j u hu))).trans (HC.out j u hu))
        have n1 : (strC (L.take L.length)).length = L.length * 1 := by rw [strC_len, List.length_take]; omega
        have n3 : (strC (L.drop L.length)).length = 0 * 1 := by rw [strC_len, List.length_drop]; omega
        have z1 := strC_one (L.take L.length)
        have z3 := strC_one (L.drop L.length)
        go_wp2_with (at_builtin; go_loud (first | (refine wpList_append_own_at _ rfl _ _ 40 rfl w.heap.size 9 i0 (.string ⟨#[]⟩) 1 16 Tryz.underlying40 hin hz0 hz1 hz2 rfl (by decide) _ _ _ rfl hown2 ⟨b, o + L.length, none⟩ 0 (sc - L.length) (strC (L.drop L.length)) rfl n3 (fun j u hu => by rw [add_o]; rw [strC_drop, List.getElem?_drop] at hu; have := HC.out _ _ hu; rw [← Nat.add_assoc] at this; exact (hb6.cell hbw).trans this) z3 (by unfold maxLen; omega) (by omega) (by have := hb6.size; omega) ?_; intro v3 w7 hown3 hgrow3 hnil3 hloc3; obtain ⟨va3, vc3, rfl⟩ := row_form hown3; have hb7 : Below w.heap.size w w7 := Kept.below ((Kept.of_below (S := fun _ => False) hb6).grow_row hgrow3 (fun k e => (hown2.lt k e).1)) (Nat.le_refl _) (fun k e => e.elim)) | (refine wpList_append_own_at _ rfl _ _ 40 rfl w.heap.size 9 i0 (.string ⟨#[]⟩) 1 16 Tryz.underlying40 hin hz0 hz1 hz2 rfl (by decide) _ _ _ rfl (World.ownsRow.alloc hown1 _) ⟨w5.heap.size, 0, none⟩ 1 1 [.string (bs s)] rfl rfl (cells_new w5 [.string (bs s)] 9 w5.heap.size rfl) (by simp [Value.oneCell']) (by unfold maxLen; omega) (by omega) (by simp; have := hb5.size; omega) ?_; intro v2 w6 hown2 hgrow2 hnil2 hloc2; obtain ⟨va2, vc2, rfl⟩ := row_form hown2; have hb6 : Below w.heap.size w w6 := Kept.below (((Kept.of_below (S := fun _ => False) hb5).trans (Kept.alloc _ _ _)).grow_row hgrow2 (fun k e => (hown1.lt k e).1)) (Nat.le_refl _) (fun k e => e.elim)) | (refine wpList_append_own_at _ rfl _ _ 40 rfl w.heap.size 9 i0 (.string ⟨#[]⟩) 1 16 Tryz.underlying40 hin hz0 hz1 hz2 rfl (by decide) _ _ _ rfl (r0 wr) ⟨b, o, none⟩ L.length sc (strC (L.take L.length)) rfl n1 (fun j u hu => by rw [add_o]; rw [strC_take] at hu; have hj := (List.getElem?_eq_some_iff.1 hu).1; rw [List.getElem?_take_of_lt (by rw [List.length_take] at hj; omega)] at hu; exact HCW.out j u hu) z1 (by unfold maxLen; omega) (by omega) (by omega) ?_; intro v1 w5 hown1 hgrow1 hnil1 hloc1; rw [Nat.zero_add, List.nil_append] at hown1; obtain ⟨va1, vc1, rfl⟩ := row_form hown1; have hb5 : Below w.heap.size w w5 := Kept.below ((Kept.of_below (S := fun _ => False) hb).grow_row hgrow1 (fun k e => by cases e)) (Nat.le_refl _) (fun k e => e.elim))))
        go_ret
        have hxs : strC (L.take L.length) ++ [Value.string (bs s)] ++ strC (L.drop L.length) = strC R := by rw [HR.out]; simp [strC]
        have hRl : R.length = L.length + 1 + 0 := by rw [HR.out]; simp
        have hS : StrsAt w7 _ R := strs_of_own (by rw [← hxs]; exact hown3) hRl (by omega) (fun x hx => by
          rw [HR.out] at hx
          rcases List.mem_append.1 hx with hx | hx
          · exact HSB.out x (List.mem_of_mem_take hx)
          · rcases List.mem_cons.1 hx with rfl | hx
            · exact hs
            · exact HSB.out x (List.mem_of_mem_drop hx))
        obtain ⟨g1, hg1, hg2⟩ : ∃ g1, va3 = some g1 ∧ R.length ≤ vc3 := by
          rcases hown3.2 with ⟨e, e0⟩ | ⟨g, cap, cur, e, _, _, e3, _⟩
          · omega
          · obtain ⟨e1, _, e2⟩ := Value.slice.inj e
            exact ⟨_, e1, by omega⟩
        subst hg1
        exact ⟨_, rfl, hS, ⟨g1, vc3, by rw [hRl]; rfl, hg2⟩, hb7⟩
end Go.Proofs.YtpeahjocimhneaaGreatDoor
namespace Go.Proofs.YtpeahjocimhneaaGreatDoor
open Go.RowKit Go.Maps Go.WideMaps
attribute [local go_sem] bs_toList bs_size

theorem insL_nil (s : List UInt8) : insL [] s = [s] := by simp [insL, atL]
theorem insL_cons (x : List UInt8) (S : List (List UInt8)) (s : List UInt8) : insL (x :: S) s = if Op.bytesLess x s = true then x :: insL S s else if x = s then x :: S else s :: x :: S := by
  by_cases h : Op.bytesLess x s = true
  · have ha : atL (x :: S) s = atL S s + 1 := by unfold atL; rw [List.takeWhile_cons, h]; simp
    rw [if_pos h]
    unfold insL
    rw [ha]
    simp only [List.getElem?_cons_succ, List.take_succ_cons, List.drop_succ_cons]
    split <;> simp
  · have hf : Op.bytesLess x s = false := by simpa using h
    have ha : atL (x :: S) s = 0 := by unfold atL; rw [List.takeWhile_cons, hf]; simp
    rw [if_neg h]
    unfold insL
    rw [ha]
    by_cases e : x = s
    · simp [e]
    · simp [e]
theorem mem_insL : ∀ (S : List (List UInt8)) (s x : List UInt8), x ∈ insL S s ↔ x = s ∨ x ∈ S
  | [], s, x => by rw [insL_nil]; simp
  | y :: S, s, x => by
    rw [insL_cons]
    split
    · rw [List.mem_cons, mem_insL S s x, List.mem_cons]
      constructor
      · rintro (h | h | h)
        · exact .inr (.inl h)
        · exact .inl h
        · exact .inr (.inr h)
      · rintro (h | h | h)
        · exact .inr (.inl h)
        · exact .inl h
        · exact .inr (.inr h)
    · split
      · rename_i _ h
        subst h
        simp
      · simp
theorem insL_strict : ∀ (S : List (List UInt8)) (s : List UInt8), S.Pairwise (fun x y => Op.bytesLess x y = true) → (insL S s).Pairwise fun x y => Op.bytesLess x y = true
  | [], s, _ => by rw [insL_nil]; simp
  | y :: S, s, h => by
    obtain ⟨h1, h2⟩ := List.pairwise_cons.1 h
    rw [insL_cons]
    split
    · rename_i hys
      refine List.pairwise_cons.2 ⟨fun z hz => ?_, insL_strict S s h2⟩
      rcases (mem_insL S s z).1 hz with rfl | hz
      · exact hys
      · exact h1 z hz
    · rename_i hys
      split
      · exact h
      · rename_i hne
        have hsy : Op.bytesLess s y = true := by
          rcases bl_tri y s with e | e | e
          · exact (hys e).elim
          · exact (hne e).elim
          · exact e
        refine List.pairwise_cons.2 ⟨fun z hz => ?_, h⟩
        rcases List.mem_cons.1 hz with rfl | hz
        · exact hsy
        · exact bl_trans s y z hsy (h1 z hz)
theorem insL_len (S : List (List UInt8)) (s : List UInt8) : (insL S s).length ≤ S.length + 1 := by
  induction S with
  | nil => rw [insL_nil]; simp
  | cons y S ih =>
    rw [insL_cons]
    split
    · simp only [List.length_cons]; omega
    · split <;> simp
theorem insL_ne (S : List (List UInt8)) (s : List UInt8) : insL S s ≠ [] := fun h => by
  have := (mem_insL S s s).2 (.inl rfl)
  rw [h] at this
  cases this
theorem strict_eq : ∀ (l m : List (List UInt8)), l.Pairwise (fun x y => Op.bytesLess x y = true) → m.Pairwise (fun x y => Op.bytesLess x y = true) → (∀ x, x ∈ l ↔ x ∈ m) → l = m
  | [], m, _, _, h => (List.eq_nil_iff_forall_not_mem.2 fun x hx => by have := (h x).2 hx; cases this).symm
  | x :: l, [], _, _, h => by have := (h x).1 List.mem_cons_self; cases this
  | x :: l, y :: m, hl, hm, h => by
    obtain ⟨l1, l2⟩ := List.pairwise_cons.1 hl
    obtain ⟨m1, m2⟩ := List.pairwise_cons.1 hm
    have hxy : x = y := by
      rcases List.mem_cons.1 ((h x).1 List.mem_cons_self) with e | e
      · exact e
      · rcases List.mem_cons.1 ((h y).2 List.mem_cons_self) with e2 | e2
        · exact e2.symm
        · have a1 := m1 x e
          have a2 := bl_asymm (l1 y e2)
          rw [a1] at a2
          cases a2
    subst hxy
    rw [strict_eq l m l2 m2 fun z => ⟨fun hz => ?_, fun hz => ?_⟩]
    · rcases List.mem_cons.1 ((h z).1 (List.mem_cons_of_mem _ hz)) with rfl | e
      · have := l1 z hz
        rw [bl_irrefl] at this
        cases this
      · exact e
    · rcases List.mem_cons.1 ((h z).2 (List.mem_cons_of_mem _ hz)) with rfl | e
      · have := m1 z hz
        rw [bl_irrefl] at this
        cases this
      · exact e
/-- Texts laid in order, one after another. -/
def symF (T : List (List UInt8)) : List (List UInt8) := T.foldl insL []
theorem symF_snoc (T : List (List UInt8)) (a b : List UInt8) : symF (T ++ [a, b]) = insL (insL (symF T) a) b := by unfold symF; rw [List.foldl_append]; rfl
theorem foldl_ins : ∀ (T S : List (List UInt8)), S.Pairwise (fun x y => Op.bytesLess x y = true) → (T.foldl insL S).Pairwise (fun x y => Op.bytesLess x y = true) ∧ (∀ x, x ∈ T.foldl insL S ↔ x ∈ T ∨ x ∈ S) ∧ (T.foldl insL S).length ≤ T.length + S.length
  | [], S, h => ⟨h, fun x => by simp, by simp⟩
  | t :: T, S, h => by
    obtain ⟨h1, h2, h3⟩ := foldl_ins T (insL S t) (insL_strict S t h)
    have h4 := insL_len S t
    refine ⟨h1, fun x => ?_, by rw [List.foldl_cons, List.length_cons]; omega⟩
    rw [List.foldl_cons, h2 x, mem_insL, List.mem_cons]
    constructor
    · rintro (h | h | h)
      · exact .inl (.inr h)
      · exact .inl (.inl h)
      · exact .inr h
    · rintro ((h | h) | h)
      · exact .inr (.inl h)
      · exact .inl h
      · exact .inr (.inr h)
theorem symF_len (T : List (List UInt8)) : (symF T).length ≤ T.length := (foldl_ins T [] List.Pairwise.nil).2.2
theorem symF_sym (E : List En) : symF (textsOf E) = symI E := by
  obtain ⟨h1, h2, _⟩ := foldl_ins (textsOf E) [] List.Pairwise.nil
  exact strict_eq _ _ h1 (symI_strict E) fun x => by rw [mem_symI]; unfold symF; rw [h2]; simp
/-- A slice of texts, that is none if there are none. -/
def StrsIs (w : World) (v : Value) (S : List (List UInt8)) : Prop := StrsAt w v S ∧ (S = [] → v = .slice none 0 0) ∧ ∀ a n c, v = .slice a n c → n ≤ c
theorem StrsIs.below {w w' : World} {v : Value} {S : List (List UInt8)} (h : StrsIs w v S) (hb : Below w.heap.size w w') : StrsIs w' v S := ⟨h.1.below hb, h.2⟩
theorem with_is (S : List (List UInt8)) (v : Value) (s : List UInt8) (w : World) (h : StrsIs w v S) (hn : S.length ≤ 10000) (hs : s.length ≤ 1048576) :
    Calls Tryz.prog 53 #[v, .string (bs s)] w fun e w' => ∃ v', e = .returned v' ∧ StrsIs w' v' (insL S s) ∧ Below w.heap.size w w' := by
  refine (with_any S v s w h.1 h.2.1 h.2.2 hn hs).mono ?_
  rintro e w' ⟨v', rfl, h1, ⟨a, c, h2, h3⟩, h4⟩
  refine ⟨v', rfl, ⟨h1, fun e => (insL_ne S s e).elim, fun a' n c' e => ?_⟩, h4⟩
  rw [h2] at e
  obtain ⟨_, rfl, rfl⟩ := Value.slice.inj e
  exact h3
set_option maxRecDepth 100000 in
set_option maxHeartbeats 1000000 in
theorem RSymbols_any (E : List En) (v : Value) (w : World) (h : EntsAt w v E) (hT : (textsOf E).length ≤ 9000) :
    Calls Tryz.prog 20 #[v] w fun e w' => ∃ sv, e = .returned sv ∧ StrsAt w' sv (symI E) ∧ Below w.heap.size w w' := by
  have HF := Lib.hid (symF_sym E)
  have HP := Lib.hid (fun i (hi : i < E.length) k => Nat.le_trans (texts_part E hi k) hT)
  obtain ⟨a, c, rfl, hnil, hl, hlc, hx⟩ := id h
  have HX := Lib.hid hx
  have r0 : StrsIs w (.slice none 0 0) (symF (textsOf (E.take 0))) := ⟨strs_nil w, fun _ => rfl, fun a n c e => by obtain ⟨_, rfl, rfl⟩ := Value.slice.inj e; exact Nat.le_refl _⟩
  clear hx
  go_enter Tryz.func20, Tryz.ntmps20
  go_wp2_with fail
  go_loopw [3, 4] (fun vo vi wr => ∃ (i : Nat), i ≤ E.length ∧ vi = .int .i64 (i : Int) ∧ StrsIs wr vo (symF (textsOf (E.take i))) ∧ Below w.heap.size w wr) (fun _ vi _ => E.length - (intOf vi).toNat)
  case atStart => exact ⟨0, Nat.zero_le _, rfl, r0, Below.refl _ _⟩
  clear r0
  obtain ⟨i, hi, rfl, hS, hb⟩ := hrel
  obtain ⟨sa, sc, rfl, _⟩ := id hS.1
  rcases (show i < E.length ∨ i = E.length by omega) with hil | hiN
  · obtain ⟨_, b, o, rfl, la, lc, d0, hLab, _⟩ := HX.out i E[i] (List.getElem?_eq_getElem hil)
    have HTT := Lib.hid (texts_take E hil)
    have HPP := Lib.hid (HP.out i hil)
    have HLab := Lib.hid hLab
    clear HX hLab
    generalize E[i] = x at *
    have d0' := (hb.cell (World.block_lt_of_cell? _ _ d0)).trans d0
    have hS0 : StrsIs wr (.slice sa (symF (textsOf (E.take i))).length sc) (symF (textsOf (E.take i) ++ textsL (x.labels.take 0))) := by simpa [textsL] using hS
    go_wp2_with fail
    go_loopw [3, 5] (fun vo vk wr => ∃ (k : Nat), k ≤ x.labels.length ∧ vk = .int .i64 (k : Int) ∧ StrsIs wr vo (symF (textsOf (E.take i) ++ textsL (x.labels.take k))) ∧ Below w.heap.size w wr) (fun _ vk _ => x.labels.length - (intOf vk).toNat)
    case atStart => exact ⟨0, Nat.zero_le _, rfl, hS0, hb⟩
    clear hS hS0 hb d0'
    obtain ⟨k, hk, rfl, hS, hb⟩ := hrel
    have d0' := (hb.cell (World.block_lt_of_cell? _ _ d0)).trans d0
    obtain ⟨sa, sc, rfl, _⟩ := id hS.1
    rcases (show k < x.labels.length ∨ k = x.labels.length by omega) with hkl | hkN
    · obtain ⟨_, _, e1, _, hLx⟩ := HLab.out
      obtain ⟨rfl, _, rfl⟩ := Value.slice.inj e1
      clear e1
      obtain ⟨ln, lv, yb, yo, rfl, dn, dv⟩ := hLx k x.labels[k] (List.getElem?_eq_getElem hkl)
      have HT2 := Lib.hid (textsL_take x.labels hkl)
      have hTl := HPP.out k
      clear hLx
      generalize x.labels[k] = y at *
      obtain ⟨nm, vl⟩ := y
      simp only at HT2 dn dv ln lv
      have HS3 := Lib.hid (show symF (textsOf (E.take i) ++ textsL (x.labels.take (k + 1))) = insL (insL (symF (textsOf (E.take i) ++ textsL (x.labels.take k))) nm) vl by
        rw [HT2.out, ← List.append_assoc, symF_snoc])
      have hSl := symF_len (textsOf (E.take i) ++ textsL (x.labels.take k))
      generalize symF (textsOf (E.take i) ++ textsL (x.labels.take k)) = S at *
      have hi1 := insL_len S nm
      have dn' := (hb.cell (World.block_lt_of_cell? _ _ dn)).trans dn
      have q1 := Lib.hid (with_is S _ nm wr hS (by omega) ln)
      go_wp2_with fail
      refine q1.out.mono ?_
      rintro e w2 ⟨v2, rfl, hS2, b2⟩
      have B2 := hb.trans (b2.mono hb.size)
      obtain ⟨sa2, sc2, rfl, _⟩ := id hS2.1
      have d0'' := (B2.cell (World.block_lt_of_cell? _ _ d0)).trans d0
      have dv'' := (B2.cell (World.block_lt_of_cell? _ _ dv)).trans dv
      have q2 := Lib.hid (with_is (insL S nm) _ vl w2 hS2 (by omega) lv)
      clear q1 hS hb b2 dn' d0'
      go_wp2_with fail
      refine q2.out.mono ?_
      rintro e w3 ⟨v3, rfl, hS3, b3⟩
      have B3 := B2.trans (b3.mono B2.size)
      obtain ⟨sa3, sc3, rfl, _⟩ := id hS3.1
      clear q2 hS2 B2 b3 d0'' dv''
      go_wp2_with fail
      go_roundw
      case rel => exact ⟨k + 1, by omega, by go_num, by rw [HS3.out]; exact hS3, B3⟩
      case measure => simp [intOf]; omega
    · subst hkN
      rw [List.take_length] at hS ⊢
      go_wp2_with fail
      go_roundw
      case rel => exact ⟨i + 1, by omega, by go_num, by rw [HTT.out]; exact hS, hb⟩
      case measure => simp [intOf]; omega
  · subst hiN
    rw [List.take_length] at hS ⊢
    have hS' : StrsAt wr (.slice sa (symF (textsOf E)).length sc) (symI E) := by rw [← HF.out]; exact hS.1
    go_wp2_with fail
    go_ret
    exact ⟨_, rfl, hS', hb⟩
end Go.Proofs.YtpeahjocimhneaaGreatDoor
namespace Go.Proofs.YtpeahjocimhneaaGreatDoor
open Go.RowKit Go.Maps Go.WideMaps
attribute [local go_sem] bs_toList bs_size

theorem entsAt_rowT {w : World} {T : TypeId} {B n : Nat} {v : Value} {Z : List (En × Value)} (h : w.ownsRow B T 4 v n (entCells Z)) (hzn : Z.length = n) (hn : Z.length ≤ 100000) (hl : ∀ z ∈ Z, z.1.ok ∧ LabsAt w z.2 z.1.labels) : EntsAt w v (Z.map (·.1)) := by
  subst hzn
  have hcells : ∀ g, v.ownBlock = some g → ∀ j u, (entCells Z)[j]? = some u → w.cell? ((⟨g, 0, none⟩ : Addr).add j) = some u := fun g hg => h.cells (g := g) hg
  rcases h.2 with ⟨e, e0⟩ | ⟨g, cap, cur, e, e1, e2, e3, _⟩
  · refine ⟨none, 0, by rw [e, List.length_map, e0], fun _ => rfl, by rwa [List.length_map], by rw [List.length_map, e0]; exact Nat.le_refl _, fun i x hx => ?_⟩
    rw [List.length_eq_zero_iff.1 e0] at hx
    simp at hx
  · refine ⟨some ⟨g, 0, none⟩, cap, by rw [List.length_map]; exact e, (fun e => by cases e), by rwa [List.length_map], by rw [List.length_map]; exact e3, fun i x hx => ?_⟩
    rw [List.getElem?_map] at hx
    cases hz : Z[i]? with
    | none => rw [hz] at hx; cases hx
    | some z =>
      rw [hz] at hx
      obtain rfl : z.1 = x := by simpa using hx
      obtain ⟨hok, hL⟩ := hl z (List.mem_of_getElem? hz)
      have hc : ∀ j u, (enC z.2 z.1)[j]? = some u → w.cell? ⟨g, 0 + i * 4 + j, none⟩ = some u := fun j u hj => by
        have := hcells g (by rw [e]; rfl) (i * 4 + j) u (entCells_get Z i z hz j u hj)
        rw [addr_add] at this
        rw [show 0 + i * 4 + j = i * 4 + j by omega]
        simpa using this
      obtain ⟨la, lc, hv, h2, h3⟩ := hL
      exact ⟨hok, g, 0, rfl, la, lc, by rw [← hv]; exact hc 0 _ rfl, ⟨la, lc, rfl, h2, by rw [← hv] at *; exact h3⟩, hc 1 _ rfl, hc 2 _ rfl, hc 3 _ rfl⟩
def ENWS (la : Option Addr) (n lc : Nat) (a b c : Int) : List Value := [.slice la n lc, .int .i64 a, .int .i64 b, .int .i64 c]
set_option maxRecDepth 100000 in
set_option maxHeartbeats 1000000 in
theorem Of12_any (E : List En) (v : Value) (w : World) (h : EntsAt w v E) :
    Calls Tryz.prog 13 #[v] w fun e w' => ∃ v', e = .returned v' ∧ EntsAt w' v' E ∧ Below w.heap.size w w' := by
  have ⟨i0, hin, hz0, hz1, hz2⟩ := info_parts (show (Tryz.prog.info? 70).map (fun i => (i.zero, i.size, i.bytes)) = some (some (.agg #[.slice none 0 0, .int .i64 0, .int .i64 0, .int .i64 0]), 4, 48) by kernel_rfl)
  obtain ⟨a, c, rfl, hnil, hl, hlc, hx⟩ := id h
  have HX := Lib.hid hx
  have r0 : w.ownsRow w.heap.size 70 4 (.slice none 0 0) ([] : List (En × Value)).length (entCells []) := World.ownsRow_nil _ _ _ _
  clear hx
  go_enter Tryz.func13, Tryz.ntmps13
  go_wp2_with fail
  go_loopw [3, 4] (fun vo vi wr => ∃ (i : Nat) (Z : List (En × Value)), i ≤ E.length ∧ vi = .int .i64 (i : Int) ∧ Z.length = i ∧ Z.map (·.1) = E.take i ∧ wr.ownsRow w.heap.size 70 4 vo Z.length (entCells Z) ∧ (∀ z ∈ Z, z.1.ok ∧ LabsAt w z.2 z.1.labels) ∧ Below w.heap.size w wr) (fun _ vi _ => E.length - (intOf vi).toNat)
  case atStart => exact ⟨0, [], Nat.zero_le _, rfl, rfl, by simp, r0, (fun z hz => by cases hz), Below.refl _ _⟩
  clear r0
  obtain ⟨i, Z, hi, rfl, hZi, hZE, hrow, hZ, hb⟩ := hrel
  subst hZi
  have HZE := Lib.hid hZE
  clear hZE
  have hltr : ∀ g, (_ : Value).ownBlock = some g → g < wr.heap.size := fun g hg => owns_lt hrow hg
  have hlo : ∀ g, (_ : Value).ownBlock = some g → w.heap.size ≤ g := fun g hg => (hrow.lt g hg).1
  obtain ⟨va, vc, rfl⟩ := row_form hrow
  rcases (show Z.length < E.length ∨ Z.length = E.length by omega) with hil | hiN
  · obtain ⟨hok, b, o, rfl, la, lc, d0, hLab, d1, d2, d3⟩ := HX.out Z.length E[Z.length] (List.getElem?_eq_getElem hil)
    have HT := Lib.hid (show E.take (Z.length + 1) = E.take Z.length ++ [E[Z.length]] from List.take_succ_eq_append_getElem hil)
    clear HX
    generalize E[Z.length] = x at *
    obtain ⟨xl, xa, xb, xc⟩ := x
    simp only at d0 d1 d2 d3 hLab
    have hbw := World.block_lt_of_cell? _ _ d0
    simp only at hbw
    have hnb : some b ≠ (Value.slice va Z.length vc).ownBlock := fun e => by have := hlo b e.symm; omega
    have g0 := app_cell (row := (Value.slice va Z.length vc).ownBlock) (fin := appendedTo wr (.slice va Z.length vc) 4 Z.length (ENWS la xl.length lc xa xb xc)) ((hb.cell hbw).trans d0) hnb
    have g1 := app_cell (row := (Value.slice va Z.length vc).ownBlock) (fin := appendedTo wr (.slice va Z.length vc) 4 Z.length (ENWS la xl.length lc xa xb xc)) ((hb.cell hbw).trans d1) hnb
    have g2 := app_cell (row := (Value.slice va Z.length vc).ownBlock) (fin := appendedTo wr (.slice va Z.length vc) 4 Z.length (ENWS la xl.length lc xa xb xc)) ((hb.cell hbw).trans d2) hnb
    have g3 := app_cell (row := (Value.slice va Z.length vc).ownBlock) (fin := appendedTo wr (.slice va Z.length vc) 4 Z.length (ENWS la xl.length lc xa xb xc)) ((hb.cell hbw).trans d3) hnb
    have hsz := hb.size
    go_wp2_with fail
    refine wp_region_led (R := AppR (Value.slice va Z.length vc).ownBlock (appendedTo wr (.slice va Z.length vc) 4 Z.length (ENWS la xl.length lc xa xb xc))) (by kernel_rfl) (by kernel_rfl) rfl (by kernel_rfl) ?_
    (refine lex_one (by kernel_rfl) (by kernel_rfl) (by kernel_rfl) (fun K hK => ?_); go_big_quiet_step (fail); refine wpQuiet_nil (hK _ ?_); clear hK K); (refine lex_one (by kernel_rfl) (by kernel_rfl) (by kernel_rfl) (fun K hK => ?_); go_big_quiet_step (fail); refine wpQuiet_nil (hK _ ?_); clear hK K); (refine lex_one (by kernel_rfl) (by kernel_rfl) (by kernel_rfl) (fun K hK => ?_); go_big_quiet_step (fail); refine wpQuiet_nil (hK _ ?_); clear hK K); (refine lex_one (by kernel_rfl) (by kernel_rfl) (by kernel_rfl) (fun K hK => ?_); go_big_quiet_step (fail); refine wpQuiet_nil (hK _ ?_); clear hK K); (refine lex_one (by kernel_rfl) (by kernel_rfl) (by kernel_rfl) (fun K hK => ?_); go_big_quiet_step (fail); refine wpQuiet_nil (hK _ ?_); clear hK K); (refine lex_one (by kernel_rfl) (by kernel_rfl) (by kernel_rfl) (fun K hK => ?_); go_big_quiet_step (fail); refine wpQuiet_nil (hK _ ?_); clear hK K); (refine lex_one (by kernel_rfl) (by kernel_rfl) (by kernel_rfl) (fun K hK => ?_); go_big_quiet_step (fail); refine wpQuiet_nil (hK _ ?_); clear hK K); (refine lex_one (by kernel_rfl) (by kernel_rfl) (by kernel_rfl) (fun K hK => ?_); go_big_quiet_step (fail); refine wpQuiet_nil (hK _ ?_); clear hK K); (refine lex_one (by kernel_rfl) (by kernel_rfl) (by kernel_rfl) (fun K hK => ?_); go_big_quiet_step (fail); refine wpQuiet_nil (hK _ ?_); clear hK K); (refine lex_one (by kernel_rfl) (by kernel_rfl) (by kernel_rfl) (fun K hK => ?_); go_big_quiet_step (fail); refine wpQuiet_nil (hK _ ?_); clear hK K); (refine lex_one (by kernel_rfl) (by kernel_rfl) (by kernel_rfl) (fun K hK => ?_); go_big_quiet_step (fail); refine wpQuiet_nil (hK _ ?_); clear hK K); (refine lex_one (by kernel_rfl) (by kernel_rfl) (by kernel_rfl) (fun K hK => ?_); go_big_quiet_step (fail); refine wpQuiet_nil (hK _ ?_); clear hK K); (refine lex_one (by kernel_rfl) (by kernel_rfl) (by kernel_rfl) (fun K hK => ?_); go_big_quiet_step (fail); refine wpQuiet_nil (hK _ ?_); clear hK K); (refine lex_one (by kernel_rfl) (by kernel_rfl) (by kernel_rfl) (fun K hK => ?_); go_big_quiet_step (fail); refine wpQuiet_nil (hK _ ?_); clear hK K); (refine lex_one (by kernel_rfl) (by kernel_rfl) (by kernel_rfl) (fun K hK => ?_); go_big_quiet_step (fail); refine wpQuiet_nil (hK _ ?_); clear hK K); (refine lex_one (by kernel_rfl) (by kernel_rfl) (by kernel_rfl) (fun K hK => ?_); go_big_quiet_step (fail); refine wpQuiet_nil (hK _ ?_); clear hK K); (refine lex_one (by kernel_rfl) (by kernel_rfl) (by kernel_rfl) (fun K hK => ?_); go_big_quiet_step (fail); refine wpQuiet_nil (hK _ ?_); clear hK K); (refine lex_one (by kernel_rfl) (by kernel_rfl) (by kernel_rfl) (fun K hK => ?_); go_big_quiet_step (fail); refine wpQuiet_nil (hK _ ?_); clear hK K); (refine lex_one (by kernel_rfl) (by kernel_rfl) (by kernel_rfl) (fun K hK => ?_); go_big_quiet_step (fail); refine wpQuiet_nil (hK _ ?_); clear hK K); (refine lex_one (by kernel_rfl) (by kernel_rfl) (by kernel_rfl) (fun K hK => ?_); go_big_quiet_step (fail); refine wpQuiet_nil (hK _ ?_); clear hK K); (refine lex_one (by kernel_rfl) (by kernel_rfl) (by kernel_rfl) (fun K hK => ?_); go_big_quiet_step (fail); refine wpQuiet_nil (hK _ ?_); clear hK K)
    (refine lex_val (v := .agg #[.slice la xl.length lc, .int .i64 xa, .int .i64 xb, .int .i64 xc]) (by kernel_rfl) (fun _ _ h => by cases h) (by kernel_rfl) (by kernel_rfl) (fun _ _ => by go_simp) (lex_put (type := 0) (pos := "") (fun K hK => ?_)); go_big_quiet_step (fail); refine wpQuiet_nil (hK _ ?_); clear hK K)
    refine lex_cells (m := 1) (news := ENWS la xl.length lc xa xb xc) hltr (by kernel_rfl) (fun _ _ h => by cases h) (by kernel_rfl) rfl 70 (fun W => by go_simp; rfl) ?_
    refine lex_app (s := 11) (x := 33) (t := 29) (e := 70) (i := i0) (z := .agg #[.slice none 0 0, .int .i64 0, .int .i64 0, .int .i64 0]) (bytes := 48) rfl rfl rfl Tryz.underlying29 hin hz0 hz1 hz2 rfl (by decide) rfl rfl rfl hrow rfl (by simp [Value.oneCell', ENWS]) (by unfold maxLen; omega) (by omega) hsz ?_
    refine lex_nil (by kernel_rfl) (by kernel_rfl) (by kernel_rfl) ?_
    rintro W4 hW4
    simp only [hideAll]
    rintro v' ⟨hown', _⟩ z _
    obtain ⟨va', vc', rfl⟩ := row_form hown'
    have hb4 : Below w.heap.size w W4 := hb.trans (Kept.below (Kept.of_grown (S := fun k => w.heap.size ≤ k) hW4.1 (fun k e => hlo k e)) hsz (fun k e => e))
    have hZs : entCells Z ++ ENWS la xl.length lc xa xb xc = entCells (Z ++ [(⟨xl, xa, xb, xc⟩, .slice la xl.length lc)]) := entCells_snoc Z ⟨xl, xa, xb, xc⟩ (.slice la xl.length lc)
    rw [hZs] at hown'
    simp only [Act.put, List.setIfInBounds_toArray, List.set_cons_succ, List.set_cons_zero]
    clear hW4 g0 g1 g2 g3 hrow hltr hlo hZs hb
    go_wp2_with fail
    go_roundw
    case rel =>
      refine ⟨Z.length + 1, Z ++ [(⟨xl, xa, xb, xc⟩, .slice la xl.length lc)], by omega, by go_num, by simp, ?_, by rw [List.length_append]; exact hown', fun z hz => ?_, hb4⟩
      · rw [HT.out, List.map_append, HZE.out]
        rfl
      · rcases List.mem_append.1 hz with hz | hz
        · exact hZ z hz
        · obtain rfl := List.mem_singleton.1 hz
          exact ⟨hok, hLab⟩
    case measure => simp [intOf]; omega
  · have hE : E.take Z.length = E := by rw [hiN, List.take_length]
    have hnl : ¬ (Z.length < E.length) := by omega
    have hnl' : decide ((Z.length : Int) < (E.length : Int)) = false := by simp; omega
    have hnl2 : decide (Z.length < E.length) = false := by simp; omega
    have hEA : EntsAt wr (.slice va Z.length vc) E := by
      have := entsAt_rowT hrow rfl (by omega) (fun z hz => ⟨(hZ z hz).1, (hZ z hz).2.below (hb.mono (Nat.le_refl _))⟩)
      rw [HZE.out, hE] at this
      exact this
    clear hiN hE
    go_wp2_with fail
    go_ret
    exact ⟨_, rfl, hEA, hb⟩
end Go.Proofs.YtpeahjocimhneaaGreatDoor
