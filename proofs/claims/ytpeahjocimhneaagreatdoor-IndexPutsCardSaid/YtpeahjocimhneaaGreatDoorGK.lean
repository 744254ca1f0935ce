/- Whether two entries are alike: the walk. Whether entries are alike: the walk. Alike entries are the same: in plain words. -/
import Derived.Test.YtpeahjocimhneaaGreatDoorGJ
namespace Go.Proofs.YtpeahjocimhneaaGreatDoor
open Go.RowKit
attribute [local go_sem] bs_toList bs_size

def sameE (x y : En) : Bool := decide (x.last = y.last) && (decide (x.off = y.off) && (decide (x.len = y.len) && sameL x.labels y.labels))
set_option maxRecDepth 100000 in
set_option maxHeartbeats 1000000 in
theorem sameE_any (x y : En) (lv lu : Value) (w : World) (h1 : LabsAt w lv x.labels) (h2 : LabsAt w lu y.labels) :
    Calls Tryz.prog 49 #[enV lv x, enV lu y] w fun e w' => e = .returned (.bool (sameE x y)) ∧ Below w.heap.size w w' := by
  have HR := Lib.hid (show sameE x y = (decide (x.last = y.last) && (decide (x.off = y.off) && (decide (x.len = y.len) && sameL x.labels y.labels))) from rfl)
  obtain ⟨a, c, rfl, _⟩ := id h1
  obtain ⟨a', c', rfl, _⟩ := id h2
  obtain ⟨L, la, of, le⟩ := x
  obtain ⟨L', la', of', le'⟩ := y
  simp only at HR h1 h2
  rw [show enV (.slice a L.length c) ⟨L, la, of, le⟩ = .agg #[.slice a L.length c, .int .i64 la, .int .i64 of, .int .i64 le] from rfl, show enV (.slice a' L'.length c') ⟨L', la', of', le'⟩ = .agg #[.slice a' L'.length c', .int .i64 la', .int .i64 of', .int .i64 le'] from rfl]
  have b0 := one_alloc w (.cells #[.slice a L.length c, .int .i64 la, .int .i64 of, .int .i64 le] 59)
  have k0 := Blk.new w 59 #[.slice a L.length c, .int .i64 la, .int .i64 of, .int .i64 le]
  have b1 := one_alloc (w.alloc (.cells #[.slice a L.length c, .int .i64 la, .int .i64 of, .int .i64 le] 59)) (.cells #[.slice a' L'.length c', .int .i64 la', .int .i64 of', .int .i64 le'] 59)
  have k1 := Blk.new (w.alloc (.cells #[.slice a L.length c, .int .i64 la, .int .i64 of, .int .i64 le] 59)) 59 #[.slice a' L'.length c', .int .i64 la', .int .i64 of', .int .i64 le']
  have k2 := k0.below b1 k0.lt
  rw [World.size_alloc] at k1
  have B2 := b0.trans (b1.mono b0.size)
  obtain ⟨⟨c0, c1, c2, c3⟩, _⟩ := cells4 k2
  obtain ⟨⟨d0, d1, d2, d3⟩, _⟩ := cells4 k1
  have q := Lib.hid (LSame_any L L' _ _ _ ((h1.below b0).below b1) ((h2.below b0).below b1))
  generalize sameE ⟨L, la, of, le⟩ ⟨L', la', of', le'⟩ = R at *
  generalize sameL L L' = S at *
  clear h1 h2 k0 k1 k2 b0 b1
  go_enter Tryz.func49, Tryz.ntmps49
  by_cases t0 : la = la'
  · have f0 : (la == la') = true := by simpa using t0
    have f0' : decide (la = la') = true := by simpa using t0
    by_cases t1 : of = of'
    · have f1 : (of == of') = true := by simpa using t1
      have f1' : decide (of = of') = true := by simpa using t1
      by_cases t2 : le = le'
      · have f2 : (le == le') = true := by simpa using t2
        have f2' : decide (le = le') = true := by simpa using t2
        have HE := Lib.hid (show R = S by rw [HR.out]; simp [t0, t1, t2])
        clear HR t0 t1 t2
        go_wp2_with fail
        refine q.out.mono ?_
        rintro e w1 ⟨rfl, bq⟩
        go_wp2_with fail
        go_ret
        exact ⟨by rw [HE.out]; rfl, B2.trans (bq.mono B2.size)⟩
      · have f2 : (le == le') = false := by simpa using t2
        have f2' : decide (le = le') = false := by simpa using t2
        have HE := Lib.hid (show R = false by rw [HR.out]; simp [t0, t1, t2])
        clear HR t0 t1 t2
        go_wp2_with fail
        go_ret
        exact ⟨by rw [HE.out]; rfl, B2⟩
    · have f1 : (of == of') = false := by simpa using t1
      have f1' : decide (of = of') = false := by simpa using t1
      have HE := Lib.hid (show R = false by rw [HR.out]; simp [t0, t1])
      clear HR t0 t1
      go_wp2_with fail
      go_ret
      exact ⟨by rw [HE.out]; rfl, B2⟩
  · have f0 : (la == la') = false := by simpa using t0
    have f0' : decide (la = la') = false := by simpa using t0
    have HE := Lib.hid (show R = false by rw [HR.out]; simp [t0])
    clear HR t0
    go_wp2_with fail
    go_ret
    exact ⟨by rw [HE.out]; rfl, B2⟩
end Go.Proofs.YtpeahjocimhneaaGreatDoor
namespace Go.Proofs.YtpeahjocimhneaaGreatDoor
open Go.RowKit
attribute [local go_sem] bs_toList bs_size

def sameI : List En → List En → Bool
  | [], [] => true
  | x :: l, y :: m => sameE x y && sameI l m
  | _, _ => false
theorem sameI_len : ∀ (l m : List En), l.length ≠ m.length → sameI l m = false
  | [], [], h => (h rfl).elim
  | [], _ :: _, _ => rfl
  | _ :: _, [], _ => rfl
  | x :: l, y :: m, h => by
    rw [sameI, sameI_len l m (fun e => h (by simp [e])), Bool.and_false]
theorem cf_Same1 (a : Array Value) (W : World) : (callFunc 49 a).run Tryz.prog W = .ok (.enter 49 a) W := by kernel_rfl
set_option maxRecDepth 100000 in
set_option maxHeartbeats 2000000 in
theorem EqualFunc_any (E M : List En) (v u : Value) (w : World) (h1 : EntsAt w v E) (h2 : EntsAt w u M) :
    Calls Tryz.prog 48 #[v, u, .func (.func 49) #[] #[]] w fun e w' => e = .returned (.bool (sameI E M)) ∧ Below w.heap.size w w' := by
  obtain ⟨a, c, rfl, _, hl, _, hx⟩ := h1
  obtain ⟨a', c', rfl, _, hl', _, hx'⟩ := h2
  have HX := Lib.hid hx
  have HX' := Lib.hid hx'
  have hcf := cf_Same1
  have HR := Lib.hid (show sameI (E.drop 0) (M.drop 0) = sameI E M from rfl)
  have HL := Lib.hid (sameI_len E M)
  generalize sameI E M = R at *
  clear hx hx'
  go_enter Tryz.func48, Tryz.ntmps48
  by_cases hn : E.length = M.length
  · have f1 : ((E.length : Int) != (M.length : Int)) = false := by simp [hn]
    have f1' : (E.length != M.length) = false := by simp [hn]
    have HN := Lib.hid hn
    clear hn
    go_wp2_with fail
    clear f1 f1'
    go_loopw [17] (fun vi wr => ∃ i : Nat, i ≤ E.length ∧ vi = .int .i64 (i : Int) ∧ Hid (sameI (E.drop i) (M.drop i) = R) ∧ Below w.heap.size w wr) (fun vi _ => E.length - (intOf vi).toNat)
    case atStart => exact ⟨0, Nat.zero_le _, rfl, HR, Below.refl _ _⟩
    clear HR HL
    obtain ⟨i, hi, rfl, HI, hb⟩ := hrel
    rcases (show i < E.length ∨ i = E.length by omega) with hil | rfl
    · have hil' : i < M.length := by have := HN.out; omega
      obtain ⟨_, b, o, rfl, a1, c1, d0, hL, d1, d2, d3⟩ := HX.out i E[i] (List.getElem?_eq_getElem hil)
      obtain ⟨_, b', o', rfl, a2, c2, g0, hL', g1, g2, g3⟩ := HX'.out i M[i] (List.getElem?_eq_getElem hil')
      have e0 := (hb.cell (World.block_lt_of_cell? _ _ d0)).trans d0
      have e1 := (hb.cell (World.block_lt_of_cell? _ _ d1)).trans d1
      have e2 := (hb.cell (World.block_lt_of_cell? _ _ d2)).trans d2
      have e3 := (hb.cell (World.block_lt_of_cell? _ _ d3)).trans d3
      have hbA := one_alloc wr (.cells #[.slice a1 E[i].labels.length c1, .int .i64 E[i].last, .int .i64 E[i].off, .int .i64 E[i].len] 59)
      have hbB := hb.trans (hbA.mono hb.size)
      have s0 := (hbB.cell (World.block_lt_of_cell? _ _ g0)).trans g0
      have s1 := (hbB.cell (World.block_lt_of_cell? _ _ g1)).trans g1
      have s2 := (hbB.cell (World.block_lt_of_cell? _ _ g2)).trans g2
      have s3 := (hbB.cell (World.block_lt_of_cell? _ _ g3)).trans g3
      have HD := Lib.hid (show sameI (E.drop i) (M.drop i) = (sameE E[i] M[i] && sameI (E.drop (i + 1)) (M.drop (i + 1))) by rw [List.drop_eq_getElem_cons hil, List.drop_eq_getElem_cons hil', sameI])
      have HLL := Lib.hid hL
      have HLL' := Lib.hid hL'
      clear d0 d1 d2 d3 g0 g1 g2 g3 hL hL'
      generalize E[i] = x at *
      generalize M[i] = y at *
      have kA := Blk.new wr 59 #[.slice a1 x.labels.length c1, .int .i64 x.last, .int .i64 x.off, .int .i64 x.len]
      generalize hwA : wr.alloc (.cells #[.slice a1 x.labels.length c1, .int .i64 x.last, .int .i64 x.off, .int .i64 x.len] 59) = wA at *
      have hbC := one_alloc wA (.cells #[.slice a2 y.labels.length c2, .int .i64 y.last, .int .i64 y.off, .int .i64 y.len] 59)
      have hbD := hbB.trans (hbC.mono hbB.size)
      have kB := Blk.new wA 59 #[.slice a2 y.labels.length c2, .int .i64 y.last, .int .i64 y.off, .int .i64 y.len]
      have kA2 := kA.below hbC kA.lt
      have hsz : wA.heap.size = wr.heap.size + 1 := by rw [← hwA, World.size_alloc]
      rw [hsz] at kB
      subst hwA
      obtain ⟨⟨z0, z1, z2, z3⟩, _⟩ := cells4 kA2
      obtain ⟨⟨y0, y1, y2, y3⟩, _⟩ := cells4 kB
      have q := Lib.hid (sameE_any x y _ _ _ (((HLL.out.below (hb.mono (Nat.le_refl _))).below hbA).below hbC) (((HLL'.out.below hb).below hbA).below hbC))
      rw [show enV (.slice a1 x.labels.length c1) x = .agg #[.slice a1 x.labels.length c1, .int .i64 x.last, .int .i64 x.off, .int .i64 x.len] from rfl, show enV (.slice a2 y.labels.length c2) y = .agg #[.slice a2 y.labels.length c2, .int .i64 y.last, .int .i64 y.off, .int .i64 y.len] from rfl] at q
      go_wp2_with fail
      refine q.out.mono ?_
      rintro e w3 ⟨rfl, hb3⟩
      have hb4 := hbD.trans (hb3.mono hbD.size)
      clear q z0 z1 z2 z3 y0 y1 y2 y3 e0 e1 e2 e3 s0 s1 s2 s3 kA kB kA2
      cases hs : sameE x y with
      | true =>
        have HI2 := Lib.hid (show sameI (E.drop (i + 1)) (M.drop (i + 1)) = R by rw [← HI.out, HD.out, hs, Bool.true_and])
        clear HI HD
        go_wp2_with fail
        go_roundw
        case rel => exact ⟨i + 1, by omega, by go_num, HI2, hb4⟩
        case measure => simp [intOf]; omega
      | false =>
        have HI2 := Lib.hid (show R = false by rw [← HI.out, HD.out, hs, Bool.false_and])
        clear HI HD
        go_wp2_with fail
        go_ret
        exact ⟨by rw [HI2.out]; rfl, hb4⟩
    · have HI2 := Lib.hid (show R = true by rw [← HI.out, List.drop_length, HN.out, List.drop_length, sameI])
      clear HI
      go_wp2_with fail
      go_ret
      exact ⟨by rw [HI2.out]; rfl, hb⟩
  · have f1 : ((E.length : Int) != (M.length : Int)) = true := by simp; omega
    have f1' : (E.length != M.length) = true := by simp [hn]
    have HE := Lib.hid (HL.out hn)
    clear HL HR
    go_wp2_with fail
    go_ret
    exact ⟨by rw [HE.out]; rfl, Below.refl _ _⟩
set_option maxRecDepth 100000 in
theorem ISame_any (E M : List En) (v u : Value) (w : World) (h1 : EntsAt w v E) (h2 : EntsAt w u M) :
    Calls Tryz.prog 17 #[v, u] w fun e w' => e = .returned (.bool (sameI E M)) ∧ Below w.heap.size w w' := by
  have q := Lib.hid (EqualFunc_any E M v u w h1 h2)
  go_enter Tryz.func17, Tryz.ntmps17
  go_wp2_with fail
  refine q.out.mono ?_
  rintro e w1 ⟨rfl, hb⟩
  go_wp2_with fail
  go_ret
  exact ⟨rfl, hb⟩
end Go.Proofs.YtpeahjocimhneaaGreatDoor
namespace Go.Proofs.YtpeahjocimhneaaGreatDoor
open Go.RowKit

/-- Its texts are such as they are looked at. -/
def En.short (x : En) : Prop := ∀ y ∈ x.labels, y.1.length ≤ 1048576 ∧ y.2.length ≤ 1048576
theorem sameE_iff (x y : En) (h1 : x.short) (h2 : y.short) : sameE x y = true ↔ x = y := by
  have h := sameL_iff x.labels y.labels h1 h2
  unfold sameE
  rw [Bool.and_eq_true, Bool.and_eq_true, Bool.and_eq_true, decide_eq_true_iff, decide_eq_true_iff, decide_eq_true_iff, h]
  constructor
  · rintro ⟨a, b, c, d⟩
    exact En.ext' d a b c
  · rintro rfl
    exact ⟨rfl, rfl, rfl, rfl⟩
theorem sameI_iff : ∀ (l m : List En), (∀ x ∈ l, x.short) → (∀ x ∈ m, x.short) → (sameI l m = true ↔ l = m)
  | [], [], _, _ => ⟨fun _ => rfl, fun _ => rfl⟩
  | [], _ :: _, _, _ => ⟨fun h => (by cases h), fun h => (by cases h)⟩
  | _ :: _, [], _, _ => ⟨fun h => (by cases h), fun h => (by cases h)⟩
  | x :: l, y :: m, h1, h2 => by
    rw [sameI, Bool.and_eq_true, sameE_iff x y (h1 x List.mem_cons_self) (h2 y List.mem_cons_self), sameI_iff l m (fun z hz => h1 z (List.mem_cons_of_mem _ hz)) (fun z hz => h2 z (List.mem_cons_of_mem _ hz)), List.cons.injEq]
theorem ents_short {w : World} {v : Value} {E : List En} (h : EntsAt w v E) : ∀ x ∈ E, x.short := by
  intro x hx y hy
  obtain ⟨i, hi, rfl⟩ := List.mem_iff_getElem.1 hx
  obtain ⟨_, _, rfl, _, _, _, hE⟩ := h
  obtain ⟨_, b, o, _, a', c', _, hL, _⟩ := hE i _ (List.getElem?_eq_getElem hi)
  obtain ⟨j, hj, rfl⟩ := List.mem_iff_getElem.1 hy
  obtain ⟨_, _, _, _, hLx⟩ := hL
  obtain ⟨h1, h2, _⟩ := hLx j _ (List.getElem?_eq_getElem hj)
  exact ⟨h1, h2⟩
theorem sameI_at {w w' : World} {v u : Value} {E M : List En} (h1 : EntsAt w v E) (h2 : EntsAt w' u M) : sameI E M = true ↔ E = M := sameI_iff E M (ents_short h1) (ents_short h2)
end Go.Proofs.YtpeahjocimhneaaGreatDoor
