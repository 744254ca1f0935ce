/- Numbers as a generation has them: the walk of numbers. -/
import Derived.Test.YtgehgjalkponfaaGreatDoorMetS
import Derived.Test.YtgehgjalkponfaaGreatDoorBld
namespace Go.Proofs.YtgehgjalkponfaaGreatDoor
open Go.RowKit Go.Maps Go.WideMaps
attribute [local go_sem] bs_toList bs_size

theorem builderString_any (B b : Nat) (l : List UInt8) (w : World) (h : BldAt B b l w) (hBw : B ≤ w.heap.size) :
    Calls Tryz.prog 50 #[.pointer (some ⟨b, 0, none⟩)] w fun e w' => e = .returned (.string (bs l)) ∧ BldAt B b l w' ∧ Below B w w' := Tryz.Builder_String_any_f B b l w h hBw
set_option maxRecDepth 100000 in
set_option maxHeartbeats 2000000 in
theorem numbers_any (g : Int) (L : List Int) (v : Value) (w : World) (h : IntsAt w v L) :
    Calls Tryz.prog 24 #[.int .i64 g, v] w fun e w' => e = .returned (.string (bs (L.flatMap (numB g)))) ∧ Below w.heap.size w w' := by
  obtain ⟨a, c, rfl, _, hn, _, hc⟩ := h
  have HC := Lib.hid hc
  clear hc
  go_enter Tryz.func24, Tryz.ntmps24
  go_wp2
  go_loopw [10] (fun vi wr => ∃ (i : Nat) (l : List UInt8), i ≤ L.length ∧ vi = .int .i64 (i : Int) ∧ l = (L.take i).flatMap (numB g) ∧ l.length ≤ i * 10 ∧ BldAt w.heap.size w.heap.size l wr ∧ Below w.heap.size w wr) (fun vi _ => L.length - (intOf vi).toNat)
  case atStart => exact ⟨0, [], Nat.zero_le _, rfl, rfl, Nat.zero_le _, BldAt.fresh w, one_alloc w _⟩
  obtain ⟨i, l, hi, rfl, hl, hll, hB, hb⟩ := hrel
  rcases (show i < L.length ∨ i = L.length by omega) with hil | rfl
  · have HL := Lib.hid (show l ++ numB g L[i] = (L.take (i + 1)).flatMap (numB g) by
      rw [List.take_succ_eq_append_getElem hil, List.flatMap_append, hl]; simp)
    obtain ⟨b, o, rfl, d0⟩ := HC.out i _ (List.getElem?_eq_getElem hil)
    have e0 := (hb.cell (World.block_lt_of_cell? _ _ d0)).trans d0
    have hnl := numB_len g L[i]
    clear d0 hl
    generalize L[i] = x at *
    have hu := u64N_wrap x
    have hult := u64N_lt x
    have HB := Lib.hid (fun W (hW : Below wr.heap.size wr W) => (⟨hB.below hW, hb.trans (hW.mono hb.size)⟩ : BldAt w.heap.size w.heap.size l W ∧ Below w.heap.size w W))
    clear hB
    have Q := Lib.hid (fun W (hW : BldAt w.heap.size w.heap.size l W) (hs : w.heap.size ≤ W.heap.size) => write_any w.heap.size w.heap.size l (numB g x) W hW (by omega) hs)
    by_cases hg : g = 1
    · have f1 : (g == 1) = true := by simpa using hg
      have hN : numB g x = Num.wide (u64N x) := by unfold numB; rw [if_pos hg]
      rw [hN] at HL hnl Q
      have q1 := Lib.hid (num_Wide_any (u64N x) wr (by omega) (by omega))
      rw [Int.toNat_natCast] at q1
      clear hN hg
      generalize Num.wide (u64N x) = y at *
      go_wp2_with fail
      refine q1.out.mono ?_
      rintro e w1 ⟨rfl, hb1⟩
      obtain ⟨hB1, hbb⟩ := HB.out w1 hb1
      go_wp2_with fail
      refine (Q.out w1 hB1 hbb.size).mono ?_
      rintro e w3 ⟨rfl, hB3, hb3⟩
      go_wp2_with fail
      go_roundw
      case rel => exact ⟨i + 1, l ++ y, by omega, by go_num, HL.out, by rw [List.length_append]; omega, hB3, hbb.trans hb3⟩
      case measure => simp [intOf]; omega
    · have f1 : (g == 1) = false := by simpa using hg
      have hN : numB g x = Num.small (u64N x) := by unfold numB; rw [if_neg hg]
      rw [hN] at HL hnl Q
      have q1 := Lib.hid (num_Small_any (u64N x) wr (by omega) (by omega))
      rw [Int.toNat_natCast] at q1
      clear hN hg
      generalize Num.small (u64N x) = y at *
      go_wp2_with fail
      refine q1.out.mono ?_
      rintro e w1 ⟨rfl, hb1⟩
      obtain ⟨hB1, hbb⟩ := HB.out w1 hb1
      go_wp2_with fail
      refine (Q.out w1 hB1 hbb.size).mono ?_
      rintro e w3 ⟨rfl, hB3, hb3⟩
      go_wp2_with fail
      go_roundw
      case rel => exact ⟨i + 1, l ++ y, by omega, by go_num, HL.out, by rw [List.length_append]; omega, hB3, hbb.trans hb3⟩
      case measure => simp [intOf]; omega
  · rw [List.take_length] at hl
    subst hl
    have Q := Lib.hid (builderString_any _ _ _ _ hB hb.size)
    go_wp2_with fail
    refine Q.out.mono ?_
    rintro e w3 ⟨rfl, hB3, hb3⟩
    go_wp2_with fail
    go_ret
    exact ⟨rfl, hb.trans hb3⟩
end Go.Proofs.YtgehgjalkponfaaGreatDoor
