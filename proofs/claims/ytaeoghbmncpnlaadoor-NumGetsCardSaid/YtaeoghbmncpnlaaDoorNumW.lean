/- The walk of works: the document's example. -/
import Derived.Test.YtaeoghbmncpnlaaDoorNumV
import Derived.Deep.DrawnRows
import Derived.Deep.RegionWith
import Derived.Test.YtaeoghbmncpnlaaDoorLex
namespace Go.Proofs.YtaeoghbmncpnlaaDoor
open Go.RowKit
attribute [local go_sem] bs_toList bs_size
attribute [local go_sem ↓] Go.wp_at_zero Go.wp_at_succ

/-- The example's bytes. -/
def exB : List UInt8 := [172, 2, 7, 0, 0, 0, 0, 0, 0, 0, 2, 97, 98, 99, 0, 0, 1, 122]

def exB1 : List UInt8 := [7, 0, 0, 0, 0, 0, 0, 0, 2, 97, 98, 99, 0, 0, 1, 122]
def exB2 : List UInt8 := [2, 97, 98, 99, 0, 0, 1, 122]
def exB3 : List UInt8 := [99, 0, 0, 1, 122]

set_option maxRecDepth 100000 in
set_option maxHeartbeats 2000000 in
theorem works_any (w : World) : Calls Tryd.prog 10 #[] w fun e w' => e = .returned (.bool true) ∧ Below w.heap.size w w' := by
  have cS := Lib.hid (fun W => (num_Small_any 300 W (by omega) (by omega)))
  rw [show Num.small (300 : Int).toNat = [172, 2] from by decide +kernel] at cS
  have cW := Lib.hid (fun W => (num_Wide_any 7 W (by omega) (by omega)))
  rw [show Num.wide (7 : Int).toNat = [7, 0, 0, 0, 0, 0, 0, 0] from by decide +kernel] at cW
  have cT := Lib.hid (fun W => (num_Text_any [97, 98] W (by simp)))
  rw [show Num.text [97, 98] = [2, 97, 98] from by decide +kernel] at cT
  have cF := Lib.hid (fun W => (num_Fixed_any [99] 3 W (by simp) (by omega) (by omega)))
  rw [show Num.fixed [99] 3 = [99, 0, 0, 1] from by decide +kernel] at cF
  have a1 : ∀ W, (Op.stringOp .add (bs [172, 2]) (bs [7, 0, 0, 0, 0, 0, 0, 0])).run Tryd.prog W = .ok (.string (bs [172, 2, 7, 0, 0, 0, 0, 0, 0, 0])) W := fun W => run_add_bs (P := Tryd.prog) [172, 2] [7, 0, 0, 0, 0, 0, 0, 0] (by simp) W
  have a2 : ∀ W, (Op.stringOp .add (bs [172, 2, 7, 0, 0, 0, 0, 0, 0, 0]) (bs [2, 97, 98])).run Tryd.prog W = .ok (.string (bs [172, 2, 7, 0, 0, 0, 0, 0, 0, 0, 2, 97, 98])) W := fun W => run_add_bs (P := Tryd.prog) [172, 2, 7, 0, 0, 0, 0, 0, 0, 0] [2, 97, 98] (by simp) W
  have a3 : ∀ W, (Op.stringOp .add (bs [172, 2, 7, 0, 0, 0, 0, 0, 0, 0, 2, 97, 98]) (bs [99, 0, 0, 1])).run Tryd.prog W = .ok (.string (bs [172, 2, 7, 0, 0, 0, 0, 0, 0, 0, 2, 97, 98, 99, 0, 0, 1])) W := fun W => run_add_bs (P := Tryd.prog) [172, 2, 7, 0, 0, 0, 0, 0, 0, 0, 2, 97, 98] [99, 0, 0, 1] (by simp) W
  have a4 : ∀ W, (Op.stringOp .add (bs [172, 2, 7, 0, 0, 0, 0, 0, 0, 0, 2, 97, 98, 99, 0, 0, 1]) ⟨#[122]⟩).run Tryd.prog W = .ok (.string (bs exB)) W := fun W => run_add_bs (P := Tryd.prog) [172, 2, 7, 0, 0, 0, 0, 0, 0, 0, 2, 97, 98, 99, 0, 0, 1] [122] (by simp) W
  go_enter Tryd.func10, Tryd.ntmps10
  go_wp2_with fail
  refine (cS.out _).mono ?_; rintro e w1 ⟨rfl, b1⟩
  go_wp2_with fail
  refine (cW.out _).mono ?_; rintro e w2 ⟨rfl, b2⟩
  go_wp2_with fail
  refine (cT.out _).mono ?_; rintro e w3 ⟨rfl, b3⟩
  go_wp2_with fail
  refine (cF.out _).mono ?_; rintro e w4 ⟨rfl, b4⟩
  go_wp2_with fail
  clear a1 a2 a3 a4 cW cT
  have k0 : Cur (w4.alloc (.cells #[.string (bs exB), .bool false] 32)) w4.heap.size exB false := Blk.new _ _ _
  have g0 := grown_alloc' w4 (.cells #[.string (bs exB), .bool false] 32) (some w4.heap.size)
  refine (CSmall_some _ exB 300 2 exB1 _ k0 (by simp [exB]) (by decide +kernel) rfl).mono ?_; rintro e w5 ⟨rfl, k1, g1⟩
  clear k0
  go_wp2_with fail
  refine (CWide_some _ exB1 7 8 exB2 _ k1 (by simp [exB1]) (by decide +kernel) rfl).mono ?_; rintro e w6 ⟨rfl, k2, g2⟩
  clear k1
  go_wp2_with fail
  refine (CText_some _ exB2 5 [97, 98] 3 exB3 _ k2 (by simp [exB2]) (by omega) (by omega) (by decide +kernel) rfl).mono ?_; rintro e w7 ⟨rfl, k3, g3⟩
  clear k2
  go_wp2_with fail
  refine (CFixed_some _ exB3 3 [99] 4 [122] _ k3 (by simp [exB3]) (by omega) (by omega) (by decide +kernel) rfl).mono ?_; rintro e w8 ⟨rfl, k4, g4⟩
  clear k3
  go_wp2_with fail
  refine (CDone _ [122] false _ k4).mono ?_; rintro e w8 ⟨rfl, rfl⟩
  go_wp2_with fail
  refine (CTake_some _ [122] 1 [122] 1 [] _ k4 (by simp) (by omega) (by omega) (by decide +kernel) rfl).mono ?_; rintro e w9 ⟨rfl, k5, g5⟩
  clear k4
  go_wp2_with fail
  refine (CDone _ [] false _ k5).mono ?_; rintro e w9 ⟨rfl, rfl⟩
  go_wp2_with fail
  refine (CTake_fail _ [] false 1 _ k5 (by simp) (by omega) (by omega) (.inr (by decide +kernel))).mono ?_; rintro e w10 ⟨rfl, k6, g6⟩
  clear k5
  go_wp2_with fail
  have hd1 : doneB [122] false = false := rfl
  have hd2 : doneB [] false = true := rfl
  rw [hd1, hd2]
  have hb0 : Below w.heap.size w w4 := ((b1.trans (b2.mono b1.size)).trans (b3.mono (Nat.le_trans b1.size b2.size))).trans (b4.mono (Nat.le_trans b1.size (Nat.le_trans b2.size b3.size)))
  have hG0 := grown_trans' g0 (grown_trans' g1 (grown_trans' g2 (grown_trans' g3 (grown_trans' g4 (grown_trans' g5 g6)))))
  have hG : w.heap.size ≤ w4.heap.size := hb0.size
  have hb : Below w.heap.size w w10 := hb0.grown hG0 hG (fun k hk => by cases hk; exact hG)
  have kb : ∀ x : GW w10, x.w.cell? ⟨w4.heap.size, 1, none⟩ = some (.bool true) := fun x => x.cell k6.c1
  have hlt : w4.heap.size < w10.heap.size := Blk.lt k6
  generalize w4.heap.size = G at *
  clear b1 b2 b3 b4 g0 g1 g2 g3 g4 g5 g6 hG0 hb0 k6 w1 w2 w3 hd1 hd2
  have cZ := Lib.hid (fun W => num_Zig_any (-1) W (by omega) (by omega))
  rw [show Num.zigI (-1) = 1 from by decide +kernel] at cZ
  have cG := Lib.hid (fun W => num_Zag_any 1 W (by omega) (by omega))
  rw [show Num.zagI 1 = -1 from by decide +kernel] at cG
  refine wp_region_at (by kernel_rfl) (by kernel_rfl) ?_
  refine lex_call (f := 11) (args := #[.int .u64 300]) (v := .string (bs [172, 2])) (by kernel_rfl) (fun _ _ h => by cases h) (by kernel_rfl) (by kernel_rfl) (fun _ => by go_simp) (fun W _ => cS.out W) (lex_put (type := 0) (pos := "") (fun K hK => ?_)); go_big_quiet_step (fail); refine wpQuiet_nil (hK _ ?_); clear hK K
  refine lex_make (rowOf_keeps [172, 2]) (by kernel_rfl) (fun _ _ h => by cases h) (by kernel_rfl) rfl (make_bytes 5 _ fun W => by go_simp) ?_
  refine lex_turn (by kernel_rfl) rfl rfl (by kernel_rfl) (by kernel_rfl) (turn_bytes 47 9 5 Tryd.underlying47 Tryd.underlying5 Tryd.underlying9 [172, 2]) (lex_put (type := 0) (pos := "") (fun K hK => ?_)); go_big_quiet_step (fail); refine wpQuiet_nil (hK _ ?_); clear hK K
  repeat (refine lex_one (by kernel_rfl) (by kernel_rfl) (by kernel_rfl) (fun K hK => ?_); go_big_quiet_step (fail); refine wpQuiet_nil (hK _ ?_); clear hK K)
  refine lex_call (f := 19) (args := #[.int .i64 (-1)]) (v := .int .u64 1) (by kernel_rfl) (fun _ _ h => by cases h) (by kernel_rfl) (by kernel_rfl) (fun _ => by go_simp) (fun W _ => ((cZ.out W).mono fun _ _ ⟨h1, h2⟩ => ⟨h1, h2 ▸ Below.refl _ _⟩)) (lex_put (type := 0) (pos := "") (fun K hK => ?_)); go_big_quiet_step (fail); refine wpQuiet_nil (hK _ ?_); clear hK K
  repeat (refine lex_one (by kernel_rfl) (by kernel_rfl) (by kernel_rfl) (fun K hK => ?_); go_big_quiet_step (fail); refine wpQuiet_nil (hK _ ?_); clear hK K)
  refine lex_call (f := 21) (args := #[.int .u64 1]) (v := .int .i64 (-1)) (by kernel_rfl) (fun _ _ h => by cases h) (by kernel_rfl) (by kernel_rfl) (fun _ => by go_simp) (fun W _ => ((cG.out W).mono fun _ _ ⟨h1, h2⟩ => ⟨h1, h2 ▸ Below.refl _ _⟩)) (lex_put (type := 0) (pos := "") (fun K hK => ?_)); go_big_quiet_step (fail); refine wpQuiet_nil (hK _ ?_); clear hK K
  repeat (refine lex_one (by kernel_rfl) (by kernel_rfl) (by kernel_rfl) (fun K hK => ?_); go_big_quiet_step (fail); refine wpQuiet_nil (hK _ ?_); clear hK K)
  refine lex_call (f := 17) (args := #[.string (bs [99]), .int .i64 3]) (v := .string (bs [99, 0, 0, 1])) (by kernel_rfl) (fun _ _ h => by cases h) (by kernel_rfl) (by kernel_rfl) (fun _ => by go_simp; rfl) (fun W _ => cF.out W) (lex_put (type := 0) (pos := "") (fun K hK => ?_)); go_big_quiet_step (fail); refine wpQuiet_nil (hK _ ?_); clear hK K
  refine lex_make (rowOf_keeps [99, 0, 0, 1]) (by kernel_rfl) (fun _ _ h => by cases h) (by kernel_rfl) rfl (make_bytes 5 _ fun W => by go_simp) ?_
  refine lex_turn (by kernel_rfl) rfl rfl (by kernel_rfl) (by kernel_rfl) (turn_bytes 47 9 5 Tryd.underlying47 Tryd.underlying5 Tryd.underlying9 [99, 0, 0, 1]) (lex_put (type := 0) (pos := "") (fun K hK => ?_)); go_big_quiet_step (fail); refine wpQuiet_nil (hK _ ?_); clear hK K
  repeat (refine lex_one (by kernel_rfl) (by kernel_rfl) (by kernel_rfl) (fun K hK => ?_); go_big_quiet_step (fail); refine wpQuiet_nil (hK _ ?_); clear hK K)
  refine lex_nil (by kernel_rfl) (by kernel_rfl) ?_
  intro w' hb' x1 x2
  simp only [List.map_nil, hideAll, Act.put, List.setIfInBounds_toArray, List.set_cons_succ, List.set_cons_zero]
  go_wp2
  go_ret
  exact ⟨rfl, hb.trans (hb'.mono hb.size)⟩
end Go.Proofs.YtaeoghbmncpnlaaDoor
