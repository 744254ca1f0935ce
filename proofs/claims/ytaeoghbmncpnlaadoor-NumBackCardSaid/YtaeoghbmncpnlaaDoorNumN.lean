/- The walk of the law NumBack. -/
import Derived.Test.YtaeoghbmncpnlaaDoorNumM
import Derived.Test.YtaeoghbmncpnlaaDoorNumPlainB
namespace Go.Proofs.YtaeoghbmncpnlaaDoor
open Go.RowKit
attribute [local go_sem] bs_toList bs_size

theorem cut_ext (t : List UInt8) (k : Int) : (bs t).extract 0 (min (t.length : Int) (min (max k 0) 255)).toNat = bs (t.take (Num.szN k)) := by
  rw [bs_extract]
  congr 1
  unfold Num.szN Num.szI
  rcases Nat.le_total t.length (min (max k 0) 255).toNat with h | h
  · rw [show (min (t.length : Int) (min (max k 0) 255)).toNat - 0 = t.length from by omega, List.take_of_length_le h]; simp
  · rw [show (min (t.length : Int) (min (max k 0) 255)).toNat - 0 = (min (max k 0) 255).toNat from by omega]; simp

set_option maxRecDepth 100000 in
set_option maxHeartbeats 4000000 in
theorem NumBack_walk (n i : Int) (t : List UInt8) (k : Int) (r : List UInt8) (w : World) (h1 : 0 ≤ n) (h2 : n < 18446744073709551616) (h3 : -9223372036854775808 ≤ i) (h4 : i ≤ 9223372036854775807) (h5 : t.length ≤ maxLen) (h6 : -9223372036854775808 ≤ k) (h7 : k ≤ 9223372036854775807) (h8 : r.length ≤ maxLen) :
    Calls Tryd.prog 5 #[.int .u64 n, .int .i64 i, .string (bs t), .int .i64 k, .string (bs r)] w fun e w' => e = .returned (.bool true) ∧ Below w.heap.size w w' := by
  unfold maxLen at h5 h8
  by_cases ht : 300 < t.length
  · go_enter Tryd.func5, Tryd.ntmps5
    go_wp2_with (go_at_call 10; refine (works_any _).mono ?_; rintro e w1 ⟨rfl, b1⟩)
    go_ret
    exact ⟨rfl, b1⟩
  by_cases hr : 300 < r.length
  · go_enter Tryd.func5, Tryd.ntmps5
    go_wp2_with (go_at_call 10; refine (works_any _).mono ?_; rintro e w1 ⟨rfl, b1⟩)
    go_ret
    exact ⟨rfl, b1⟩
  have ht' : t.length ≤ 300 := by omega
  have hr' : r.length ≤ 300 := by omega
  have hsl := (Num.small_len n.toNat).2
  have hwl := Num.wide_len n.toNat
  have htl := Num.text_len t
  have htl2 := (Num.small_len t.length).2
  have hfl := Num.fixed_len t k
  have hfz := Num.szN_le k
  have gS : ∀ x, Num.getSmall (Num.small n.toNat ++ x) = some (n.toNat, (Num.small n.toNat).length) := fun x => Num.getSmall_small n.toNat (by omega) x
  have gW : ∀ x, Num.getWide (Num.wide n.toNat ++ x) = some (n.toNat, 8) := fun x => Num.getWide_wide n.toNat (by omega) x
  have gT : ∀ x, Num.getText (Num.text t ++ x) t.length = some (t, (Num.text t).length) := fun x => Num.getText_text t t.length (Int.le_refl _) (by omega) x
  have gF : ∀ x, Num.getFixed (Num.fixed t k ++ x) k = some (t.take (Num.szN k), Num.szN k + 1) := fun x => Num.getFixed_fixed t k x
  have cS := Lib.hid (fun W => num_Small_any n W h1 h2)
  have cW := Lib.hid (fun W => num_Wide_any n W h1 h2)
  have cT := Lib.hid (fun W => num_Text_any t W (by omega))
  have cF := Lib.hid (fun W => num_Fixed_any t k W (by omega) h6 h7)
  generalize Num.small n.toNat = S at hsl gS cS
  generalize Num.wide n.toNat = D at hwl gW cW
  generalize Num.text t = T at htl gT cT
  generalize Num.fixed t k = F at hfl gF cF
  have kS := Lib.hid (fun G W (h : Cur W G (S ++ (D ++ (T ++ (F ++ r)))) false) => CSmall_some G _ n.toNat S.length (D ++ (T ++ (F ++ r))) W h (by simp; omega) (gS _) (by simp))
  have kW := Lib.hid (fun G W (h : Cur W G (D ++ (T ++ (F ++ r))) false) => CWide_some G _ n.toNat 8 (T ++ (F ++ r)) W h (by simp; omega) (gW _) (by rw [← hwl]; simp))
  have kT := Lib.hid (fun G W (h : Cur W G (T ++ (F ++ r)) false) => CText_some G _ t.length t T.length (F ++ r) W h (by simp; omega) (by omega) (by omega) (gT _) (by simp))
  have kF := Lib.hid (fun G W (h : Cur W G (F ++ r) false) => CFixed_some G _ k (t.take (Num.szN k)) (Num.szN k + 1) r W h (by simp; omega) h6 h7 (gF _) (by rw [← hfl]; simp))
  rw [Int.toNat_of_nonneg h1] at kS kW
  clear gS gW gT gF
  have e : S ++ (D ++ (T ++ (F ++ r))) = (((S ++ D) ++ T) ++ F) ++ r := by simp
  rw [e] at kS
  have a1 := fun W => run_add_bs (P := Tryd.prog) S D (by omega) W
  have a2 := fun W => run_add_bs (P := Tryd.prog) (S ++ D) T (by simp; omega) W
  have a3 := fun W => run_add_bs (P := Tryd.prog) (S ++ D ++ T) F (by simp; omega) W
  have a4 := fun W => run_add_bs (P := Tryd.prog) (S ++ D ++ T ++ F) r (by simp; omega) W
  clear e
  generalize S ++ D = X1 at a1 a2 a3 a4 kS
  generalize X1 ++ T = X2 at a2 a3 a4 kS
  generalize X2 ++ F = X3 at a3 a4 kS
  generalize X3 ++ r = X4 at a4 kS
  generalize D ++ (T ++ (F ++ r)) = Y1 at kS kW
  generalize T ++ (F ++ r) = Y2 at kW kT
  generalize F ++ r = Y3 at kT kF
  have hext := cut_ext t k
  clear hsl hwl htl htl2 hfl hfz
  go_enter Tryd.func5, Tryd.ntmps5
  go_wp2_with fail
  refine (works_any _).mono ?_; rintro e w1 ⟨rfl, b1⟩
  go_wp2_with fail
  refine (cS.out _).mono ?_; rintro e w2 ⟨rfl, b2⟩
  go_wp2_with fail
  refine (cW.out _).mono ?_; rintro e w3 ⟨rfl, b3⟩
  go_wp2_with fail
  refine (cT.out _).mono ?_; rintro e w4 ⟨rfl, b4⟩
  go_wp2_with fail
  refine (cF.out _).mono ?_; rintro e w5 ⟨rfl, b5⟩
  go_wp2_with fail
  clear a1 a2 a3 a4
  have hb0 := below3 (below3 (below3 (below3 b1 b2) b3) b4) b5
  clear b1 b2 b3 b4 b5
  have q0 := Cur.new w5 X4 false
  have hbA := hb0.alloc hb0.size (.cells #[.string (bs X4), .bool false] 32)
  have hG := hb0.size
  refine (kS.out _ _ q0).mono ?_; rintro e w6 ⟨rfl, q1, g2⟩
  have hbB := hbA.grown g2 (by simp; omega) (by intro k hk; cases hk; omega)
  clear hbA g2 q0
  generalize w5.heap.size = G at *
  go_wp2_with fail
  refine (kW.out _ _ q1).mono ?_; rintro e w7 ⟨rfl, q2, g2⟩
  have hbC := hbB.grown g2 hbB.size (by intro k hk; cases hk; omega)
  clear hbB g2 q1
  go_wp2_with fail
  refine (kT.out _ _ q2).mono ?_; rintro e w8 ⟨rfl, q3, g2⟩
  have hbD := hbC.grown g2 hbC.size (by intro k hk; cases hk; omega)
  clear hbC g2 q2
  go_wp2_with fail
  refine (kF.out _ _ q3).mono ?_; rintro e w9 ⟨rfl, q4, g2⟩
  have hbE := hbD.grown g2 hbD.size (by intro k hk; cases hk; omega)
  clear hbD g2 q3
  have hx0 := q4.c0
  have hx1 := q4.c1
  have z1 := Num.zig_bd i h3 h4
  have z2 := Num.zag_bd n h1 h2
  go_wp2_with fail
  refine (num_Zig_any i _ h3 h4).mono ?_; rintro e wz ⟨rfl, rfl⟩
  go_wp2_with fail
  refine (num_Zag_any _ _ z1.1 z1.2).mono ?_; rintro e wz ⟨rfl, rfl⟩
  rw [Num.zag_zig]
  go_wp2_with fail
  refine (num_Zag_any n _ h1 h2).mono ?_; rintro e wz ⟨rfl, rfl⟩
  go_wp2_with fail
  refine (num_Zig_any _ _ z2.1 z2.2).mono ?_; rintro e wz ⟨rfl, rfl⟩
  rw [Num.zig_zag n h1]
  go_wp2
  go_ret
  exact ⟨rfl, hbE⟩
end Go.Proofs.YtaeoghbmncpnlaaDoor
