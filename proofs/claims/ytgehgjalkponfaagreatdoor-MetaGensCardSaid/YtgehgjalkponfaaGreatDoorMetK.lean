/- The fixed cases of the laws of layer 14: the walk of works. -/
import Derived.Test.YtgehgjalkponfaaGreatDoorMetH
namespace Go.Proofs.YtgehgjalkponfaaGreatDoor
open Go.RowKit Go.Maps Go.WideMaps
attribute [local go_sem] bs_toList bs_size

def mtA : Mt := ⟨2, 5, 4, [1, 3]⟩
theorem mtA_valid : validM mtA = true := by decide
theorem mtA_ok : mtA.ok := by unfold Mt.ok mtA; simp
theorem zero_ok : zeroMt.ok := by unfold Mt.ok zeroMt; simp
theorem zero_valid : validM zeroMt = false := by decide
theorem putA : putM mtA = ((putM mtA).1, 0) ∧ (putM mtA).1.length = 20 := by
  have h : putM mtA = (headB magicM mtA.gen.toNat 0 ++ framePut (bodyB mtA), 0) := by
    unfold putM
    rw [if_pos mtA_valid]
  rw [h]
  refine ⟨rfl, ?_⟩
  have hb : (bodyB mtA).length = 5 := by decide
  rw [List.length_append]
  unfold headB framePut
  rw [checkedB_len, checkedB_len, Num.text_len, hb]
  rfl
theorem parseA : parseB (walK ++ 45 :: [48, 48, 48, 48, 48, 55]) = (walK, 7, true) := by
  have : nameB walK 7 = walK ++ 45 :: [48, 48, 48, 48, 48, 55] := by decide
  rw [← this]
  exact parse_name walK 7 (.inl rfl) (by decide) (by decide)
theorem parseC : parseB [119, 97, 108, 45, 55] = ([], 0, false) := parse_false _ (by decide)
set_option maxRecDepth 100000 in
set_option maxHeartbeats 4000000 in
theorem works_any (w : World) (hG : Gl w) :
    Calls Tryz.prog 9 #[] w fun e w' => e = .returned (.bool true) ∧ Below w.heap.size w w' := by
  obtain ⟨hp1, hp2⟩ := putA
  have hg1 : getM (putM mtA).1 = (some mtA, 0) := getM_put mtA mtA_valid
  have hI0 : IntsAt ((w.alloc (.cells #[.int .i64 1, .int .i64 3] 3)).alloc (.cells #[.int .i64 2, .int .i64 5, .int .i64 4, .slice (some ⟨w.heap.size, 0, none⟩) 2 2] 24)) (.slice (some ⟨w.heap.size, 0, none⟩) 2 2) [1, 3] :=
    (ints_lit (w := w) [1, 3] (by simp) (fun y hy => by
      simp only [List.mem_cons, List.not_mem_nil, or_false] at hy
      rcases hy with rfl | rfl <;> omega)).below (one_alloc _ _)
  have kA := Blk.new (w.alloc (.cells #[.int .i64 1, .int .i64 3] 3)) 24 #[.int .i64 2, .int .i64 5, .int .i64 4, .slice (some ⟨w.heap.size, 0, none⟩) 2 2]
  have b0 : Below w.heap.size w ((w.alloc (.cells #[.int .i64 1, .int .i64 3] 3)).alloc (.cells #[.int .i64 2, .int .i64 5, .int .i64 4, .slice (some ⟨w.heap.size, 0, none⟩) 2 2] 24)) := ((Below.refl _ w).alloc (Nat.le_refl _) _).alloc (by simp) _
  rw [World.size_alloc] at kA
  have q0 := Lib.hid (fun W (h : IntsAt W (.slice (some ⟨w.heap.size, 0, none⟩) 2 2) [1, 3]) => Put_any mtA (.slice (some ⟨w.heap.size, 0, none⟩) 2 2) W mtA_ok h)
  rw [show putMV mtA = .tuple #[.string (bs (putM mtA).1), .int .i64 0] by unfold putMV; rw [hp1]] at q0
  rw [show mtV mtA (.slice (some ⟨w.heap.size, 0, none⟩) 2 2) = .agg #[.int .i64 2, .int .i64 5, .int .i64 4, .slice (some ⟨w.heap.size, 0, none⟩) 2 2] from rfl] at q0
  have q1 := Lib.hid (fun W => Get_meta_any (putM mtA).1 W (by omega))
  rw [hg1] at q1
  generalize (putM mtA).1 = PA at *
  obtain ⟨⟨c0, c1, c2, c3⟩, _⟩ := cells4 kA
  go_enter Tryz.func9, Tryz.ntmps9
  go_wp2_with fail
  refine (q0.out _ hI0).mono ?_
  rintro e w1 ⟨rfl, b1⟩
  have B1 := b0.trans (b1.mono b0.size)
  have k1 := Blk.below kA b1 kA.lt
  have hI1 := hI0.below b1
  clear q0 c0 c1 c2 c3 kA hI0
  go_wp2_with fail
  refine (q1.out _).mono ?_
  rintro e w2 ⟨bv, rfl, hI2, b2⟩
  simp only [Option.getD_some] at hI2 ⊢
  have B2 := B1.trans (b2.mono B1.size)
  obtain ⟨na, nc, rfl, _⟩ := id hI2
  rw [show getMV mtA (.slice na mtA.blocks.length nc) 0 = .tuple #[.agg #[.int .i64 2, .int .i64 5, .int .i64 4, .slice na 2 nc], .int .i64 0] from rfl]
  have kn := Blk.new w2 24 #[.int .i64 2, .int .i64 5, .int .i64 4, .slice na 2 nc]
  have b3 := one_alloc w2 (.cells #[.int .i64 2, .int .i64 5, .int .i64 4, .slice na 2 nc] 24)
  have b23 := b2.trans (b3.mono b2.size)
  have k3 := Blk.below k1 b23 k1.lt
  have hI3 := hI1.below b23
  have hN3 := hI2.below b3
  have B3 := B1.trans (b23.mono B1.size)
  have qp := Lib.hid (Parse_any (walK ++ 45 :: [48, 48, 48, 48, 48, 55]) _ (hG.below B3) (by decide))
  rw [parseA, show bs (walK ++ 45 :: [48, 48, 48, 48, 48, 55]) = (⟨#[119, 97, 108, 45, 48, 48, 48, 48, 48, 55]⟩ : ByteArray) from rfl, show parseV (walK, 7, true) = .tuple #[.string ⟨#[119, 97, 108]⟩, .int .i64 7, .bool true] from rfl] at qp
  clear q1 hI1 hI2 b2 b3 b23 k1
  go_wp2_with fail
  refine qp.out.mono ?_
  rintro e w4 ⟨rfl, b4⟩
  have B4 := B3.trans (b4.mono B3.size)
  have qp2 := Lib.hid (Parse_any [119, 97, 108, 45, 55] _ (hG.below B4) (by decide))
  rw [parseC, show bs [119, 97, 108, 45, 55] = (⟨#[119, 97, 108, 45, 55]⟩ : ByteArray) from rfl, show parseV ([], 0, false) = .tuple #[.string ⟨#[]⟩, .int .i64 0, .bool false] from rfl] at qp2
  clear qp
  go_wp2_with fail
  refine qp2.out.mono ?_
  rintro e w5 ⟨rfl, b5⟩
  have B5 := B4.trans (b5.mono B4.size)
  have qg := Lib.hid (Get_meta_any [] w5 (by decide))
  rw [show getM [] = (none, 9) from rfl, show bs [] = (⟨#[]⟩ : ByteArray) from rfl] at qg
  clear qp2
  go_wp2_with fail
  refine qg.out.mono ?_
  rintro e w6 ⟨bz, rfl, hZ, b6⟩
  simp only [Option.getD_none] at hZ ⊢
  obtain ⟨za, zc, rfl, _⟩ := id hZ
  rw [show getMV zeroMt (.slice za zeroMt.blocks.length zc) 9 = .tuple #[.agg #[.int .i64 0, .int .i64 0, .int .i64 0, .slice za 0 zc], .int .i64 9] from rfl]
  have b7 := one_alloc w6 (.cells #[.int .i64 0, .int .i64 0, .int .i64 0, .slice za 0 zc] 24)
  have b37 := ((b4.trans (b5.mono b4.size)).trans (b6.mono (Nat.le_trans b4.size b5.size))).trans (b7.mono (Nat.le_trans (Nat.le_trans b4.size b5.size) b6.size))
  have k7 := Blk.below k3 b37 k3.lt
  have n7 := Blk.below kn b37 kn.lt
  have hI7 := hI3.below b37
  have hN7 := hN3.below b37
  have B7 := B3.trans (b37.mono B3.size)
  obtain ⟨⟨c0, c1, c2, c3⟩, _⟩ := cells4 k7
  obtain ⟨⟨d0, d1, d2, d3⟩, _⟩ := cells4 n7
  have qs := Lib.hid (Same_any mtA mtA _ _ _ hI7 hN7)
  rw [show sameM mtA mtA = true from rfl] at qs
  clear qg k3 kn hI3 hN3 b4 b5 b6 b7 b37
  go_wp2_with fail
  refine qs.out.mono ?_
  rintro e w8 ⟨rfl, b8⟩
  have k8 := Blk.below k7 b8 k7.lt
  have hI8 := hI7.below b8
  have B8 := B7.trans (b8.mono B7.size)
  obtain ⟨⟨x0, x1, x2, x3⟩, _⟩ := cells4 k8
  have qv := Lib.hid (Valid_any mtA _ _ mtA_ok hI8)
  rw [mtA_valid] at qv
  clear qs c0 c1 c2 c3 d0 d1 d2 d3 k7 n7 hI7 hN7
  go_wp2_with fail
  refine qv.out.mono ?_
  rintro e w9 ⟨rfl, b9⟩
  have B9 := B8.trans (b9.mono B8.size)
  have qz := Lib.hid (Valid_any zeroMt (.slice none 0 0) w9 zero_ok (ints_nil w9))
  rw [zero_valid] at qz
  clear qv
  go_wp2_with fail
  refine qz.out.mono ?_
  rintro e w10 ⟨rfl, b10⟩
  have B10 := B9.trans (b10.mono B9.size)
  have qn := Lib.hid (Name_any [119, 97, 108] 7 w10 (hG.below B10) (by decide) (by decide) (by decide))
  rw [show nameB [119, 97, 108] 7 = [119, 97, 108, 45, 48, 48, 48, 48, 48, 55] from by decide] at qn
  clear qz
  go_wp2_with fail
  refine qn.out.mono ?_
  rintro e w11 ⟨rfl, b11⟩
  have B11 := B10.trans (b11.mono B10.size)
  have qt := Lib.hid (Temp_any [109, 101, 116, 97] w11 (by decide))
  clear qn
  go_wp2_with fail
  refine qt.out.mono ?_
  rintro e w12 ⟨rfl, rfl⟩
  have hlen : ((PA.length : Int) == 20) = true := by rw [hp2]; rfl
  have hlen2 : (PA.length == 20) = true := by rw [hp2]; rfl
  clear hp2
  go_wp2_with fail
  go_ret
  exact ⟨rfl, B11⟩
end Go.Proofs.YtgehgjalkponfaaGreatDoor
