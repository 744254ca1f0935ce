/- The reference of layer 14: the walks of number, Valid, Put, get. The reference: whether two rows, two metas are alike; a meta as the reference has it. The reference: the meta that bytes may be: the walk of read. The reference: the meta that bytes may be: the walk of read. The reference: the meta that bytes are: the walk of Get. The law MetaGets: the walk. The law MetaPuts: the walk. -/
import Derived.Test.YtgehgjalkponfaaGreatDoorGG
import Derived.Test.YtgehgjalkponfaaGreatDoorGF
namespace Go.Proofs.YtgehgjalkponfaaGreatDoor
open Go.RowKit Go.Maps Go.WideMaps
attribute [local go_sem] bs_toList bs_size

theorem ref14_number_any (n g : Int) (w : World) (h0 : 0 ≤ n) (h1 : n ≤ 999999) :
    Calls Tryz.prog 29 #[.int .i64 n, .int .i64 g] w fun e w' => e = .returned (.string (bs (numB g n))) ∧ Below w.heap.size w w' := by
  obtain ⟨e1, e2⟩ := u64N_pos n h0 h1
  have hw : IntKind.u64.wrap n = n := by simp only [IntKind.wrap, IntKind.bits, IntKind.signed]; simp; omega
  have q1 := Lib.hid (ref_Wide_any n w (by omega) (by omega))
  have q2 := Lib.hid (ref_Small_any n w (by omega) (by omega))
  have HN := Lib.hid (show numB g n = if g = 1 then Num.wide n.toNat else Num.small n.toNat by
    unfold numB
    rw [show u64N n = n.toNat by omega])
  clear e1 e2
  generalize Num.wide n.toNat = a at *
  generalize Num.small n.toNat = b at *
  generalize numB g n = R at *
  by_cases hg : g = 1
  · have f : (g == 1) = true := by simpa using hg
    rw [if_pos hg] at HN
    clear hg q2
    go_enter Tryz.func29, Tryz.ntmps29
    go_wp2_with fail
    refine q1.out.mono ?_
    rintro e w1 ⟨rfl, b1⟩
    go_wp2
    go_ret
    exact ⟨by rw [HN.out]; rfl, b1⟩
  · have f : (g == 1) = false := by simpa using hg
    rw [if_neg hg] at HN
    clear hg q1
    go_enter Tryz.func29, Tryz.ntmps29
    go_wp2_with fail
    refine q2.out.mono ?_
    rintro e w1 ⟨rfl, b1⟩
    go_wp2
    go_ret
    exact ⟨by rw [HN.out]; rfl, b1⟩

set_option maxRecDepth 100000 in
theorem ref14_get_any (s : List UInt8) (g : Int) (w : World) (hl : s.length ≤ 1099511627776) :
    Calls Tryz.prog 68 #[.string (bs s), .int .i64 g] w fun e w' => e = .returned (refN s (getN g s)) ∧ Below w.heap.size w w' := by
  have q1 := Lib.hid (ref_GetWide_any s w hl)
  have q2 := Lib.hid (ref_GetSmall_any s w hl)
  have HN := Lib.hid (show getN g s = if g = 1 then Num.getWide s else Num.getSmall s from rfl)
  generalize getN g s = R at *
  generalize Num.getWide s = a at *
  generalize Num.getSmall s = b at *
  by_cases hg : g = 1
  · have f : (g == 1) = true := by simpa using hg
    rw [if_pos hg] at HN
    clear hg q2
    obtain rfl := HN.out
    clear HN
    cases R with
    | none =>
      rw [show refN s none = .tuple #[.int .u64 0, .string (bs s), .bool false] from rfl] at *
      go_enter Tryz.func68, Tryz.ntmps68
      go_wp2_with fail
      refine q1.out.mono ?_
      rintro e w1 ⟨rfl, b1⟩
      go_wp2
      go_ret3
      exact ⟨rfl, b1⟩
    | some x =>
      obtain ⟨n, k⟩ := x
      rw [show refN s (some (n, k)) = .tuple #[.int .u64 (n : Int), .string (bs (s.drop k)), .bool true] from rfl] at *
      generalize s.drop k = r at *
      go_enter Tryz.func68, Tryz.ntmps68
      go_wp2_with fail
      refine q1.out.mono ?_
      rintro e w1 ⟨rfl, b1⟩
      go_wp2
      go_ret3
      exact ⟨rfl, b1⟩
  · have f : (g == 1) = false := by simpa using hg
    rw [if_neg hg] at HN
    clear hg q1
    obtain rfl := HN.out
    clear HN
    cases R with
    | none =>
      rw [show refN s none = .tuple #[.int .u64 0, .string (bs s), .bool false] from rfl] at *
      go_enter Tryz.func68, Tryz.ntmps68
      go_wp2_with fail
      refine q2.out.mono ?_
      rintro e w1 ⟨rfl, b1⟩
      go_wp2
      go_ret3
      exact ⟨rfl, b1⟩
    | some x =>
      obtain ⟨n, k⟩ := x
      rw [show refN s (some (n, k)) = .tuple #[.int .u64 (n : Int), .string (bs (s.drop k)), .bool true] from rfl] at *
      generalize s.drop k = r at *
      go_enter Tryz.func68, Tryz.ntmps68
      go_wp2_with fail
      refine q2.out.mono ?_
      rintro e w1 ⟨rfl, b1⟩
      go_wp2
      go_ret3
      exact ⟨rfl, b1⟩

set_option maxRecDepth 100000 in
set_option maxHeartbeats 40000000 in
theorem ref14_Valid_any (m : Mt) (bv : Value) (w : World) (hm : m.ok) (hb : IntsAt w bv m.blocks) :
    Calls Tryz.prog 13 #[mtV m bv] w fun e w' => e = .returned (.bool (validM m)) ∧ Below w.heap.size w w' := by
  have hno := valid_no m
  have hyes := valid_okTo m
  have hbad := fun h1 h2 (i : Nat) (h : i < m.blocks.length) => valid_bad m h1 h2 h
  have hstep := fun (i : Nat) (h : i < m.blocks.length) => okTo_step m h
  have hz := okTo_zero m
  obtain ⟨g, nx, wl, L⟩ := m
  obtain ⟨⟨g1, g2⟩, ⟨n1, n2⟩, w1, w2⟩ := hm
  simp only at g1 g2 n1 n2 w1 w2 hb hno hyes hbad hstep
  generalize validM ⟨g, nx, wl, L⟩ = V at *
  generalize okTo ⟨g, nx, wl, L⟩ = OK at *
  have HNo := Lib.hid hno
  have HYes := Lib.hid hyes
  have HBad := Lib.hid hbad
  have HStep := Lib.hid hstep
  have HZ := Lib.hid hz
  clear hno hyes hbad hstep hz
  obtain ⟨ba, bc, rfl, hnil, hL, hLb, hc⟩ := id hb
  rw [show mtV ⟨g, nx, wl, L⟩ (.slice ba L.length bc) = .agg #[.int .i64 g, .int .i64 nx, .int .i64 wl, .slice ba L.length bc] from rfl]
  have b0 := one_alloc w (.cells #[.int .i64 g, .int .i64 nx, .int .i64 wl, .slice ba L.length bc] 30)
  have k0 := Blk.new w 30 #[.int .i64 g, .int .i64 nx, .int .i64 wl, .slice ba L.length bc]
  obtain ⟨⟨c0, c1, c2, c3⟩, _⟩ := cells4 k0
  have hb1 := hb.below b0
  obtain ⟨_, _, e1, _, _, _, hc1⟩ := hb1
  obtain ⟨rfl, _, rfl⟩ := Value.slice.inj e1
  have HC := Lib.hid hc1
  have HL := Lib.hid hLb
  clear hc hc1 e1 hnil hLb hb
  have hf : ¬ ((1 ≤ g ∧ g ≤ 3 ∧ 0 ≤ nx ∧ nx ≤ 999999 ∧ L.length ≤ 40) ∧ 0 ≤ wl ∧ wl < nx) → V = false := HNo.out
  have HF := Lib.hid hf
  clear hf HNo
  by_cases j0 : g < 1
  · have f0 : decide (g < 1) = true := by simpa using j0
    have HR := Lib.hid (HF.out (by omega))
    clear j0
    go_enter Tryz.func13, Tryz.ntmps13
    go_wp2
    go_ret
    exact ⟨by rw [HR.out]; rfl, b0⟩
  have f0 : decide (g < 1) = false := by simpa using j0
  by_cases j1 : 3 < g
  · have f1 : decide (3 < g) = true := by simpa using j1
    have HR := Lib.hid (HF.out (by omega))
    clear j0 j1
    go_enter Tryz.func13, Tryz.ntmps13
    go_wp2
    go_ret
    exact ⟨by rw [HR.out]; rfl, b0⟩
  have f1 : decide (3 < g) = false := by simpa using j1
  by_cases j2 : nx < 0
  · have f2 : decide (nx < 0) = true := by simpa using j2
    have HR := Lib.hid (HF.out (by omega))
    clear j0 j1 j2
    go_enter Tryz.func13, Tryz.ntmps13
    go_wp2
    go_ret
    exact ⟨by rw [HR.out]; rfl, b0⟩
  have f2 : decide (nx < 0) = false := by simpa using j2
  by_cases j3 : 999999 < nx
  · have f3 : decide (999999 < nx) = true := by simpa using j3
    have HR := Lib.hid (HF.out (by omega))
    clear j0 j1 j2 j3
    go_enter Tryz.func13, Tryz.ntmps13
    go_wp2
    go_ret
    exact ⟨by rw [HR.out]; rfl, b0⟩
  have f3 : decide (999999 < nx) = false := by simpa using j3
  by_cases j4 : wl < 0
  · have f4 : decide (wl < 0) = true := by simpa using j4
    have HR := Lib.hid (HF.out (by omega))
    clear j0 j1 j2 j3 j4
    go_enter Tryz.func13, Tryz.ntmps13
    go_wp2
    go_ret
    exact ⟨by rw [HR.out]; rfl, b0⟩
  have f4 : decide (wl < 0) = false := by simpa using j4
  by_cases j5 : nx ≤ wl
  · have f5 : decide (nx ≤ wl) = true := by simpa using j5
    have HR := Lib.hid (HF.out (by omega))
    clear j0 j1 j2 j3 j4 j5
    go_enter Tryz.func13, Tryz.ntmps13
    go_wp2
    go_ret
    exact ⟨by rw [HR.out]; rfl, b0⟩
  have f5 : decide (nx ≤ wl) = false := by simpa using j5
  by_cases j6 : (40 : Int) < (L.length : Int)
  · have f6 : decide ((40 : Int) < (L.length : Int)) = true := by simpa using j6
    have f6' : decide (40 < L.length) = true := by simp; omega
    have HR := Lib.hid (HF.out (by omega))
    clear j0 j1 j2 j3 j4 j5 j6
    go_enter Tryz.func13, Tryz.ntmps13
    go_wp2
    go_ret
    exact ⟨by rw [HR.out]; rfl, b0⟩
  have f6 : decide ((40 : Int) < (L.length : Int)) = false := by simpa using j6
  have f6' : decide (40 < L.length) = false := by simp; omega
  have hI : 1 ≤ g ∧ g ≤ 3 ∧ 0 ≤ nx ∧ nx ≤ 999999 ∧ L.length ≤ 40 := by omega
  have hJ : 0 ≤ wl ∧ wl < nx := by omega
  have HY := Lib.hid (HYes.out hI hJ)
  have HB := Lib.hid (fun i h => HBad.out hI hJ i h)
  clear HF HYes HBad hI hJ j0 j1 j2 j3 j4 j5 j6
  go_enter Tryz.func13, Tryz.ntmps13
  go_wp2_with fail
  clear f0 f1 f2 f3 f4 f5 f6 f6'
  go_loop [3] (fun vi => ∃ i : Nat, i ≤ L.length ∧ vi = .int .i64 (i : Int) ∧ OK i) (fun vi => L.length - (intOf vi).toNat)
  case atStart => exact ⟨0, Nat.zero_le _, rfl, HZ.out⟩
  obtain ⟨i, hi, rfl, hok⟩ := hrel
  rcases (show i < L.length ∨ i = L.length by omega) with hil | rfl
  · obtain ⟨b, o, rfl, cx⟩ := HC.out i _ (List.getElem?_eq_getElem hil)
    have hxb := HL.out L[i] (List.getElem_mem hil)
    have HBi := Lib.hid (HB.out i hil)
    have HSi := Lib.hid (HStep.out i hil)
    have hilI : (i : Int) < (L.length : Int) := by omega
    generalize L[i] = x at *
    by_cases x0 : x < 0
    · have fx : decide (x < 0) = true := by simpa using x0
      have HR := Lib.hid (HBi.out (fun h => by omega))
      clear x0 HBi HSi
      go_wp2
      go_ret
      exact ⟨by rw [HR.out]; rfl, b0⟩
    have fx0 : decide (x < 0) = false := by simpa using x0
    by_cases x1 : nx ≤ x
    · have fx : decide (nx ≤ x) = true := by simpa using x1
      have HR := Lib.hid (HBi.out (fun h => by omega))
      clear x0 x1 HBi HSi
      go_wp2
      go_ret
      exact ⟨by rw [HR.out]; rfl, b0⟩
    have fx1 : decide (nx ≤ x) = false := by simpa using x1
    by_cases x2 : x = wl
    · have fx : (x == wl) = true := by simpa using x2
      have HR := Lib.hid (HBi.out (fun h => h.2.2.1 x2))
      clear x0 x1 x2 HBi HSi
      go_wp2
      go_ret
      exact ⟨by rw [HR.out]; rfl, b0⟩
    have fx2 : (x == wl) = false := by simpa using x2
    have HX := Lib.hid (show 0 ≤ x ∧ x < nx ∧ x ≠ wl from ⟨by omega, by omega, x2⟩)
    clear x0 x1 x2
    go_wp2_with fail
    clear fx0 fx1 fx2
    go_loop [5] (fun vk => ∃ k : Nat, k ≤ i ∧ vk = .int .i64 (k : Int) ∧ ∀ j y, j < k → L[j]? = some y → y ≠ x) (fun vk => i - (intOf vk).toNat)
    case atStart => exact ⟨0, Nat.zero_le _, rfl, fun j y h => by omega⟩
    obtain ⟨k, hk, rfl, hall⟩ := hrel
    have HA := Lib.hid hall
    clear hall
    rcases (show k < i ∨ k = i by omega) with hki | rfl
    · obtain ⟨b', o', e', cy⟩ := HC.out k _ (List.getElem?_eq_getElem (show k < L.length by omega))
      obtain ⟨rfl, rfl, _⟩ := Addr.mk.inj (Option.some.inj e')
      have hyL := List.getElem?_eq_getElem (show k < L.length by omega)
      have HyL := Lib.hid hyL
      have hkiI : (k : Int) < (i : Int) := by omega
      clear hyL e'
      generalize L[k] = y at *
      by_cases hyx : y = x
      · have fy : (y == x) = true := by simpa using hyx
        have HR := Lib.hid (HBi.out (fun h => h.2.2.2 k y hki HyL.out hyx))
        clear hyx HBi HSi HA
        go_wp2
        go_ret
        exact ⟨by rw [HR.out]; rfl, b0⟩
      · have fy : (y == x) = false := by simpa using hyx
        have HN := Lib.hid (show ∀ j z, j < k + 1 → L[j]? = some z → z ≠ x from fun j z hj hz => by
          rcases (show j < k ∨ j = k by omega) with h | rfl
          · exact HA.out j z h hz
          · rw [HyL.out] at hz
            obtain rfl := Option.some.inj hz
            exact hyx)
        clear hyx HBi HSi HA
        go_wp2_with fail
        go_round
        case rel => exact ⟨k + 1, by omega, by go_num, HN.out⟩
        case measure => simp [intOf]; omega
    · have HN := Lib.hid (HSi.out.2 ⟨hok, HX.out.1, HX.out.2.1, HX.out.2.2, HA.out⟩)
      clear HBi HSi HA
      go_wp2_with fail
      go_round
      case rel => exact ⟨k + 1, by omega, by go_num, HN.out⟩
      case measure => simp [intOf]; omega
  · have HR := Lib.hid (HY.out.2 hok)
    go_wp2
    go_ret
    exact ⟨by rw [HR.out]; rfl, b0⟩

set_option maxRecDepth 100000 in
set_option maxHeartbeats 40000000 in
theorem ref14_Put_any (m : Mt) (bv : Value) (w : World) (hm : m.ok) (hb : IntsAt w bv m.blocks) :
    Calls Tryz.prog 11 #[mtV m bv] w fun e w' => e = .returned (putMV m) ∧ Below w.heap.size w w' := by
  have hv := Lib.hid (validM_iff m)
  have hbl := Lib.hid (body_len m)
  have hbr := Lib.hid (body_rest m)
  have HP := Lib.hid (show putMV m = if validM m then .tuple #[.string (bs (headB magicM m.gen.toNat 0 ++ framePut (bodyB m))), .int .i64 0] else .tuple #[.string ⟨#[]⟩, .int .i64 1] by unfold putMV putM; split <;> rfl)
  obtain ⟨g, nx, wl, L⟩ := m
  simp only at hv hbl hbr hb
  obtain ⟨ba, bc, rfl, hnil, hL, hLb, hc⟩ := id hb
  rw [show mtV ⟨g, nx, wl, L⟩ (.slice ba L.length bc) = .agg #[.int .i64 g, .int .i64 nx, .int .i64 wl, .slice ba L.length bc] from rfl]
  have b0 := one_alloc w (.cells #[.int .i64 g, .int .i64 nx, .int .i64 wl, .slice ba L.length bc] 30)
  have k0 := Blk.new w 30 #[.int .i64 g, .int .i64 nx, .int .i64 wl, .slice ba L.length bc]
  obtain ⟨⟨c0, c1, c2, c3⟩, _⟩ := cells4 k0
  have hb1 := hb.below b0
  have qv := Lib.hid (ref14_Valid_any ⟨g, nx, wl, L⟩ (.slice ba L.length bc) _ hm hb1)
  rw [show mtV ⟨g, nx, wl, L⟩ (.slice ba L.length bc) = .agg #[.int .i64 g, .int .i64 nx, .int .i64 wl, .slice ba L.length bc] from rfl] at qv
  generalize putMV ⟨g, nx, wl, L⟩ = PV at *
  go_enter Tryz.func11, Tryz.ntmps11
  go_wp2_with fail
  refine qv.out.mono ?_
  rintro e w1 ⟨rfl, b1⟩
  have k1 := Blk.below k0 b1 k0.lt
  have hb2 := hb1.below b1
  have B1 := b0.trans (b1.mono b0.size)
  obtain ⟨⟨d0, d1, d2, d3⟩, _⟩ := cells4 k1
  clear qv k0 c0 c1 c2 c3 b0 b1 hb1 hc hnil
  cases hvv : validM ⟨g, nx, wl, L⟩ with
  | false =>
    have HY := Lib.hid (show PV = .tuple #[.string ⟨#[]⟩, .int .i64 1] by rw [HP.out, hvv]; rfl)
    clear HP hbr hv hbl hvv
    go_wp2
    go_ret2
    exact ⟨by rw [HY.out]; rfl, B1⟩
  | true =>
    obtain ⟨⟨i1, i2, i3, i4, i5⟩, i6, _⟩ := hv.out.1 hvv
    have hwl := i6 wl List.mem_cons_self
    have hbb := hbl.out i5
    have HB := Lib.hid (hbr.out i2)
    have HY := Lib.hid (show PV = .tuple #[.string (bs (headB magicM g.toNat 0 ++ framePut (bodyB ⟨g, nx, wl, L⟩))), .int .i64 0] by rw [HP.out, hvv]; rfl)
    clear HP hv hbl hvv hbr
    generalize bodyB ⟨g, nx, wl, L⟩ = BD at *
    have qh := Lib.hid (fun W => ref09_Head_any magicM g.toNat 0 (by omega) (by omega) (by decide) W)
    rw [Int.toNat_of_nonneg (show 0 ≤ g by omega)] at qh
    have qf := Lib.hid (fun W => ref09_Put_any BD (by omega) W)
    have hhl : (headB magicM g.toNat 0).length ≤ 20 := by unfold headB; rw [checkedB_len]; simp [magicM]
    have hfl : (framePut BD).length ≤ 1000 := by unfold framePut; rw [checkedB_len, Num.text_len]; have := Num.small_len BD.length; omega
    have haddF : ∀ W, (Op.stringOp .add (bs (headB magicM g.toNat 0)) (bs (framePut BD))).run Tryz.prog W = .ok (.string (bs (headB magicM g.toNat 0 ++ framePut BD))) W := fun W => run_add_bs (P := Tryz.prog) _ _ (by omega) W
    generalize framePut BD = FB at *
    generalize headB magicM g.toNat 0 = HD at *
    by_cases hg3 : g = 3

    · have f1 : (g == 3) = true := by simpa using hg3
      have HBd := Lib.hid (show BD = (numB g nx ++ numB g (nx - wl)) ++ numB g (L.length : Int) ++ restB g 0 L by rw [HB.out, if_pos hg3])
      have HG3 := Lib.hid hg3
      clear HB hg3
      have qA := Lib.hid (fun W => ref14_number_any nx g W (by omega) (by omega))
      have qB := Lib.hid (fun W => ref14_number_any (nx - wl) g W (by omega) (by omega))
      have qC := Lib.hid (fun W => ref14_number_any (L.length : Int) g W (by omega) (by omega))
      have lA := numB_len g nx
      have lB := numB_len g (nx - wl)
      have lC := numB_len g (L.length : Int)
      have hsub := wr64_id (nx - wl) (by omega) (by omega)
      unfold wr64 at hsub
      generalize numB g nx = nA at *
      generalize numB g (nx - wl) = nB at *
      generalize numB g (L.length : Int) = nC at *
      have hadd1 : ∀ W, (Op.stringOp .add (bs nA) (bs nB)).run Tryz.prog W = .ok (.string (bs (nA ++ nB))) W := fun W => run_add_bs (P := Tryz.prog) nA nB (by omega) W
      have hadd2 : ∀ W, (Op.stringOp .add (bs (nA ++ nB)) (bs nC)).run Tryz.prog W = .ok (.string (bs ((nA ++ nB) ++ nC))) W := fun W => run_add_bs (P := Tryz.prog) (nA ++ nB) nC (by simp; omega) W
      have hsl0 : ((nA ++ nB) ++ nC).length ≤ 30 := by simp; omega
      generalize (nA ++ nB) ++ nC = s0 at *
      generalize nA ++ nB = nAB at *
      have x0 := grow_cell d0
      have x1 := grow_cell d1
      have x2 := grow_cell d2
      have x3 := grow_cell d3
      go_wp2_with fail
      refine wp_region_at (R := GrowR) (by kernel_rfl) (by kernel_rfl) ?_
      (refine lex_one (by kernel_rfl) (by kernel_rfl) (by kernel_rfl) (fun K hK => ?_); go_big_quiet_step (fail); refine wpQuiet_nil (hK _ ?_); clear hK K); (refine lex_one (by kernel_rfl) (by kernel_rfl) (by kernel_rfl) (fun K hK => ?_); go_big_quiet_step (fail); refine wpQuiet_nil (hK _ ?_); clear hK K); (refine lex_one (by kernel_rfl) (by kernel_rfl) (by kernel_rfl) (fun K hK => ?_); go_big_quiet_step (fail); refine wpQuiet_nil (hK _ ?_); clear hK K); (refine lex_one (by kernel_rfl) (by kernel_rfl) (by kernel_rfl) (fun K hK => ?_); go_big_quiet_step (fail); refine wpQuiet_nil (hK _ ?_); clear hK K)
      (refine lex_call (f := 29) (args := #[.int .i64 nx, .int .i64 g]) (v := .string (bs nA)) (by kernel_rfl) (fun _ _ h => by cases h) (by kernel_rfl) (by kernel_rfl) (fun _ => by go_simp) (fun W hW => qA.out W) (lex_put (type := 0) (pos := "") (fun K hK => ?_)); go_big_quiet_step (fail); refine wpQuiet_nil (hK _ ?_); clear hK K)
      (refine lex_one (by kernel_rfl) (by kernel_rfl) (by kernel_rfl) (fun K hK => ?_); go_big_quiet_step (fail); refine wpQuiet_nil (hK _ ?_); clear hK K); (refine lex_one (by kernel_rfl) (by kernel_rfl) (by kernel_rfl) (fun K hK => ?_); go_big_quiet_step (fail); refine wpQuiet_nil (hK _ ?_); clear hK K); (refine lex_one (by kernel_rfl) (by kernel_rfl) (by kernel_rfl) (fun K hK => ?_); go_big_quiet_step (fail); refine wpQuiet_nil (hK _ ?_); clear hK K)
      (refine lex_call (f := 29) (args := #[.int .i64 (nx - wl), .int .i64 g]) (v := .string (bs nB)) (by kernel_rfl) (fun _ _ h => by cases h) (by kernel_rfl) (by kernel_rfl) (fun _ => by go_simp) (fun W hW => qB.out W) (lex_put (type := 0) (pos := "") (fun K hK => ?_)); go_big_quiet_step (fail); refine wpQuiet_nil (hK _ ?_); clear hK K)
      (refine lex_one (by kernel_rfl) (by kernel_rfl) (by kernel_rfl) (fun K hK => ?_); go_big_quiet_step (fail); refine wpQuiet_nil (hK _ ?_); clear hK K); (refine lex_one (by kernel_rfl) (by kernel_rfl) (by kernel_rfl) (fun K hK => ?_); go_big_quiet_step (fail); refine wpQuiet_nil (hK _ ?_); clear hK K); (refine lex_one (by kernel_rfl) (by kernel_rfl) (by kernel_rfl) (fun K hK => ?_); go_big_quiet_step (fail); refine wpQuiet_nil (hK _ ?_); clear hK K)
      (refine lex_val (v := .int .i64 (L.length : Int)) (by kernel_rfl) (fun _ _ h => by cases h) (by kernel_rfl) (by kernel_rfl) (fun _ _ => by go_simp) (lex_put (type := 0) (pos := "") (fun K hK => ?_)); go_big_quiet_step (fail); refine wpQuiet_nil (hK _ ?_); clear hK K)
      (refine lex_one (by kernel_rfl) (by kernel_rfl) (by kernel_rfl) (fun K hK => ?_); go_big_quiet_step (fail); refine wpQuiet_nil (hK _ ?_); clear hK K); (refine lex_one (by kernel_rfl) (by kernel_rfl) (by kernel_rfl) (fun K hK => ?_); go_big_quiet_step (fail); refine wpQuiet_nil (hK _ ?_); clear hK K)
      (refine lex_call (f := 29) (args := #[.int .i64 (L.length : Int), .int .i64 g]) (v := .string (bs nC)) (by kernel_rfl) (fun _ _ h => by cases h) (by kernel_rfl) (by kernel_rfl) (fun _ => by go_simp) (fun W hW => qC.out W) (lex_put (type := 0) (pos := "") (fun K hK => ?_)); go_big_quiet_step (fail); refine wpQuiet_nil (hK _ ?_); clear hK K)
      (refine lex_one (by kernel_rfl) (by kernel_rfl) (by kernel_rfl) (fun K hK => ?_); go_big_quiet_step (fail); refine wpQuiet_nil (hK _ ?_); clear hK K); (refine lex_one (by kernel_rfl) (by kernel_rfl) (by kernel_rfl) (fun K hK => ?_); go_big_quiet_step (fail); refine wpQuiet_nil (hK _ ?_); clear hK K)
      refine lex_nil (by kernel_rfl) (by kernel_rfl) (by kernel_rfl) ?_
      intro w3 hb3
      simp only [hideAll]
      have k3 := Blk.below k1 hb3 k1.lt
      have B3 := B1.trans (Below.mono hb3 B1.size)
      have hb4 := hb2.below hb3
      obtain ⟨_, _, e4, _, _, _, hc⟩ := hb4
      obtain ⟨rfl, _, rfl⟩ := Value.slice.inj e4
      have HC := Lib.hid hc
      have HLb := Lib.hid (show ∀ x ∈ L, 0 ≤ x ∧ x ≤ 999999 from fun x hx => by have := i6 x (List.mem_cons_of_mem _ hx); omega)
      clear x0 x1 x2 x3 k1 d0 d1 d2 d3 hb3 hc e4 i6 hLb hb hb2 qA qB qC hadd1 hadd2 lA lB lC
      go_wp2_with fail
      go_loopw [5, 6, 7] (fun v5 v6 v7 wr => ∃ (i : Nat) (s : List UInt8) (last : Int), i ≤ L.length ∧ v7 = .int .i64 (i : Int) ∧ v5 = .string (bs s) ∧ v6 = .int .i64 last ∧ 0 ≤ last ∧ last ≤ 999999 ∧ s.length ≤ 30 + i * 10 ∧ s ++ restB g last (L.drop i) = s0 ++ restB g 0 L ∧ Below w3.heap.size w3 wr) (fun _ _ v7 _ => L.length - (intOf v7).toNat)
      case atStart => exact ⟨0, s0, 0, Nat.zero_le _, rfl, rfl, rfl, by omega, by omega, by omega, rfl, Below.refl _ _⟩
      obtain ⟨i, s, last, hi, rfl, rfl, rfl, hl0, hl1, hsl, hinv, hbw⟩ := hrel
      have HI := Lib.hid hinv
      clear hinv
      have k4 := Blk.below k3 hbw k3.lt
      have B4 := B3.trans (hbw.mono B3.size)
      obtain ⟨⟨d0, d1, d2, d3⟩, _⟩ := cells4 k4
      rcases (show i < L.length ∨ i = L.length by omega) with hil | rfl
      · obtain ⟨b, o, rfl, cx⟩ := HC.out i _ (List.getElem?_eq_getElem hil)
        have cx' := (hbw.cell (World.block_lt_of_cell? _ _ cx)).trans cx
        have hxb := HLb.out L[i] (List.getElem_mem hil)
        have HD := Lib.hid (show restB g last (L.drop i) = Num.small (Num.zigI (L[i] - last)).toNat ++ restB g L[i] (L.drop (i + 1)) by rw [List.drop_eq_getElem_cons hil, restB_cons, if_pos HG3.out])
        have hilI : (i : Int) < (L.length : Int) := by omega
        generalize L[i] = x at *
        have hz := Num.zig_bd (x - last) (by omega) (by omega)
        have qz := Lib.hid (fun W => ref_Zig_any (x - last) W (by omega) (by omega))
        have qs := Lib.hid (fun W => ref_Small_any (Num.zigI (x - last)) W hz.1 hz.2)
        have hsm := (Num.small_len (Num.zigI (x - last)).toNat).2
        have hsub2 := wr64_id (x - last) (by omega) (by omega)
        have HN := Lib.hid (show (s ++ Num.small (Num.zigI (x - last)).toNat) ++ restB g x (L.drop (i + 1)) = s0 ++ restB g 0 L by rw [List.append_assoc, ← HD.out, HI.out])
        generalize Num.small (Num.zigI (x - last)).toNat = y at *
        generalize Num.zigI (x - last) = z at *
        have hadd : ∀ W, (Op.stringOp .add (bs s) (bs y)).run Tryz.prog W = .ok (.string (bs (s ++ y))) W := fun W => run_add_bs (P := Tryz.prog) s y (by omega) W
        clear cx HD
        go_wp2_with fail
        refine (qz.out _).mono ?_
        rintro e _ ⟨rfl, rfl⟩
        go_wp2_with fail
        refine (qs.out _).mono ?_
        rintro e wr2 ⟨rfl, hb2⟩
        have k5 := Blk.below k4 hb2 k4.lt
        have cx2 := (hb2.cell (World.block_lt_of_cell? _ _ cx')).trans cx'
        obtain ⟨⟨d0', d1', d2', d3'⟩, _⟩ := cells4 k5
        clear k4 d0 d1 d2 d3 cx'
        go_wp2_with fail
        go_roundw
        case rel => exact ⟨i + 1, s ++ y, x, by omega, by go_num, rfl, rfl, hxb.1, hxb.2, by rw [List.length_append]; omega, HN.out, hbw.trans (hb2.mono hbw.size)⟩
        case measure => simp [intOf]; omega
      · have hs : s = BD := by
          have := HI.out
          rw [List.drop_length, restB_nil, List.append_nil, ← HBd.out] at this
          exact this
        subst hs
        go_wp2_with fail
        refine (qh.out _).mono ?_
        rintro e w5 ⟨rfl, b5⟩
        have B5 := B4.trans (b5.mono B4.size)
        go_wp2_with fail
        refine (qf.out _).mono ?_
        rintro e w6 ⟨rfl, b6⟩
        have B6 := B5.trans (b6.mono B5.size)
        go_wp2_with fail
        go_ret2
        exact ⟨by rw [HY.out]; rfl, B6⟩
    · have f1 : (g == 3) = false := by simpa using hg3
      have HBd := Lib.hid (show BD = (numB g nx ++ numB g (wl)) ++ numB g (L.length : Int) ++ restB g 0 L by rw [HB.out, if_neg hg3])
      have HG3 := Lib.hid hg3
      clear HB HG3
      have qA := Lib.hid (fun W => ref14_number_any nx g W (by omega) (by omega))
      have qB := Lib.hid (fun W => ref14_number_any (wl) g W (by omega) (by omega))
      have qC := Lib.hid (fun W => ref14_number_any (L.length : Int) g W (by omega) (by omega))
      have lA := numB_len g nx
      have lB := numB_len g (wl)
      have lC := numB_len g (L.length : Int)
      generalize numB g nx = nA at *
      generalize numB g wl = nB at *
      generalize numB g (L.length : Int) = nC at *
      have hadd1 : ∀ W, (Op.stringOp .add (bs nA) (bs nB)).run Tryz.prog W = .ok (.string (bs (nA ++ nB))) W := fun W => run_add_bs (P := Tryz.prog) nA nB (by omega) W
      have hadd2 : ∀ W, (Op.stringOp .add (bs (nA ++ nB)) (bs nC)).run Tryz.prog W = .ok (.string (bs ((nA ++ nB) ++ nC))) W := fun W => run_add_bs (P := Tryz.prog) (nA ++ nB) nC (by simp; omega) W
      have hsl0 : ((nA ++ nB) ++ nC).length ≤ 30 := by simp; omega
      generalize (nA ++ nB) ++ nC = s0 at *
      generalize nA ++ nB = nAB at *
      have x0 := grow_cell d0
      have x1 := grow_cell d1
      have x2 := grow_cell d2
      have x3 := grow_cell d3
      go_wp2_with fail
      refine wp_region_at (R := GrowR) (by kernel_rfl) (by kernel_rfl) ?_
      (refine lex_one (by kernel_rfl) (by kernel_rfl) (by kernel_rfl) (fun K hK => ?_); go_big_quiet_step (fail); refine wpQuiet_nil (hK _ ?_); clear hK K); (refine lex_one (by kernel_rfl) (by kernel_rfl) (by kernel_rfl) (fun K hK => ?_); go_big_quiet_step (fail); refine wpQuiet_nil (hK _ ?_); clear hK K); (refine lex_one (by kernel_rfl) (by kernel_rfl) (by kernel_rfl) (fun K hK => ?_); go_big_quiet_step (fail); refine wpQuiet_nil (hK _ ?_); clear hK K); (refine lex_one (by kernel_rfl) (by kernel_rfl) (by kernel_rfl) (fun K hK => ?_); go_big_quiet_step (fail); refine wpQuiet_nil (hK _ ?_); clear hK K)
      (refine lex_call (f := 29) (args := #[.int .i64 nx, .int .i64 g]) (v := .string (bs nA)) (by kernel_rfl) (fun _ _ h => by cases h) (by kernel_rfl) (by kernel_rfl) (fun _ => by go_simp) (fun W hW => qA.out W) (lex_put (type := 0) (pos := "") (fun K hK => ?_)); go_big_quiet_step (fail); refine wpQuiet_nil (hK _ ?_); clear hK K)
      (refine lex_one (by kernel_rfl) (by kernel_rfl) (by kernel_rfl) (fun K hK => ?_); go_big_quiet_step (fail); refine wpQuiet_nil (hK _ ?_); clear hK K); (refine lex_one (by kernel_rfl) (by kernel_rfl) (by kernel_rfl) (fun K hK => ?_); go_big_quiet_step (fail); refine wpQuiet_nil (hK _ ?_); clear hK K); (refine lex_one (by kernel_rfl) (by kernel_rfl) (by kernel_rfl) (fun K hK => ?_); go_big_quiet_step (fail); refine wpQuiet_nil (hK _ ?_); clear hK K)
      (refine lex_call (f := 29) (args := #[.int .i64 wl, .int .i64 g]) (v := .string (bs nB)) (by kernel_rfl) (fun _ _ h => by cases h) (by kernel_rfl) (by kernel_rfl) (fun _ => by go_simp) (fun W hW => qB.out W) (lex_put (type := 0) (pos := "") (fun K hK => ?_)); go_big_quiet_step (fail); refine wpQuiet_nil (hK _ ?_); clear hK K)
      (refine lex_one (by kernel_rfl) (by kernel_rfl) (by kernel_rfl) (fun K hK => ?_); go_big_quiet_step (fail); refine wpQuiet_nil (hK _ ?_); clear hK K); (refine lex_one (by kernel_rfl) (by kernel_rfl) (by kernel_rfl) (fun K hK => ?_); go_big_quiet_step (fail); refine wpQuiet_nil (hK _ ?_); clear hK K); (refine lex_one (by kernel_rfl) (by kernel_rfl) (by kernel_rfl) (fun K hK => ?_); go_big_quiet_step (fail); refine wpQuiet_nil (hK _ ?_); clear hK K)
      (refine lex_val (v := .int .i64 (L.length : Int)) (by kernel_rfl) (fun _ _ h => by cases h) (by kernel_rfl) (by kernel_rfl) (fun _ _ => by go_simp) (lex_put (type := 0) (pos := "") (fun K hK => ?_)); go_big_quiet_step (fail); refine wpQuiet_nil (hK _ ?_); clear hK K)
      (refine lex_one (by kernel_rfl) (by kernel_rfl) (by kernel_rfl) (fun K hK => ?_); go_big_quiet_step (fail); refine wpQuiet_nil (hK _ ?_); clear hK K); (refine lex_one (by kernel_rfl) (by kernel_rfl) (by kernel_rfl) (fun K hK => ?_); go_big_quiet_step (fail); refine wpQuiet_nil (hK _ ?_); clear hK K)
      (refine lex_call (f := 29) (args := #[.int .i64 (L.length : Int), .int .i64 g]) (v := .string (bs nC)) (by kernel_rfl) (fun _ _ h => by cases h) (by kernel_rfl) (by kernel_rfl) (fun _ => by go_simp) (fun W hW => qC.out W) (lex_put (type := 0) (pos := "") (fun K hK => ?_)); go_big_quiet_step (fail); refine wpQuiet_nil (hK _ ?_); clear hK K)
      (refine lex_one (by kernel_rfl) (by kernel_rfl) (by kernel_rfl) (fun K hK => ?_); go_big_quiet_step (fail); refine wpQuiet_nil (hK _ ?_); clear hK K); (refine lex_one (by kernel_rfl) (by kernel_rfl) (by kernel_rfl) (fun K hK => ?_); go_big_quiet_step (fail); refine wpQuiet_nil (hK _ ?_); clear hK K)
      refine lex_nil (by kernel_rfl) (by kernel_rfl) (by kernel_rfl) ?_
      intro w3 hb3
      simp only [hideAll]
      have k3 := Blk.below k1 hb3 k1.lt
      have B3 := B1.trans (Below.mono hb3 B1.size)
      have hb4 := hb2.below hb3
      obtain ⟨_, _, e4, _, _, _, hc⟩ := hb4
      obtain ⟨rfl, _, rfl⟩ := Value.slice.inj e4
      have HC := Lib.hid hc
      have HLb := Lib.hid (show ∀ x ∈ L, 0 ≤ x ∧ x ≤ 999999 from fun x hx => by have := i6 x (List.mem_cons_of_mem _ hx); omega)
      clear x0 x1 x2 x3 k1 d0 d1 d2 d3 hb3 hc e4 i6 hLb hb hb2 qA qB qC hadd1 hadd2 lA lB lC
      go_wp2_with fail
      go_loopw [5, 6, 7] (fun v5 v6 v7 wr => ∃ (i : Nat) (s : List UInt8) (last : Int), i ≤ L.length ∧ v7 = .int .i64 (i : Int) ∧ v5 = .string (bs s) ∧ v6 = .int .i64 last ∧ 0 ≤ last ∧ last ≤ 999999 ∧ s.length ≤ 30 + i * 10 ∧ s ++ restB g last (L.drop i) = s0 ++ restB g 0 L ∧ Below w3.heap.size w3 wr) (fun _ _ v7 _ => L.length - (intOf v7).toNat)
      case atStart => exact ⟨0, s0, 0, Nat.zero_le _, rfl, rfl, rfl, by omega, by omega, by omega, rfl, Below.refl _ _⟩
      obtain ⟨i, s, last, hi, rfl, rfl, rfl, hl0, hl1, hsl, hinv, hbw⟩ := hrel
      have HI := Lib.hid hinv
      clear hinv
      have k4 := Blk.below k3 hbw k3.lt
      have B4 := B3.trans (hbw.mono B3.size)
      obtain ⟨⟨d0, d1, d2, d3⟩, _⟩ := cells4 k4
      rcases (show i < L.length ∨ i = L.length by omega) with hil | rfl
      · obtain ⟨b, o, rfl, cx⟩ := HC.out i _ (List.getElem?_eq_getElem hil)
        have cx' := (hbw.cell (World.block_lt_of_cell? _ _ cx)).trans cx
        have hxb := HLb.out L[i] (List.getElem_mem hil)
        have HD := Lib.hid (show restB g last (L.drop i) = numB g L[i] ++ restB g L[i] (L.drop (i + 1)) by rw [List.drop_eq_getElem_cons hil, restB_cons, if_neg hg3])
        have hilI : (i : Int) < (L.length : Int) := by omega
        generalize L[i] = x at *
        have qs := Lib.hid (fun W => ref14_number_any x g W hxb.1 hxb.2)
        have hsm := numB_len g x
        have HN := Lib.hid (show (s ++ numB g x) ++ restB g x (L.drop (i + 1)) = s0 ++ restB g 0 L by rw [List.append_assoc, ← HD.out, HI.out])
        generalize numB g x = y at *
        have hadd : ∀ W, (Op.stringOp .add (bs s) (bs y)).run Tryz.prog W = .ok (.string (bs (s ++ y))) W := fun W => run_add_bs (P := Tryz.prog) s y (by omega) W
        clear cx HD
        have x0 := grow_cell d0
        have x3 := grow_cell d3
        have x4 := grow_cell cx'
        go_wp2_with fail
        refine wp_region_at (R := GrowR) (by kernel_rfl) (by kernel_rfl) ?_
        (refine lex_one (by kernel_rfl) (by kernel_rfl) (by kernel_rfl) (fun K hK => ?_); go_big_quiet_step (fail); refine wpQuiet_nil (hK _ ?_); clear hK K); (refine lex_one (by kernel_rfl) (by kernel_rfl) (by kernel_rfl) (fun K hK => ?_); go_big_quiet_step (fail); refine wpQuiet_nil (hK _ ?_); clear hK K); (refine lex_one (by kernel_rfl) (by kernel_rfl) (by kernel_rfl) (fun K hK => ?_); go_big_quiet_step (fail); refine wpQuiet_nil (hK _ ?_); clear hK K); (refine lex_one (by kernel_rfl) (by kernel_rfl) (by kernel_rfl) (fun K hK => ?_); go_big_quiet_step (fail); refine wpQuiet_nil (hK _ ?_); clear hK K); (refine lex_one (by kernel_rfl) (by kernel_rfl) (by kernel_rfl) (fun K hK => ?_); go_big_quiet_step (fail); refine wpQuiet_nil (hK _ ?_); clear hK K); (refine lex_one (by kernel_rfl) (by kernel_rfl) (by kernel_rfl) (fun K hK => ?_); go_big_quiet_step (fail); refine wpQuiet_nil (hK _ ?_); clear hK K); (refine lex_one (by kernel_rfl) (by kernel_rfl) (by kernel_rfl) (fun K hK => ?_); go_big_quiet_step (fail); refine wpQuiet_nil (hK _ ?_); clear hK K); (refine lex_one (by kernel_rfl) (by kernel_rfl) (by kernel_rfl) (fun K hK => ?_); go_big_quiet_step (fail); refine wpQuiet_nil (hK _ ?_); clear hK K)
        (refine lex_call (f := 29) (args := #[.int .i64 x, .int .i64 g]) (v := .string (bs y)) (by kernel_rfl) (fun _ _ h => by cases h) (by kernel_rfl) (by kernel_rfl) (fun _ => by go_simp) (fun W hW => qs.out W) (lex_put (type := 0) (pos := "") (fun K hK => ?_)); go_big_quiet_step (fail); refine wpQuiet_nil (hK _ ?_); clear hK K)
        (refine lex_one (by kernel_rfl) (by kernel_rfl) (by kernel_rfl) (fun K hK => ?_); go_big_quiet_step (fail); refine wpQuiet_nil (hK _ ?_); clear hK K); (refine lex_one (by kernel_rfl) (by kernel_rfl) (by kernel_rfl) (fun K hK => ?_); go_big_quiet_step (fail); refine wpQuiet_nil (hK _ ?_); clear hK K)
        refine lex_nil (by kernel_rfl) (by kernel_rfl) (by kernel_rfl) ?_
        intro wr2 hb2
        simp only [hideAll]
        clear x0 x3 x4
        have hb2' : Below wr.heap.size wr wr2 := hb2
        have k5 := Blk.below k4 hb2' k4.lt
        have cx2 := (hb2'.cell (World.block_lt_of_cell? _ _ cx')).trans cx'
        obtain ⟨⟨d0', d1', d2', d3'⟩, _⟩ := cells4 k5
        clear k4 d0 d1 d2 d3 cx'
        go_wp2_with fail
        go_roundw
        case rel => exact ⟨i + 1, s ++ y, x, by omega, by go_num, rfl, rfl, hxb.1, hxb.2, by rw [List.length_append]; omega, HN.out, hbw.trans (hb2'.mono hbw.size)⟩
        case measure => simp [intOf]; omega
      · have hs : s = BD := by
          have := HI.out
          rw [List.drop_length, restB_nil, List.append_nil, ← HBd.out] at this
          exact this
        subst hs
        go_wp2_with fail
        refine (qh.out _).mono ?_
        rintro e w5 ⟨rfl, b5⟩
        have B5 := B4.trans (b5.mono B4.size)
        go_wp2_with fail
        refine (qf.out _).mono ?_
        rintro e w6 ⟨rfl, b6⟩
        have B6 := B5.trans (b6.mono B5.size)
        go_wp2_with fail
        go_ret2
        exact ⟨by rw [HY.out]; rfl, B6⟩
end Go.Proofs.YtgehgjalkponfaaGreatDoor
namespace Go.Proofs.YtgehgjalkponfaaGreatDoor
open Go.RowKit Go.Maps Go.WideMaps
attribute [local go_sem] bs_toList bs_size

set_option maxRecDepth 100000 in
set_option maxHeartbeats 2000000 in
theorem ref07_Row_any {w : World} {v1 v2 : Value} {L M : List Int} (h1 : IntsAt w v1 L) (h2 : IntsAt w v2 M) :
    Calls Tryz.prog 34 #[v1, v2] w fun e w' => e = .returned (.bool (L == M)) ∧ Below w.heap.size w w' := by
  obtain ⟨a1, c1, rfl, _, hl1, _, x1⟩ := h1
  obtain ⟨a2, c2, rfl, _, hl2, _, x2⟩ := h2
  have X1 := Lib.hid x1
  have X2 := Lib.hid x2
  clear x1 x2
  by_cases hlen : L.length = M.length
  · have hleI : ((L.length : Int) != (M.length : Int)) = false := by rw [hlen]; simp
    have HE := Lib.hid hlen
    go_enter Tryz.func34, Tryz.ntmps34
    generalize hm : M.length = ml at *
    have HM := Lib.hid hm
    clear hm hlen
    go_wp2_with fail
    clear hleI
    go_loopw [5] (fun vi wr => ∃ i : Nat, i ≤ L.length ∧ vi = .int .i64 (i : Int) ∧ L.take i = M.take i ∧ Below w.heap.size w wr) (fun vi _ => L.length - (intOf vi).toNat)
    case atStart => exact ⟨0, Nat.zero_le _, rfl, rfl, Below.refl _ _⟩
    obtain ⟨i, hi, rfl, htk, hbw⟩ := hrel
    have HT := Lib.hid htk
    clear htk
    rcases (show i < L.length ∨ i = L.length by omega) with hil | rfl
    · have hiM : i < M.length := by rw [HM.out, ← HE.out]; exact hil
      obtain ⟨b, o, rfl, cx⟩ := X1.out i _ (List.getElem?_eq_getElem hil)
      obtain ⟨b', o', rfl, cy⟩ := X2.out i _ (List.getElem?_eq_getElem hiM)
      have x0 := grow_cell ((hbw.cell (World.block_lt_of_cell? _ _ cx)).trans cx)
      have y0 := grow_cell ((hbw.cell (World.block_lt_of_cell? _ _ cy)).trans cy)
      have HN := Lib.hid (show L[i] = M[i] → L.take (i + 1) = M.take (i + 1) from fun e => by rw [List.take_succ_eq_append_getElem hil, List.take_succ_eq_append_getElem hiM, HT.out, e])
      have HW := Lib.hid (show L[i] ≠ M[i] → (L == M) = false from fun e => by
        rw [beq_eq_false_iff_ne]
        rintro rfl
        exact e rfl)
      have hilI : (i : Int) < (L.length : Int) := by omega
      have himI : (i : Int) < (ml : Int) := by have := HE.out; omega
      clear cx cy
      generalize L[i] = x at *
      generalize M[i] = y at *
      by_cases hxy : x = y
      · have f : (x != y) = false := by simpa using hxy
        have HS := Lib.hid (HN.out hxy)
        clear HN HW hxy
        go_wp2_with fail
        refine wp_region_at (R := GrowR) (by kernel_rfl) (by kernel_rfl) ?_
        (refine lex_one (by kernel_rfl) (by kernel_rfl) (by kernel_rfl) (fun K hK => ?_); go_big_quiet_step (fail); refine wpQuiet_nil (hK _ ?_); clear hK K); (refine lex_one (by kernel_rfl) (by kernel_rfl) (by kernel_rfl) (fun K hK => ?_); go_big_quiet_step (fail); refine wpQuiet_nil (hK _ ?_); clear hK K); (refine lex_one (by kernel_rfl) (by kernel_rfl) (by kernel_rfl) (fun K hK => ?_); go_big_quiet_step (fail); refine wpQuiet_nil (hK _ ?_); clear hK K); (refine lex_one (by kernel_rfl) (by kernel_rfl) (by kernel_rfl) (fun K hK => ?_); go_big_quiet_step (fail); refine wpQuiet_nil (hK _ ?_); clear hK K); (refine lex_one (by kernel_rfl) (by kernel_rfl) (by kernel_rfl) (fun K hK => ?_); go_big_quiet_step (fail); refine wpQuiet_nil (hK _ ?_); clear hK K); (refine lex_one (by kernel_rfl) (by kernel_rfl) (by kernel_rfl) (fun K hK => ?_); go_big_quiet_step (fail); refine wpQuiet_nil (hK _ ?_); clear hK K); (refine lex_one (by kernel_rfl) (by kernel_rfl) (by kernel_rfl) (fun K hK => ?_); go_big_quiet_step (fail); refine wpQuiet_nil (hK _ ?_); clear hK K); (refine lex_one (by kernel_rfl) (by kernel_rfl) (by kernel_rfl) (fun K hK => ?_); go_big_quiet_step (fail); refine wpQuiet_nil (hK _ ?_); clear hK K); (refine lex_one (by kernel_rfl) (by kernel_rfl) (by kernel_rfl) (fun K hK => ?_); go_big_quiet_step (fail); refine wpQuiet_nil (hK _ ?_); clear hK K)
        refine lex_nil (by kernel_rfl) (by kernel_rfl) (by kernel_rfl) ?_
        intro wr2 hb2
        simp only [hideAll]
        have hb2' : Below wr.heap.size wr wr2 := hb2
        clear x0 y0
        go_wp2_with fail
        go_roundw
        case rel => exact ⟨i + 1, by omega, by go_num, HS.out, hbw.trans (hb2'.mono hbw.size)⟩
        case measure => simp [intOf]; omega
      · have f : (x != y) = true := by simpa using hxy
        have HS := Lib.hid (HW.out hxy)
        clear HN HW hxy
        go_wp2_with fail
        refine wp_region_at (R := GrowR) (by kernel_rfl) (by kernel_rfl) ?_
        (refine lex_one (by kernel_rfl) (by kernel_rfl) (by kernel_rfl) (fun K hK => ?_); go_big_quiet_step (fail); refine wpQuiet_nil (hK _ ?_); clear hK K); (refine lex_one (by kernel_rfl) (by kernel_rfl) (by kernel_rfl) (fun K hK => ?_); go_big_quiet_step (fail); refine wpQuiet_nil (hK _ ?_); clear hK K); (refine lex_one (by kernel_rfl) (by kernel_rfl) (by kernel_rfl) (fun K hK => ?_); go_big_quiet_step (fail); refine wpQuiet_nil (hK _ ?_); clear hK K); (refine lex_one (by kernel_rfl) (by kernel_rfl) (by kernel_rfl) (fun K hK => ?_); go_big_quiet_step (fail); refine wpQuiet_nil (hK _ ?_); clear hK K); (refine lex_one (by kernel_rfl) (by kernel_rfl) (by kernel_rfl) (fun K hK => ?_); go_big_quiet_step (fail); refine wpQuiet_nil (hK _ ?_); clear hK K); (refine lex_one (by kernel_rfl) (by kernel_rfl) (by kernel_rfl) (fun K hK => ?_); go_big_quiet_step (fail); refine wpQuiet_nil (hK _ ?_); clear hK K); (refine lex_one (by kernel_rfl) (by kernel_rfl) (by kernel_rfl) (fun K hK => ?_); go_big_quiet_step (fail); refine wpQuiet_nil (hK _ ?_); clear hK K); (refine lex_one (by kernel_rfl) (by kernel_rfl) (by kernel_rfl) (fun K hK => ?_); go_big_quiet_step (fail); refine wpQuiet_nil (hK _ ?_); clear hK K); (refine lex_one (by kernel_rfl) (by kernel_rfl) (by kernel_rfl) (fun K hK => ?_); go_big_quiet_step (fail); refine wpQuiet_nil (hK _ ?_); clear hK K)
        refine lex_nil (by kernel_rfl) (by kernel_rfl) (by kernel_rfl) ?_
        intro wr2 hb2
        simp only [hideAll]
        have hb2' : Below wr.heap.size wr wr2 := hb2
        clear x0 y0
        go_wp2_with fail
        go_ret
        exact ⟨by rw [HS.out]; rfl, hbw.trans (hb2'.mono hbw.size)⟩
    · have HS := Lib.hid (show (L == M) = true by
        have := HT.out
        rw [List.take_length, HE.out, ← HM.out, List.take_length] at this
        rw [this]
        simp)
      go_wp2
      go_ret
      exact ⟨by rw [HS.out]; rfl, hbw⟩
  · have f1 : ((L.length : Int) != (M.length : Int)) = true := by simpa using (fun e => hlen (by omega) : ¬ (L.length : Int) = (M.length : Int))
    have f2 : ((L.length : Int) == (M.length : Int)) = false := by simpa using (fun e => hlen (by omega) : ¬ (L.length : Int) = (M.length : Int))
    have f3 : (L.length == M.length) = false := by simpa using hlen
    have HS := Lib.hid (show (L == M) = false by
      rw [beq_eq_false_iff_ne]
      rintro rfl
      exact hlen rfl)
    clear hlen
    go_enter Tryz.func34, Tryz.ntmps34
    go_wp2
    go_ret
    exact ⟨by rw [HS.out]; rfl, Below.refl _ _⟩
set_option maxRecDepth 100000 in
set_option maxHeartbeats 2000000 in
theorem ref14_Same_any (m n : Mt) (bm bn : Value) (w : World) (h1 : IntsAt w bm m.blocks) (h2 : IntsAt w bn n.blocks) :
    Calls Tryz.prog 14 #[mtV m bm, mtV n bn] w fun e w' => e = .returned (.bool (sameM m n)) ∧ Below w.heap.size w w' := by
  obtain ⟨g, nx, wl, L⟩ := m
  obtain ⟨g', nx', wl', M⟩ := n
  simp only at h1 h2
  obtain ⟨a1, c1, rfl, _⟩ := id h1
  obtain ⟨a2, c2, rfl, _⟩ := id h2
  rw [show mtV ⟨g, nx, wl, L⟩ (.slice a1 L.length c1) = .agg #[.int .i64 g, .int .i64 nx, .int .i64 wl, .slice a1 L.length c1] from rfl, show mtV ⟨g', nx', wl', M⟩ (.slice a2 M.length c2) = .agg #[.int .i64 g', .int .i64 nx', .int .i64 wl', .slice a2 M.length c2] from rfl]
  have b0 := one_alloc w (.cells #[.int .i64 g, .int .i64 nx, .int .i64 wl, .slice a1 L.length c1] 30)
  have k0 := Blk.new w 30 #[.int .i64 g, .int .i64 nx, .int .i64 wl, .slice a1 L.length c1]
  have b1 := b0.alloc b0.size (.cells #[.int .i64 g', .int .i64 nx', .int .i64 wl', .slice a2 M.length c2] 30)
  have k1 := Blk.alloc k0 (.cells #[.int .i64 g', .int .i64 nx', .int .i64 wl', .slice a2 M.length c2] 30)
  have k2 := Blk.new (w.alloc (.cells #[.int .i64 g, .int .i64 nx, .int .i64 wl, .slice a1 L.length c1] 30)) 30 #[.int .i64 g', .int .i64 nx', .int .i64 wl', .slice a2 M.length c2]
  rw [World.size_alloc] at k2
  obtain ⟨⟨c0, c1', c2', c3⟩, _⟩ := cells4 k1
  obtain ⟨⟨d0, d1, d2, d3⟩, _⟩ := cells4 k2
  have Q := Lib.hid (ref07_Row_any (h1.below b1) (h2.below b1))
  have HS := Lib.hid (show sameM ⟨g, nx, wl, L⟩ ⟨g', nx', wl', M⟩ = (g == g' && (nx == nx' && (wl == wl' && L == M))) from rfl)
  generalize sameM ⟨g, nx, wl, L⟩ ⟨g', nx', wl', M⟩ = R at *
  clear k0 k1 k2 h1 h2
  go_enter Tryz.func14, Tryz.ntmps14
  by_cases e1 : g = g'
  · have f1 : (g == g') = true := by simpa using e1
    by_cases e2 : nx = nx'
    · have f2 : (nx == nx') = true := by simpa using e2
      by_cases e3 : wl = wl'
      · have f3 : (wl == wl') = true := by simpa using e3
        have HR := Lib.hid (show R = (L == M) by rw [HS.out, f1, f2, f3]; rfl)
        clear HS e1 e2 e3
        go_wp2_with fail
        refine Q.out.mono ?_
        rintro e w2 ⟨rfl, hb2⟩
        go_wp2
        go_ret
        exact ⟨by rw [HR.out]; rfl, b1.trans (hb2.mono b1.size)⟩
      · have f3 : (wl == wl') = false := by simpa using e3
        have HR := Lib.hid (show R = false by rw [HS.out, f1, f2, f3]; rfl)
        clear HS e1 e2 e3
        go_wp2
        go_ret
        exact ⟨by rw [HR.out]; rfl, b1⟩
    · have f2 : (nx == nx') = false := by simpa using e2
      have HR := Lib.hid (show R = false by rw [HS.out, f1, f2]; rfl)
      clear HS e1 e2
      go_wp2
      go_ret
      exact ⟨by rw [HR.out]; rfl, b1⟩
  · have f1 : (g == g') = false := by simpa using e1
    have HR := Lib.hid (show R = false by rw [HS.out, f1]; rfl)
    clear HS e1
    go_wp2
    go_ret
    exact ⟨by rw [HR.out]; rfl, b1⟩

theorem results_c1 {P : Program} {fn : Func} {p : Tmp} {ty : TypeId} (h : fn.results = #[.cell p ty]) (tmps : Array Value) (w : World) (g : Nat) (tb : TypeId) (cs : Array Value) (d : TypeDesc)
    (hp : tmps.getD p undef = .pointer (some ⟨g, 0, none⟩)) (hg : Blk w g tb cs)
    (hu : P.underlying ty = some d) (hd : (match d with | .struct _ | .array _ _ => true | _ => false) = true) (hi : (P.info? ty).map (·.size) = some cs.size) :
    (results fn tmps).run P w = .ok (.agg cs) w := by
  have hp' : tmps[p]?.getD undef = .pointer (some ⟨g, 0, none⟩) := by simpa using hp
  simp [results, h, hp', asAddr, run_loadVar_row w g tb ty cs (0, 0) d hg hu hd hi]
set_option maxRecDepth 100000 in
set_option maxHeartbeats 2000000 in
theorem law14_Of_any (m : Mt) (sa : Option Addr) (sl sc : Nat) (w : World) :
    Calls Tryz.prog 12 #[mtV m (.slice sa sl sc)] w fun e w' => e = .returned (mtV m (.slice sa sl sc)) ∧ Below w.heap.size w w' := by
  obtain ⟨g, nx, wl, L⟩ := m
  rw [show mtV ⟨g, nx, wl, L⟩ (.slice sa sl sc) = .agg #[.int .i64 g, .int .i64 nx, .int .i64 wl, .slice sa sl sc] from rfl]
  have k0 := Blk.new w 24 #[.int .i64 g, .int .i64 nx, .int .i64 wl, .slice sa sl sc]
  have k1 := Blk.alloc k0 (.cells #[.int .i64 0, .int .i64 0, .int .i64 0, .slice none 0 0] 30)
  have b0 := one_alloc w (.cells #[.int .i64 g, .int .i64 nx, .int .i64 wl, .slice sa sl sc] 24)
  have b1 := b0.alloc b0.size (.cells #[.int .i64 g, .int .i64 nx, .int .i64 wl, .slice sa sl sc] 30)
  have r2 := Blk.new (w.alloc (.cells #[.int .i64 g, .int .i64 nx, .int .i64 wl, .slice sa sl sc] 24)) 30 #[.int .i64 g, .int .i64 nx, .int .i64 wl, .slice sa sl sc]
  rw [World.size_alloc] at r2
  obtain ⟨⟨c0, c1, c2, c3⟩, _⟩ := cells4 k1
  go_enter Tryz.func12, Tryz.ntmps12
  go_wp2_with fail
  (try simp only [Exit.inBlock, Exit.then])
  refine bodyPost_ret (results_c1 rfl _ _ (w.heap.size + 1) 30 _ _ rfl r2 Tryz.underlying30 rfl (by kernel_rfl)) rfl ?_
  exact ⟨rfl, b1⟩
end Go.Proofs.YtgehgjalkponfaaGreatDoor
namespace Go.Proofs.YtgehgjalkponfaaGreatDoor
open Go.RowKit Go.Maps Go.WideMaps
attribute [local go_sem] bs_toList bs_size

/-- A number of a generation, what is left, and whether there was one. -/
def g1 (g : Int) (s : List UInt8) : Nat × List UInt8 × Bool := match getN g s with
  | none => (0, s, false)
  | some (n, k) => (n, s.drop k, true)
theorem refN_g1 (g : Int) (s : List UInt8) : refN s (getN g s) = .tuple #[.int .u64 ((g1 g s).1 : Int), .string (bs (g1 g s).2.1), .bool (g1 g s).2.2] := by
  unfold g1
  rcases getN g s with _ | ⟨n, k⟩ <;> rfl
theorem getN_bd (g : Int) (s : List UInt8) (n k : Nat) (h : getN g s = some (n, k)) : n < 18446744073709551616 := by
  unfold getN at h
  split at h
  · unfold Num.getWide at h
    split at h
    · cases h
    · have h1 := Num.unw_lt (s.take 8)
      rw [List.length_take_of_le (by omega)] at h1
      have h2 := (Prod.mk.inj (Option.some.inj h)).1
      rw [← h2]
      exact h1
  · exact (getSmall_bd s n k h).1
theorem g1_bd (g : Int) (s : List UInt8) : (g1 g s).1 < 18446744073709551616 ∧ (g1 g s).2.1.length ≤ s.length := by
  unfold g1
  rcases h : getN g s with _ | ⟨n, k⟩
  · exact ⟨by simp, Nat.le_refl _⟩
  · exact ⟨getN_bd g s n k h, by simp⟩
theorem refBlk_g1 (g : Int) (q : Nat) (last : Int) (r : List UInt8) : refBlk g (q + 1) last r = if (g1 g r).2.2 = false then none else match refBlk g q (nxtB g last (g1 g r).1) (g1 g r).2.1 with
    | none => none
    | some (l, t) => some (nxtB g last (g1 g r).1 :: l, t) := by
  unfold g1
  rw [refBlk]
  rcases getN g r with _ | ⟨n, k⟩
  · rfl
  · rfl
theorem refRead_g1 (s : List UInt8) (g : Int) : refRead s g =
    if (g1 g s).2.2 = false ∨ (g1 g (g1 g s).2.1).2.2 = false ∨ (g1 g (g1 g (g1 g s).2.1).2.1).2.2 = false ∨ 999999 < (g1 g s).1 ∨ 999999 < (g1 g (g1 g s).2.1).1 ∨ 40 < (g1 g (g1 g (g1 g s).2.1).2.1).1 then (zeroMt, false)
    else match refBlk g (g1 g (g1 g (g1 g s).2.1).2.1).1 0 (g1 g (g1 g (g1 g s).2.1).2.1).2.1 with
      | none => (zeroMt, false)
      | some (l, t) => (⟨g, (g1 g s).1, if g = 3 then ((g1 g s).1 : Int) - (g1 g (g1 g s).2.1).1 else (g1 g (g1 g s).2.1).1, l⟩, t.isEmpty) := by
  unfold refRead
  rcases h1 : getN g s with _ | ⟨nx, i⟩
  · have e1 : g1 g s = (0, s, false) := by unfold g1; rw [h1]
    rw [e1]
    simp
  · have e1 : g1 g s = (nx, s.drop i, true) := by unfold g1; rw [h1]
    rw [e1]
    simp only
    rcases h2 : getN g (s.drop i) with _ | ⟨wl, j⟩
    · have e2 : g1 g (s.drop i) = (0, s.drop i, false) := by unfold g1; rw [h2]
      rw [e2]
      simp
    · have e2 : g1 g (s.drop i) = (wl, (s.drop i).drop j, true) := by unfold g1; rw [h2]
      rw [e2]
      simp only
      rcases h3 : getN g ((s.drop i).drop j) with _ | ⟨n, k⟩
      · have e3 : g1 g ((s.drop i).drop j) = (0, (s.drop i).drop j, false) := by unfold g1; rw [h3]
        rw [e3]
        simp
      · have e3 : g1 g ((s.drop i).drop j) = (n, ((s.drop i).drop j).drop k, true) := by unfold g1; rw [h3]
        rw [e3]
        simp only [Bool.true_eq_false, false_or]
        rfl
end Go.Proofs.YtgehgjalkponfaaGreatDoor
namespace Go.Proofs.YtgehgjalkponfaaGreatDoor
open Go.RowKit Go.Maps Go.WideMaps
attribute [local go_sem] bs_toList bs_size

set_option maxRecDepth 100000 in
set_option maxHeartbeats 4000000 in
theorem ref14_read_any (s : List UInt8) (g : Int) (w : World) (hs : s.length ≤ 1000000) (_gl1 : -9223372036854775808 ≤ g) (_gl2 : g ≤ 9223372036854775807) :
    Calls Tryz.prog 43 #[.string (bs s), .int .i64 g] w fun e w' => ∃ bv, e = .returned (readV (refRead s g).1 bv (refRead s g).2) ∧ IntsAt w' bv (refRead s g).1.blocks ∧ (∀ k, bv.ownBlock = some k → w.heap.size + 1 ≤ k) ∧ Below w.heap.size w w' := by
  have HR := Lib.hid (refRead_g1 s g)
  generalize refRead s g = RR at *
  have b0 := one_alloc w (.cells #[.int .i64 0, .int .i64 0, .int .i64 0, .slice none 0 0] 30)
  have k0 := Blk.new w 30 #[.int .i64 0, .int .i64 0, .int .i64 0, .slice none 0 0]
  have q1 := Lib.hid (ref14_get_any s g (w.alloc (.cells #[.int .i64 0, .int .i64 0, .int .i64 0, .slice none 0 0] 30)) (by omega))
  rw [refN_g1] at q1
  have l1 := g1_bd g s
  rcases hA : g1 g s with ⟨nx, a, p⟩
  rw [hA] at HR q1 l1
  simp only at HR q1 l1
  have q2 := Lib.hid (fun W => ref14_get_any a g W (by omega))
  rw [refN_g1] at q2
  have l2 := g1_bd g a
  rcases hB : g1 g a with ⟨wl, b, q⟩
  rw [hB] at HR q2 l2
  simp only at HR q2 l2
  have q3 := Lib.hid (fun W => ref14_get_any b g W (by omega))
  rw [refN_g1] at q3
  have l3 := g1_bd g b
  rcases hC : g1 g b with ⟨n, rest, r⟩
  rw [hC] at HR q3 l3
  simp only at HR q3 l3
  obtain ⟨l11, l12⟩ := l1
  obtain ⟨l21, l22⟩ := l2
  obtain ⟨l31, l32⟩ := l3
  clear hA hB hC
  go_enter Tryz.func43, Tryz.ntmps43
  go_wp2_with fail
  refine q1.out.mono ?_
  rintro e w1 ⟨rfl, b1⟩
  have B1 := b0.trans (b1.mono b0.size)
  have k1 := Blk.below k0 b1 k0.lt
  clear q1 b1 b0 k0
  go_wp2_with fail
  refine (q2.out _).mono ?_
  rintro e w2 ⟨rfl, b2⟩
  have B2 := B1.trans (b2.mono B1.size)
  have k2 := Blk.below k1 b2 k1.lt
  clear q2 b2 B1 k1
  go_wp2_with fail
  refine (q3.out _).mono ?_
  rintro e w3 ⟨rfl, b3⟩
  have B3 := B2.trans (b3.mono B2.size)
  have k3 := Blk.below k2 b3 k2.lt
  clear q3 b3 B2 k2
  cases p with
  | false =>
    have HY := Lib.hid (show RR = (zeroMt, false) by rw [HR.out, if_pos (.inl rfl)])
    clear HR
    obtain ⟨⟨c0, c1, c2, c3⟩, z0, z1, z2, z3⟩ := cells4 k3
    obtain ⟨hkE, hKE⟩ := set4 k3 (.int .i64 0) (.int .i64 0) (.int .i64 0) (.slice none 0 0)
    go_wp2_with fail
    (try simp only [Exit.inBlock, Exit.then])
    refine bodyPost_ret (results_ct rfl _ _ w.heap.size 30 _ _ rfl hkE Tryz.underlying30 rfl (by kernel_rfl)) rfl ?_
    refine ⟨.slice none 0 0, ?_, ?_, (fun k hk => by cases hk), B3.trans (Kept.below hKE B3.size (fun k hk => by omega))⟩
    · rw [HY.out]
      rfl
    · rw [HY.out]
      exact ints_nil _
  | true =>
    cases q with
    | false =>
      have HY := Lib.hid (show RR = (zeroMt, false) by rw [HR.out, if_pos (.inr (.inl rfl))])
      clear HR
      obtain ⟨⟨c0, c1, c2, c3⟩, z0, z1, z2, z3⟩ := cells4 k3
      obtain ⟨hkE, hKE⟩ := set4 k3 (.int .i64 0) (.int .i64 0) (.int .i64 0) (.slice none 0 0)
      go_wp2_with fail
      (try simp only [Exit.inBlock, Exit.then])
      refine bodyPost_ret (results_ct rfl _ _ w.heap.size 30 _ _ rfl hkE Tryz.underlying30 rfl (by kernel_rfl)) rfl ?_
      refine ⟨.slice none 0 0, ?_, ?_, (fun k hk => by cases hk), B3.trans (Kept.below hKE B3.size (fun k hk => by omega))⟩
      · rw [HY.out]
        rfl
      · rw [HY.out]
        exact ints_nil _
    | true =>
      cases r with
      | false =>
        have HY := Lib.hid (show RR = (zeroMt, false) by rw [HR.out, if_pos (.inr (.inr (.inl rfl)))])
        clear HR
        obtain ⟨⟨c0, c1, c2, c3⟩, z0, z1, z2, z3⟩ := cells4 k3
        obtain ⟨hkE, hKE⟩ := set4 k3 (.int .i64 0) (.int .i64 0) (.int .i64 0) (.slice none 0 0)
        go_wp2_with fail
        (try simp only [Exit.inBlock, Exit.then])
        refine bodyPost_ret (results_ct rfl _ _ w.heap.size 30 _ _ rfl hkE Tryz.underlying30 rfl (by kernel_rfl)) rfl ?_
        refine ⟨.slice none 0 0, ?_, ?_, (fun k hk => by cases hk), B3.trans (Kept.below hKE B3.size (fun k hk => by omega))⟩
        · rw [HY.out]
          rfl
        · rw [HY.out]
          exact ints_nil _
      | true =>
        by_cases jc : 999999 < nx
        · have HY := Lib.hid (show RR = (zeroMt, false) by rw [HR.out, if_pos (.inr (.inr (.inr (.inl jc))))])
          have f3 : decide (999999 < (nx : Int)) = true := by simp only [decide_eq_true_eq]; omega
          have f3' : decide (999999 < nx) = true := by simpa using jc
          clear HR jc
          obtain ⟨⟨c0, c1, c2, c3⟩, z0, z1, z2, z3⟩ := cells4 k3
          obtain ⟨hkE, hKE⟩ := set4 k3 (.int .i64 0) (.int .i64 0) (.int .i64 0) (.slice none 0 0)
          go_wp2_with fail
          (try simp only [Exit.inBlock, Exit.then])
          refine bodyPost_ret (results_ct rfl _ _ w.heap.size 30 _ _ rfl hkE Tryz.underlying30 rfl (by kernel_rfl)) rfl ?_
          refine ⟨.slice none 0 0, ?_, ?_, (fun k hk => by cases hk), B3.trans (Kept.below hKE B3.size (fun k hk => by omega))⟩
          · rw [HY.out]
            rfl
          · rw [HY.out]
            exact ints_nil _
        have f3 : decide (999999 < (nx : Int)) = false := by simp only [decide_eq_false_iff_not]; omega
        have f3' : decide (999999 < nx) = false := by simpa using jc
        have j3 := jc
        clear jc
        by_cases jc : 999999 < wl
        · have HY := Lib.hid (show RR = (zeroMt, false) by rw [HR.out, if_pos (.inr (.inr (.inr (.inr (.inl jc)))))])
          have f4 : decide (999999 < (wl : Int)) = true := by simp only [decide_eq_true_eq]; omega
          have f4' : decide (999999 < wl) = true := by simpa using jc
          clear HR jc
          obtain ⟨⟨c0, c1, c2, c3⟩, z0, z1, z2, z3⟩ := cells4 k3
          obtain ⟨hkE, hKE⟩ := set4 k3 (.int .i64 0) (.int .i64 0) (.int .i64 0) (.slice none 0 0)
          go_wp2_with fail
          (try simp only [Exit.inBlock, Exit.then])
          refine bodyPost_ret (results_ct rfl _ _ w.heap.size 30 _ _ rfl hkE Tryz.underlying30 rfl (by kernel_rfl)) rfl ?_
          refine ⟨.slice none 0 0, ?_, ?_, (fun k hk => by cases hk), B3.trans (Kept.below hKE B3.size (fun k hk => by omega))⟩
          · rw [HY.out]
            rfl
          · rw [HY.out]
            exact ints_nil _
        have f4 : decide (999999 < (wl : Int)) = false := by simp only [decide_eq_false_iff_not]; omega
        have f4' : decide (999999 < wl) = false := by simpa using jc
        have j4 := jc
        clear jc
        by_cases jc : 40 < n
        · have HY := Lib.hid (show RR = (zeroMt, false) by rw [HR.out, if_pos (.inr (.inr (.inr (.inr (.inr jc)))))])
          have f5 : decide (40 < (n : Int)) = true := by simp only [decide_eq_true_eq]; omega
          have f5' : decide (40 < n) = true := by simpa using jc
          clear HR jc
          obtain ⟨⟨c0, c1, c2, c3⟩, z0, z1, z2, z3⟩ := cells4 k3
          obtain ⟨hkE, hKE⟩ := set4 k3 (.int .i64 0) (.int .i64 0) (.int .i64 0) (.slice none 0 0)
          go_wp2_with fail
          (try simp only [Exit.inBlock, Exit.then])
          refine bodyPost_ret (results_ct rfl _ _ w.heap.size 30 _ _ rfl hkE Tryz.underlying30 rfl (by kernel_rfl)) rfl ?_
          refine ⟨.slice none 0 0, ?_, ?_, (fun k hk => by cases hk), B3.trans (Kept.below hKE B3.size (fun k hk => by omega))⟩
          · rw [HY.out]
            rfl
          · rw [HY.out]
            exact ints_nil _
        have f5 : decide (40 < (n : Int)) = false := by simp only [decide_eq_false_iff_not]; omega
        have f5' : decide (40 < n) = false := by simpa using jc
        have j5 := jc
        clear jc
        have HR2 := Lib.hid (show RR = match refBlk g n 0 rest with
          | none => (zeroMt, false)
          | some (l, t) => (⟨g, nx, if g = 3 then (nx : Int) - wl else wl, l⟩, t.isEmpty) by
            rw [HR.out, if_neg (fun h => by
              rcases h with h | h | h | h | h | h
              · cases h
              · cases h
              · cases h
              · exact j3 h
              · exact j4 h
              · exact j5 h)]
            all_goals rfl)
        have hw1 : IntKind.i64.wrap (nx : Int) = (nx : Int) := by simp only [IntKind.wrap, IntKind.bits, IntKind.signed]; simp; omega
        have hw2 : IntKind.i64.wrap (wl : Int) = (wl : Int) := by simp only [IntKind.wrap, IntKind.bits, IntKind.signed]; simp; omega
        have hnx : nx ≤ 999999 := by omega
        have hwl : wl ≤ 999999 := by omega
        have hn : n ≤ 40 := by omega
        clear HR j3 j4 j5
        have kN := Blk.new w3 30 #[.int .i64 g, .int .i64 (nx : Int), .int .i64 (wl : Int), .slice none 0 0]
        have kR := Blk.alloc k3 (.cells #[.int .i64 g, .int .i64 (nx : Int), .int .i64 (wl : Int), .slice none 0 0] 30)
        have b4 := one_alloc w3 (.cells #[.int .i64 g, .int .i64 (nx : Int), .int .i64 (wl : Int), .slice none 0 0] 30)
        have B4 := B3.trans (b4.mono B3.size)
        have hbw : w.heap.size + 1 ≤ w3.heap.size := k3.lt
        obtain ⟨⟨c0, c1, c2, c3⟩, z0, z1, z2, z3⟩ := cells4 kN
        have ⟨i0, hin, hz0, hz1, hz2⟩ := info_parts (show (Tryz.prog.info? 3).map (fun i => (i.zero, i.size, i.bytes)) = some (some (.int .i64 0), 1, 8) by kernel_rfl)
        clear b4
        by_cases hg3 : g = 3
        · have fg : (g == 3) = true := by simpa using hg3
          rw [if_pos hg3] at HR2
          have HG3 := Lib.hid hg3
          clear hg3
          have hsub := wr64_id ((nx : Int) - (wl : Int)) (by omega) (by omega)
          unfold wr64 at hsub
          have kN2 := Blk.new w3 30 #[.int .i64 g, .int .i64 (nx : Int), .int .i64 ((nx : Int) - (wl : Int)), .slice none 0 0]
          have kR2 := Blk.alloc k3 (.cells #[.int .i64 g, .int .i64 (nx : Int), .int .i64 ((nx : Int) - (wl : Int)), .slice none 0 0] 30)
          have B5 := B3.trans ((one_alloc w3 (.cells #[.int .i64 g, .int .i64 (nx : Int), .int .i64 ((nx : Int) - (wl : Int)), .slice none 0 0] 30)).mono B3.size)
          have hNm : ∀ (i : Nat) last r A, refBlk g n 0 rest = (match refBlk g i last r with | none => none | some (l, t) => some (A ++ l, t)) → RR = match refBlk g i last r with
            | none => (zeroMt, false)
            | some (l, t) => (⟨g, nx, (nx : Int) - wl, A ++ l⟩, t.isEmpty) := fun i last r A h => by
              rw [HR2.out, h]
              rcases refBlk g i last r with _ | ⟨l, t⟩ <;> rfl
          have HNm := Lib.hid hNm
          clear hNm HR2
          go_wp2_with fail
          clear c0 c1 c2 c3 z0 z1 z2 z3
          go_loopw [13, 16, 17] (fun v13 v16 v17 wr => ∃ (i : Nat) (last : Int) (r : List UInt8) (A : List Int) (vl : Value), i ≤ n ∧ v17 = .int .u64 (i : Int) ∧ v16 = .int .i64 last ∧ v13 = .string (bs r) ∧ (-9223372036854775808 ≤ last ∧ last ≤ 9223372036854775807) ∧ A.length = i ∧ refBlk g n 0 rest = (match refBlk g (n - i) last r with | none => none | some (l, t) => some (A ++ l, t)) ∧ r.length ≤ 1000000 ∧ (∀ x ∈ A, -9223372036854775808 ≤ x ∧ x ≤ 9223372036854775807) ∧ Blk wr w3.heap.size 30 #[.int .i64 g, .int .i64 (nx : Int), .int .i64 ((nx : Int) - (wl : Int)), vl] ∧ wr.ownsRow (w.heap.size + 1) 3 1 vl i (A.map (Value.int .i64)) ∧ Blk wr w.heap.size 30 #[.int .i64 0, .int .i64 0, .int .i64 0, .slice none 0 0] ∧ Below w.heap.size w wr) (fun _ _ v17 _ => n - (intOf v17).toNat)
          case atStart => exact ⟨0, 0, rest, [], .slice none 0 0, Nat.zero_le _, rfl, rfl, rfl, ⟨by omega, by omega⟩, rfl, by rcases refBlk g (n - 0) 0 rest with _ | ⟨l, t⟩ <;> rfl, by omega, (fun x hx => by cases hx), kN2, World.ownsRow_nil _ _ _ _, kR2, B5⟩
          clear kN kN2 kR kR2 B4 B5 k3 B3
          obtain ⟨_, last, r, A, vl, hi, rfl, rfl, rfl, hlast, rfl, hrec, hrl, hAb, hB, hrow, kRx, hb⟩ := hrel
          have HREC := Lib.hid hrec
          clear hrec
          obtain ⟨va, vc, rfl⟩ := row_form hrow
          by_cases hil : A.length < n
          · have HX := Lib.hid (show refBlk g (n - A.length) last r = _ by rw [show n - A.length = (n - (A.length + 1)) + 1 by omega, refBlk_g1])
            have q := Lib.hid (ref14_get_any r g wr (by omega))
            rw [refN_g1] at q
            have l4 := g1_bd g r
            rcases hV : g1 g r with ⟨v, more, ok⟩
            rw [hV] at HX q l4
            simp only at HX q l4
            obtain ⟨l41, l42⟩ := l4
            have hilI : (A.length : Int) < (n : Int) := by omega
            clear hV
            go_wp2_with fail
            refine q.out.mono ?_
            rintro e W5 ⟨rfl, h5⟩
            have hB5 := Blk.below hB h5 hB.lt
            have kR5 := Blk.below kRx h5 kRx.lt
            have hb5 := hb.trans (h5.mono hb.size)
            have hrow5 := ownsRow_kept hrow (Kept.of_below (S := fun _ => False) h5) (fun _ _ e => e)
            clear q hB kRx hb hrow h5
            cases ok with
            | false =>
              have HY := Lib.hid (show RR = (zeroMt, false) by
                rw [HNm.out (n - A.length) last r A HREC.out, HX.out, if_pos rfl])
              clear HX HREC HNm
              obtain ⟨⟨c0, c1, c2, c3⟩, z0, z1, z2, z3⟩ := cells4 kR5
              obtain ⟨hkE, hKE⟩ := set4 kR5 (.int .i64 0) (.int .i64 0) (.int .i64 0) (.slice none 0 0)
              go_wp2_with fail
              (try simp only [Exit.inBlock, Exit.then])
              refine bodyPost_ret (results_ct rfl _ _ w.heap.size 30 _ _ rfl hkE Tryz.underlying30 rfl (by kernel_rfl)) rfl ?_
              refine ⟨.slice none 0 0, ?_, ?_, (fun k hk => by cases hk), hb5.trans (Kept.below hKE hb5.size (fun k hk => by omega))⟩
              · rw [HY.out]
                rfl
              · rw [HY.out]
                exact ints_nil _
            | true =>
              have HX2 := Lib.hid (show refBlk g (n - A.length) last r = match refBlk g (n - (A.length + 1)) (nxtB g last v) more with
                | none => none
                | some (l, t) => some (nxtB g last v :: l, t) by
                rw [HX.out, if_neg (by simp)]
                all_goals rfl)
              clear HX
              have hzb := Num.zag_bd (v : Int) (by omega) (by omega)
              have qz := Lib.hid (fun W => ref_Zag_any (v : Int) W (by omega) (by omega))
              have HXV := Lib.hid (show nxtB g last v = wr64 (Num.zagI v + last) by unfold nxtB; rw [if_pos HG3.out])
              have hxb := wr64_bd (Num.zagI v + last)
              generalize Num.zagI (v : Int) = z at *
              obtain ⟨x, hx⟩ : ∃ y, wr64 (z + last) = y := ⟨_, rfl⟩
              rw [hx] at HXV hxb
              unfold wr64 at hx
              obtain ⟨y, hy⟩ : ∃ y, IntKind.i64.wrap (v : Int) = y := ⟨_, rfl⟩
              rw [HXV.out] at HX2
              clear HXV
              go_wp2_with fail
              refine (qz.out _).mono ?_
              rintro e _ ⟨rfl, rfl⟩
              clear qz
              have hkB1 : w.heap.size + 1 ≤ W5.heap.size := by have := kR5.lt; omega
              obtain ⟨⟨z0, z1, z2, z3⟩, f0, f1, f2, f3⟩ := cells4 hB5
              have hrow6 := World.ownsRow.alloc hrow5 (.cells #[.int .i64 x] 3)
              have hB6 := Blk.alloc hB5 (.cells #[.int .i64 x] 3)
              have kR6 := Blk.alloc kR5 (.cells #[.int .i64 x] 3)
              have hb6 := hb5.alloc hb5.size (.cells #[.int .i64 x] 3)
              have hkB6 : w.heap.size + 1 ≤ (W5.alloc (.cells #[.int .i64 x] 3)).heap.size := by rw [World.size_alloc]; omega
              have hcn := cells_list_new W5 [.int .i64 x] 3
              have HK8 := Lib.hid (show ∀ w8, (W5.alloc (.cells #[.int .i64 x] 3)).grownBy w8 (Value.slice va A.length vc).ownBlock → Kept (W5.alloc (.cells #[.int .i64 x] 3)) w8 (fun k => (Value.slice va A.length vc).ownBlock = some k) from fun w8 h => Kept.of_grown h fun k e => e)
              have hvb : ∀ k, (Value.slice va A.length vc).ownBlock = some k → tag (W5.alloc (.cells #[.int .i64 x] 3)) k = some (some 3) := fun k hk => tag_row hrow6 hk
              have hnb : (Value.slice va A.length vc).ownBlock ≠ some w3.heap.size := fun e => by have := hvb _ e; rw [tag_blk hB6] at this; simp at this
              have hnn : (Value.slice va A.length vc).ownBlock ≠ some w.heap.size := fun e => by have := hvb _ e; rw [tag_blk kR6] at this; simp at this
              have hlo : ∀ k, (Value.slice va A.length vc).ownBlock = some k → w.heap.size + 1 ≤ k := fun k hk => (hrow6.lt k hk).1
              clear hrow5 hB5 kR5
              go_wp2_with (at_builtin; refine wpList_append_own_at _ rfl _ _ 22 rfl (w.heap.size + 1) 3 i0 (.int .i64 0) 1 8 Tryz.underlying22 hin hz0 hz1 hz2 rfl (by decide) _ _ _ rfl hrow6 ⟨_, 0, none⟩ 1 1 [.int .i64 x] rfl rfl hcn (by simp [Value.oneCell']) (by unfold maxLen; omega) (by omega) hkB6 ?_; intro v' w8 hown' hgrow hnil hloc; obtain ⟨va', vc', rfl⟩ := row_form hown'; have hk8 := HK8.out w8 hgrow; have hB8 := hB6.keptK hk8 hnb; obtain ⟨⟨s0, s1, s2, s3⟩, t0, t1, t2, t3⟩ := cells4 hB8)
              have hk9 : Kept w8 (w8.setCell ⟨w3.heap.size, 3, none⟩ (.slice va' (A.length + 1) vc')) (fun k => k = w3.heap.size) := Kept.of_grown (grown_set _ _ _ _) fun _ e => (Option.some.inj e).symm
              have hB9 := Blk.set_ hB8 3 (.slice va' (A.length + 1) vc')
              have kR9 := (kR6.keptK hk8 hnn).keptK hk9 (by omega)
              have hrow9 := ownsRow_kept hown' hk9 (fun k hk e => by have h1 := tag_row hown' hk; rw [e, tag_blk hB8] at h1; simp at h1)
              have hb8 := hb6.trans (Kept.below hk8 hb6.size (fun k hk => by have := hlo k hk; omega))
              have hb9 := hb8.trans (Kept.below hk9 hb8.size (fun k hk => by omega))
              go_roundw
              case rel =>
                refine ⟨A.length + 1, x, more, A ++ [x], .slice va' (A.length + 1) vc', by omega, by go_num, rfl, rfl, hxb, by simp, ?_, by omega, fun y hy => ?_, hB9, ?_, kR9, hb9⟩
                · rw [HREC.out, HX2.out]
                  rcases refBlk g (n - (A.length + 1)) x more with _ | ⟨l, t⟩
                  · rfl
                  · simp
                · rcases List.mem_append.1 hy with hy | hy
                  · exact hAb y hy
                  · simp only [List.mem_singleton] at hy
                    subst hy
                    exact hxb
                · rw [List.map_append]
                  exact hrow9
              case measure => simp [intOf]; omega
          · obtain rfl : n = A.length := by omega
            have HY := Lib.hid (show RR = (⟨g, nx, (nx : Int) - wl, A⟩, r.isEmpty) by
              rw [HNm.out (A.length - A.length) last r A HREC.out, show A.length - A.length = 0 by omega]
              simp [refBlk])
            obtain ⟨⟨z0, z1, z2, z3⟩, _⟩ := cells4 hB
            obtain ⟨⟨n0, n1, n2, n3⟩, m0, m1, m2, m3⟩ := cells4 kRx
            obtain ⟨kE, hkE⟩ := set4 kRx (.int .i64 g) (.int .i64 (nx : Int)) (.int .i64 ((nx : Int) - (wl : Int))) (.slice va A.length vc)
            have hrE := ownsRow_kept hrow hkE (fun k hk e => by have h1 := tag_row hrow hk; rw [e, tag_blk kRx] at h1; simp at h1)
            have hbE := hb.trans (Kept.below hkE hb.size (fun k hk => by omega))
            clear HNm HREC
            cases r with
            | nil =>
              rw [show bs [] = ⟨#[]⟩ from rfl]
              go_wp2_with fail
              (try simp only [Exit.inBlock, Exit.then])
              refine bodyPost_ret (results_ct rfl _ _ w.heap.size 30 _ _ rfl kE Tryz.underlying30 rfl (by kernel_rfl)) rfl ?_
              refine ⟨.slice va A.length vc, ?_, ?_, (fun k hk => (hrE.lt k hk).1), hbE⟩
              · rw [HY.out]
                rfl
              · rw [HY.out]
                exact ints_of_own hrE rfl (show A.length ≤ 100000 by omega) hAb
            | cons rx rr =>
              have fe : (rx :: rr).isEmpty = false := rfl
              go_wp2_with fail
              (try simp only [Exit.inBlock, Exit.then])
              refine bodyPost_ret (results_ct rfl _ _ w.heap.size 30 _ _ rfl kE Tryz.underlying30 rfl (by kernel_rfl)) rfl ?_
              refine ⟨.slice va A.length vc, ?_, ?_, (fun k hk => (hrE.lt k hk).1), hbE⟩
              · rw [HY.out]
                rfl
              · rw [HY.out]
                exact ints_of_own hrE rfl (show A.length ≤ 100000 by omega) hAb
        · have fg : (g == 3) = false := by simpa using hg3
          rw [if_neg hg3] at HR2
          have kN2 := kN
          have kR2 := kR
          have B5 := B4
          have hNm : ∀ (i : Nat) last r A, refBlk g n 0 rest = (match refBlk g i last r with | none => none | some (l, t) => some (A ++ l, t)) → RR = match refBlk g i last r with
            | none => (zeroMt, false)
            | some (l, t) => (⟨g, nx, wl, A ++ l⟩, t.isEmpty) := fun i last r A h => by
              rw [HR2.out, h]
              rcases refBlk g i last r with _ | ⟨l, t⟩ <;> rfl
          have HNm := Lib.hid hNm
          clear hNm HR2
          go_wp2_with fail
          clear c0 c1 c2 c3 z0 z1 z2 z3
          go_loopw [13, 16, 17] (fun v13 v16 v17 wr => ∃ (i : Nat) (last : Int) (r : List UInt8) (A : List Int) (vl : Value), i ≤ n ∧ v17 = .int .u64 (i : Int) ∧ v16 = .int .i64 last ∧ v13 = .string (bs r) ∧ (-9223372036854775808 ≤ last ∧ last ≤ 9223372036854775807) ∧ A.length = i ∧ refBlk g n 0 rest = (match refBlk g (n - i) last r with | none => none | some (l, t) => some (A ++ l, t)) ∧ r.length ≤ 1000000 ∧ (∀ x ∈ A, -9223372036854775808 ≤ x ∧ x ≤ 9223372036854775807) ∧ Blk wr w3.heap.size 30 #[.int .i64 g, .int .i64 (nx : Int), .int .i64 (wl : Int), vl] ∧ wr.ownsRow (w.heap.size + 1) 3 1 vl i (A.map (Value.int .i64)) ∧ Blk wr w.heap.size 30 #[.int .i64 0, .int .i64 0, .int .i64 0, .slice none 0 0] ∧ Below w.heap.size w wr) (fun _ _ v17 _ => n - (intOf v17).toNat)
          case atStart => exact ⟨0, 0, rest, [], .slice none 0 0, Nat.zero_le _, rfl, rfl, rfl, ⟨by omega, by omega⟩, rfl, by rcases refBlk g (n - 0) 0 rest with _ | ⟨l, t⟩ <;> rfl, by omega, (fun x hx => by cases hx), kN2, World.ownsRow_nil _ _ _ _, kR2, B5⟩
          clear kN kN2 kR kR2 B4 B5 k3 B3
          obtain ⟨_, last, r, A, vl, hi, rfl, rfl, rfl, hlast, rfl, hrec, hrl, hAb, hB, hrow, kRx, hb⟩ := hrel
          have HREC := Lib.hid hrec
          clear hrec
          obtain ⟨va, vc, rfl⟩ := row_form hrow
          by_cases hil : A.length < n
          · have HX := Lib.hid (show refBlk g (n - A.length) last r = _ by rw [show n - A.length = (n - (A.length + 1)) + 1 by omega, refBlk_g1])
            have q := Lib.hid (ref14_get_any r g wr (by omega))
            rw [refN_g1] at q
            have l4 := g1_bd g r
            rcases hV : g1 g r with ⟨v, more, ok⟩
            rw [hV] at HX q l4
            simp only at HX q l4
            obtain ⟨l41, l42⟩ := l4
            have hilI : (A.length : Int) < (n : Int) := by omega
            clear hV
            go_wp2_with fail
            refine q.out.mono ?_
            rintro e W5 ⟨rfl, h5⟩
            have hB5 := Blk.below hB h5 hB.lt
            have kR5 := Blk.below kRx h5 kRx.lt
            have hb5 := hb.trans (h5.mono hb.size)
            have hrow5 := ownsRow_kept hrow (Kept.of_below (S := fun _ => False) h5) (fun _ _ e => e)
            clear q hB kRx hb hrow h5
            cases ok with
            | false =>
              have HY := Lib.hid (show RR = (zeroMt, false) by
                rw [HNm.out (n - A.length) last r A HREC.out, HX.out, if_pos rfl])
              clear HX HREC HNm
              obtain ⟨⟨c0, c1, c2, c3⟩, z0, z1, z2, z3⟩ := cells4 kR5
              obtain ⟨hkE, hKE⟩ := set4 kR5 (.int .i64 0) (.int .i64 0) (.int .i64 0) (.slice none 0 0)
              go_wp2_with fail
              (try simp only [Exit.inBlock, Exit.then])
              refine bodyPost_ret (results_ct rfl _ _ w.heap.size 30 _ _ rfl hkE Tryz.underlying30 rfl (by kernel_rfl)) rfl ?_
              refine ⟨.slice none 0 0, ?_, ?_, (fun k hk => by cases hk), hb5.trans (Kept.below hKE hb5.size (fun k hk => by omega))⟩
              · rw [HY.out]
                rfl
              · rw [HY.out]
                exact ints_nil _
            | true =>
              have HX2 := Lib.hid (show refBlk g (n - A.length) last r = match refBlk g (n - (A.length + 1)) (nxtB g last v) more with
                | none => none
                | some (l, t) => some (nxtB g last v :: l, t) by
                rw [HX.out, if_neg (by simp)]
                all_goals rfl)
              clear HX
              have HXV := Lib.hid (show nxtB g last v = wr64 v by unfold nxtB; rw [if_neg hg3])
              have hxb := wr64_bd v
              obtain ⟨x, hx⟩ : ∃ y, wr64 (v : Int) = y := ⟨_, rfl⟩
              rw [hx] at HXV hxb
              unfold wr64 at hx
              rw [HXV.out] at HX2
              clear HXV
              have hkB1 : w.heap.size + 1 ≤ W5.heap.size := by have := kR5.lt; omega
              obtain ⟨⟨z0, z1, z2, z3⟩, f0, f1, f2, f3⟩ := cells4 hB5
              have hrow6 := World.ownsRow.alloc hrow5 (.cells #[.int .i64 x] 3)
              have hB6 := Blk.alloc hB5 (.cells #[.int .i64 x] 3)
              have kR6 := Blk.alloc kR5 (.cells #[.int .i64 x] 3)
              have hb6 := hb5.alloc hb5.size (.cells #[.int .i64 x] 3)
              have hkB6 : w.heap.size + 1 ≤ (W5.alloc (.cells #[.int .i64 x] 3)).heap.size := by rw [World.size_alloc]; omega
              have hcn := cells_list_new W5 [.int .i64 x] 3
              have HK8 := Lib.hid (show ∀ w8, (W5.alloc (.cells #[.int .i64 x] 3)).grownBy w8 (Value.slice va A.length vc).ownBlock → Kept (W5.alloc (.cells #[.int .i64 x] 3)) w8 (fun k => (Value.slice va A.length vc).ownBlock = some k) from fun w8 h => Kept.of_grown h fun k e => e)
              have hvb : ∀ k, (Value.slice va A.length vc).ownBlock = some k → tag (W5.alloc (.cells #[.int .i64 x] 3)) k = some (some 3) := fun k hk => tag_row hrow6 hk
              have hnb : (Value.slice va A.length vc).ownBlock ≠ some w3.heap.size := fun e => by have := hvb _ e; rw [tag_blk hB6] at this; simp at this
              have hnn : (Value.slice va A.length vc).ownBlock ≠ some w.heap.size := fun e => by have := hvb _ e; rw [tag_blk kR6] at this; simp at this
              have hlo : ∀ k, (Value.slice va A.length vc).ownBlock = some k → w.heap.size + 1 ≤ k := fun k hk => (hrow6.lt k hk).1
              clear hrow5 hB5 kR5
              go_wp2_with (at_builtin; refine wpList_append_own_at _ rfl _ _ 22 rfl (w.heap.size + 1) 3 i0 (.int .i64 0) 1 8 Tryz.underlying22 hin hz0 hz1 hz2 rfl (by decide) _ _ _ rfl hrow6 ⟨_, 0, none⟩ 1 1 [.int .i64 x] rfl rfl hcn (by simp [Value.oneCell']) (by unfold maxLen; omega) (by omega) hkB6 ?_; intro v' w8 hown' hgrow hnil hloc; obtain ⟨va', vc', rfl⟩ := row_form hown'; have hk8 := HK8.out w8 hgrow; have hB8 := hB6.keptK hk8 hnb; obtain ⟨⟨s0, s1, s2, s3⟩, t0, t1, t2, t3⟩ := cells4 hB8)
              have hk9 : Kept w8 (w8.setCell ⟨w3.heap.size, 3, none⟩ (.slice va' (A.length + 1) vc')) (fun k => k = w3.heap.size) := Kept.of_grown (grown_set _ _ _ _) fun _ e => (Option.some.inj e).symm
              have hB9 := Blk.set_ hB8 3 (.slice va' (A.length + 1) vc')
              have kR9 := (kR6.keptK hk8 hnn).keptK hk9 (by omega)
              have hrow9 := ownsRow_kept hown' hk9 (fun k hk e => by have h1 := tag_row hown' hk; rw [e, tag_blk hB8] at h1; simp at h1)
              have hb8 := hb6.trans (Kept.below hk8 hb6.size (fun k hk => by have := hlo k hk; omega))
              have hb9 := hb8.trans (Kept.below hk9 hb8.size (fun k hk => by omega))
              go_roundw
              case rel =>
                refine ⟨A.length + 1, x, more, A ++ [x], .slice va' (A.length + 1) vc', by omega, by go_num, rfl, rfl, hxb, by simp, ?_, by omega, fun y hy => ?_, hB9, ?_, kR9, hb9⟩
                · rw [HREC.out, HX2.out]
                  rcases refBlk g (n - (A.length + 1)) x more with _ | ⟨l, t⟩
                  · rfl
                  · simp
                · rcases List.mem_append.1 hy with hy | hy
                  · exact hAb y hy
                  · simp only [List.mem_singleton] at hy
                    subst hy
                    exact hxb
                · rw [List.map_append]
                  exact hrow9
              case measure => simp [intOf]; omega
          · obtain rfl : n = A.length := by omega
            have HY := Lib.hid (show RR = (⟨g, nx, wl, A⟩, r.isEmpty) by
              rw [HNm.out (A.length - A.length) last r A HREC.out, show A.length - A.length = 0 by omega]
              simp [refBlk])
            obtain ⟨⟨z0, z1, z2, z3⟩, _⟩ := cells4 hB
            obtain ⟨⟨n0, n1, n2, n3⟩, m0, m1, m2, m3⟩ := cells4 kRx
            obtain ⟨kE, hkE⟩ := set4 kRx (.int .i64 g) (.int .i64 (nx : Int)) (.int .i64 (wl : Int)) (.slice va A.length vc)
            have hrE := ownsRow_kept hrow hkE (fun k hk e => by have h1 := tag_row hrow hk; rw [e, tag_blk kRx] at h1; simp at h1)
            have hbE := hb.trans (Kept.below hkE hb.size (fun k hk => by omega))
            clear HNm HREC
            cases r with
            | nil =>
              rw [show bs [] = ⟨#[]⟩ from rfl]
              go_wp2_with fail
              (try simp only [Exit.inBlock, Exit.then])
              refine bodyPost_ret (results_ct rfl _ _ w.heap.size 30 _ _ rfl kE Tryz.underlying30 rfl (by kernel_rfl)) rfl ?_
              refine ⟨.slice va A.length vc, ?_, ?_, (fun k hk => (hrE.lt k hk).1), hbE⟩
              · rw [HY.out]
                rfl
              · rw [HY.out]
                exact ints_of_own hrE rfl (show A.length ≤ 100000 by omega) hAb
            | cons rx rr =>
              have fe : (rx :: rr).isEmpty = false := rfl
              go_wp2_with fail
              (try simp only [Exit.inBlock, Exit.then])
              refine bodyPost_ret (results_ct rfl _ _ w.heap.size 30 _ _ rfl kE Tryz.underlying30 rfl (by kernel_rfl)) rfl ?_
              refine ⟨.slice va A.length vc, ?_, ?_, (fun k hk => (hrE.lt k hk).1), hbE⟩
              · rw [HY.out]
                rfl
              · rw [HY.out]
                exact ints_of_own hrE rfl (show A.length ≤ 100000 by omega) hAb
end Go.Proofs.YtgehgjalkponfaaGreatDoor
namespace Go.Proofs.YtgehgjalkponfaaGreatDoor
open Go.RowKit Go.Maps Go.WideMaps
attribute [local go_sem] bs_toList bs_size

theorem refRead_ok (b : List UInt8) (g : Int) (h1 : -9223372036854775808 ≤ g) (h2 : g ≤ 9223372036854775807) : (refRead b g).1.ok := by
  have hz : zeroMt.ok := ⟨⟨by simp [zeroMt], by simp [zeroMt]⟩, ⟨by simp [zeroMt], by simp [zeroMt]⟩, by simp [zeroMt], by simp [zeroMt]⟩
  rw [refRead_g1]
  split
  · exact hz
  · rename_i hn
    split
    · exact hz
    · generalize (g1 g b).1 = nx at *
      generalize (g1 g (g1 g b).2.1).1 = wl at *
      have n1 : ¬ 999999 < nx := fun h => hn (.inr (.inr (.inr (.inl h))))
      have n2 : ¬ 999999 < wl := fun h => hn (.inr (.inr (.inr (.inr (.inl h)))))
      refine ⟨⟨h1, h2⟩, ⟨?_, ?_⟩, ?_, ?_⟩
      · simp only; omega
      · simp only; omega
      · simp only; split <;> omega
      · simp only; split <;> omega
set_option maxRecDepth 100000 in
set_option maxHeartbeats 4000000 in
theorem ref14_Get_any (s : List UInt8) (w : World) (hl : s.length ≤ 1000000) :
    Calls Tryz.prog 18 #[.string (bs s)] w fun e w' => ∃ bv, e = .returned (getMV ((getM s).1.getD zeroMt) bv (getM s).2) ∧ IntsAt w' bv ((getM s).1.getD zeroMt).blocks ∧ Below w.heap.size w w' := by
  have b0 := one_alloc w (.cells #[.int .i64 0, .int .i64 0, .int .i64 0, .slice none 0 0] 30)
  have k0 := Blk.new w 30 #[.int .i64 0, .int .i64 0, .int .i64 0, .slice none 0 0]
  have qo := Lib.hid (fun W => ref09_Open_any s magicM (by omega) (by decide) W)
  have HG := Lib.hid (show getM s = match openB s magicM with
    | (g, _, rest, e) => if e ≠ 0 then (none, e)
      else if (frameGet rest 1000).2.2 ≠ 0 ∨ (frameGet rest 1000).2.1 ≠ [] ∨ (refRead (frameGet rest 1000).1 g).2 = false then (none, 9)
      else if putM (refRead (frameGet rest 1000).1 g).1 = (s, 0) then (some (refRead (frameGet rest 1000).1 g).1, 0) else (none, 9) by
    rw [← refGet_is]
    rfl)
  generalize getM s = GM at *
  have hob := openB_bd s magicM
  rcases hO : openB s magicM with ⟨g, fl, rest, er⟩
  rw [hO] at HG hob qo
  simp only at HG hob
  clear hO
  go_enter Tryz.func18, Tryz.ntmps18
  go_wp2_with fail
  refine (qo.out _).mono ?_
  rintro e w1 ⟨rfl, b1⟩
  rw [show openV (g, fl, rest, er) = .tuple #[.int .i64 (g : Int), .int .i64 (fl : Int), .string (bs rest), .int .i64 er] from rfl]
  have k1 := Blk.below k0 b1 k0.lt
  have B1 := b0.trans (b1.mono b0.size)
  clear k0 b0 b1 qo
  by_cases her : er = 0
  case neg =>
    obtain ⟨⟨c0, c1, c2, c3⟩, z0, z1, z2, z3⟩ := cells4 k1
    obtain ⟨hk1, hK1⟩ := set4 k1 (.int .i64 0) (.int .i64 0) (.int .i64 0) (.slice none 0 0)
    have f1 : (er != 0) = true := by simpa using her
    have HY := Lib.hid (show GM = (none, er) by rw [HG.out, if_pos her])
    clear HG her
    go_wp2_with fail
    (try simp only [Exit.inBlock, Exit.then])
    refine bodyPost_ret (results_ct rfl _ _ w.heap.size 30 _ _ rfl hk1 Tryz.underlying30 rfl (by kernel_rfl)) rfl ?_
    refine ⟨.slice none 0 0, ?_, ?_, B1.trans (Kept.below hK1 B1.size (fun k hk => by omega))⟩
    · rw [HY.out]
      rfl
    · rw [HY.out]
      exact ints_nil _
  case pos =>
    subst her
    rw [if_neg (by simp)] at HG
    have qg := Lib.hid (fun W => ref09_Get_any rest 1000 (by omega) (by decide) W)
    have hfl := frameGet_len rest 1000
    rcases hF : frameGet rest 1000 with ⟨b, rest2, sh⟩
    rw [hF] at HG hfl qg
    simp only at HG hfl
    clear hF
    go_wp2_with fail
    refine (qg.out _).mono ?_
    rintro e w2 ⟨rfl, b2⟩
    rw [show frameV (b, rest2, sh) = .tuple #[.string (bs b), .string (bs rest2), .int .i64 sh] from rfl]
    have k2 := Blk.below k1 b2 k1.lt
    have B2 := B1.trans (b2.mono B1.size)
    obtain ⟨⟨c0, c1, c2, c3⟩, z0, z1, z2, z3⟩ := cells4 k2
    obtain ⟨hk2, hK2⟩ := set4 k2 (.int .i64 0) (.int .i64 0) (.int .i64 0) (.slice none 0 0)
    clear k1 B1 b2 qg
    by_cases hsh : sh = 0
    case neg =>
      have HY := Lib.hid (show GM = (none, 9) by rw [HG.out, if_pos (.inl hsh)])
      have f2 : (sh != 0) = true := by simpa using hsh
      clear HG hsh
      go_wp2_with fail
      (try simp only [Exit.inBlock, Exit.then])
      refine bodyPost_ret (results_ct rfl _ _ w.heap.size 30 _ _ rfl hk2 Tryz.underlying30 rfl (by kernel_rfl)) rfl ?_
      refine ⟨.slice none 0 0, ?_, ?_, B2.trans (Kept.below hK2 B2.size (fun k hk => by omega))⟩
      · rw [HY.out]
        rfl
      · rw [HY.out]
        exact ints_nil _
    case pos =>
      subst hsh
      cases rest2 with
      | cons rx rr =>
        have HY := Lib.hid (show GM = (none, 9) by rw [HG.out, if_pos (.inr (.inl (by simp)))])
        have f2 : (rx :: rr).isEmpty = false := rfl
        clear HG
        go_wp2_with fail
        (try simp only [Exit.inBlock, Exit.then])
        refine bodyPost_ret (results_ct rfl _ _ w.heap.size 30 _ _ rfl hk2 Tryz.underlying30 rfl (by kernel_rfl)) rfl ?_
        refine ⟨.slice none 0 0, ?_, ?_, B2.trans (Kept.below hK2 B2.size (fun k hk => by omega))⟩
        · rw [HY.out]
          rfl
        · rw [HY.out]
          exact ints_nil _
      | nil =>
        have qr := Lib.hid (ref14_read_any b (g : Int) w2 (by omega) (by omega) (by omega))
        have hmo := refRead_ok b (g : Int) (by omega) (by omega)
        rcases hM : refRead b (g : Int) with ⟨⟨gn, nx, wl, L⟩, dn⟩
        rw [hM] at HG qr hmo
        simp only at HG qr hmo
        clear hM c0 c1 c2 c3 z0 z1 z2 z3 hk2 hK2
        rw [show bs [] = ⟨#[]⟩ from rfl]
        go_wp2_with fail
        refine qr.out.mono ?_
        rintro e w3 ⟨bv, rfl, hI, hown, b3⟩
        obtain ⟨ba, bc, rfl, _⟩ := id hI
        have hws : w.heap.size < w2.heap.size := k2.lt
        rw [show readV ⟨gn, nx, wl, L⟩ (.slice ba L.length bc) dn = .tuple #[.agg #[.int .i64 gn, .int .i64 nx, .int .i64 wl, .slice ba L.length bc], .bool dn] from rfl]
        have km := Blk.new w3 30 #[.int .i64 gn, .int .i64 nx, .int .i64 wl, .slice ba L.length bc]
        have b4 := one_alloc w3 (.cells #[.int .i64 gn, .int .i64 nx, .int .i64 wl, .slice ba L.length bc] 30)
        have b24 := b3.trans (b4.mono b3.size)
        have k4 := Blk.below k2 b24 k2.lt
        have B4 := B2.trans (b24.mono B2.size)
        have hI4 := hI.below b4
        obtain ⟨⟨m0, m1, m2, m3⟩, _⟩ := cells4 km
        obtain ⟨⟨c0, c1, c2, c3⟩, z0, z1, z2, z3⟩ := cells4 k4
        obtain ⟨hk4, hK4⟩ := set4 k4 (.int .i64 0) (.int .i64 0) (.int .i64 0) (.slice none 0 0)
        clear qr b3 b4 b24 hI k2 B2
        cases dn with
        | false =>
          have HY := Lib.hid (show GM = (none, 9) by rw [HG.out, if_pos (.inr (.inr rfl))])
          clear HG
          go_wp2_with fail
          (try simp only [Exit.inBlock, Exit.then])
          refine bodyPost_ret (results_ct rfl _ _ w.heap.size 30 _ _ rfl hk4 Tryz.underlying30 rfl (by kernel_rfl)) rfl ?_
          refine ⟨.slice none 0 0, ?_, ?_, B4.trans (Kept.below hK4 B4.size (fun k hk => by omega))⟩
          · rw [HY.out]
            rfl
          · rw [HY.out]
            exact ints_nil _
        | true =>
          rw [if_neg (by simp)] at HG
          have qp := Lib.hid (ref14_Put_any ⟨gn, nx, wl, L⟩ (.slice ba L.length bc) _ hmo hI4)
          rw [show mtV ⟨gn, nx, wl, L⟩ (.slice ba L.length bc) = .agg #[.int .i64 gn, .int .i64 nx, .int .i64 wl, .slice ba L.length bc] from rfl] at qp
          go_wp2_with fail
          refine qp.out.mono ?_
          rintro e w5 ⟨rfl, b5⟩
          have hI5 := hI4.below b5
          have B5 := B4.trans (b5.mono B4.size)
          have km5 := Blk.below km b5 km.lt
          have k5 := Blk.below k4 b5 k4.lt
          rcases hP : putM ⟨gn, nx, wl, L⟩ with ⟨pb, pe⟩
          rw [hP] at HG
          rw [show putMV ⟨gn, nx, wl, L⟩ = .tuple #[.string (bs pb), .int .i64 pe] by unfold putMV; rw [hP]]
          obtain ⟨⟨p0, p1, p2, p3⟩, _⟩ := cells4 km5
          obtain ⟨⟨d0, d1, d2, d3⟩, y0, y1, y2, y3⟩ := cells4 k5
          obtain ⟨hk5, hK5⟩ := set4 k5 (.int .i64 0) (.int .i64 0) (.int .i64 0) (.slice none 0 0)
          obtain ⟨hk6, hK6⟩ := set4 k5 (.int .i64 gn) (.int .i64 nx) (.int .i64 wl) (.slice ba L.length bc)
          have hI6 : IntsAt _ (.slice ba L.length bc) L := ints_kept hI5 hK6 (fun e => by have := hown _ e; have := hws; omega)
          clear hP c0 c1 c2 c3 z0 z1 z2 z3 m0 m1 m2 m3 hk4 hK4 qp b5
          by_cases hpe : pe = 0
          · subst hpe
            by_cases hps : pb = s
            · subst hps
              have HY := Lib.hid (show GM = (some ⟨gn, nx, wl, L⟩, 0) by rw [HG.out, if_pos rfl])
              have f3 : (pb == pb) = true := by simp
              clear HG
              go_wp2_with fail
              (try simp only [Exit.inBlock, Exit.then])
              refine bodyPost_ret (results_ct rfl _ _ w.heap.size 30 _ _ rfl hk6 Tryz.underlying30 rfl (by kernel_rfl)) rfl ?_
              refine ⟨.slice ba L.length bc, ?_, ?_, B5.trans (Kept.below hK6 B5.size (fun k hk => by omega))⟩
              · rw [HY.out]
                rfl
              · rw [HY.out]
                exact hI6
            · have HY := Lib.hid (show GM = (none, 9) by rw [HG.out, if_neg (by simp [hps])])
              have f3 : (pb == s) = false := by simpa using hps
              clear HG hps
              go_wp2_with fail
              (try simp only [Exit.inBlock, Exit.then])
              refine bodyPost_ret (results_ct rfl _ _ w.heap.size 30 _ _ rfl hk5 Tryz.underlying30 rfl (by kernel_rfl)) rfl ?_
              refine ⟨.slice none 0 0, ?_, ?_, B5.trans (Kept.below hK5 B5.size (fun k hk => by omega))⟩
              · rw [HY.out]
                rfl
              · rw [HY.out]
                exact ints_nil _
          · have HY := Lib.hid (show GM = (none, 9) by rw [HG.out, if_neg (by simp [hpe])])
            have f3 : (pe != 0) = true := by simpa using hpe
            clear HG hpe
            go_wp2_with fail
            (try simp only [Exit.inBlock, Exit.then])
            refine bodyPost_ret (results_ct rfl _ _ w.heap.size 30 _ _ rfl hk5 Tryz.underlying30 rfl (by kernel_rfl)) rfl ?_
            refine ⟨.slice none 0 0, ?_, ?_, B5.trans (Kept.below hK5 B5.size (fun k hk => by omega))⟩
            · rw [HY.out]
              rfl
            · rw [HY.out]
              exact ints_nil _
end Go.Proofs.YtgehgjalkponfaaGreatDoor
namespace Go.Proofs.YtgehgjalkponfaaGreatDoor
open Go.RowKit Go.Maps Go.WideMaps Go.ChangeShapes Go.WideShapes Go.Deep
attribute [local go_sem] bs_toList bs_size

set_option maxRecDepth 100000 in
set_option maxHeartbeats 4000000 in
theorem MetaGets_walk (s : List UInt8) (W : World) (hG : Gl W) (hs : s.length ≤ maxLen) :
    Calls Tryz.prog 4 #[.string (bs s)] W fun e w' => e = .returned (.bool true) ∧ Below W.heap.size W w' := by
  have q0 := Lib.hid (works_any W hG)
  unfold maxLen at hs
  by_cases i1 : s.length ≤ 600
  · have f1 : decide ((600 : Int) < (s.length : Int)) = false := by simp; omega
    have f1' : decide (600 < s.length) = false := by simp; omega
    have qg := Lib.hid (fun W' => Get_meta_any s W' (by omega))
    have qr := Lib.hid (fun W' => ref14_Get_any s W' (by omega))
    generalize (getM s).1.getD zeroMt = M at *
    generalize (getM s).2 = E at *
    obtain ⟨g, nx, wl, L⟩ := M
    have fE : (E == E) = true := by simp
    go_enter Tryz.func4, Tryz.ntmps4
    go_wp2_with fail
    refine q0.out.mono ?_
    rintro e w1 ⟨rfl, b1⟩
    clear q0
    go_wp2_with fail
    refine (qg.out _).mono ?_
    rintro e w2 ⟨bv, rfl, hI, b2⟩
    (try simp only at hI)
    obtain ⟨sa, sc, rfl, _⟩ := id hI
    rw [show getMV ⟨g, nx, wl, L⟩ (.slice sa L.length sc) E = .tuple #[.agg #[.int .i64 g, .int .i64 nx, .int .i64 wl, .slice sa L.length sc], .int .i64 E] from rfl]
    have km := Blk.new w2 24 #[.int .i64 g, .int .i64 nx, .int .i64 wl, .slice sa L.length sc]
    have b3 := one_alloc w2 (.cells #[.int .i64 g, .int .i64 nx, .int .i64 wl, .slice sa L.length sc] 24)
    have hI3 := hI.below b3
    have B2 := b1.trans (b2.mono b1.size)
    have B3 := B2.trans (b3.mono B2.size)
    clear qg b1 b2 B2 b3 hI
    go_wp2_with fail
    refine (qr.out _).mono ?_
    rintro e w4 ⟨bn, rfl, hN, b4⟩
    (try simp only at hN)
    obtain ⟨na, nc, rfl, _⟩ := id hN
    rw [show getMV ⟨g, nx, wl, L⟩ (.slice na L.length nc) E = .tuple #[.agg #[.int .i64 g, .int .i64 nx, .int .i64 wl, .slice na L.length nc], .int .i64 E] from rfl]
    have km4 := Blk.below km b4 km.lt
    have kn := Blk.new w4 30 #[.int .i64 g, .int .i64 nx, .int .i64 wl, .slice na L.length nc]
    have b5 := one_alloc w4 (.cells #[.int .i64 g, .int .i64 nx, .int .i64 wl, .slice na L.length nc] 30)
    have km5 := Blk.below km4 b5 km4.lt
    have hI5 := (hI3.below b4).below b5
    have hN5 := hN.below b5
    have B4 := B3.trans (b4.mono B3.size)
    have B5 := B4.trans (b5.mono B4.size)
    obtain ⟨⟨m0, m1, m2, m3⟩, _⟩ := cells4 km5
    obtain ⟨⟨n0, n1, n2, n3⟩, _⟩ := cells4 kn
    have x0 := grow_cell m0
    have x1 := grow_cell m1
    have x2 := grow_cell m2
    have x3 := grow_cell m3
    have y0 := grow_cell n0
    have y1 := grow_cell n1
    have y2 := grow_cell n2
    have y3 := grow_cell n3
    have qs := Lib.hid (fun W' h1 h2 => ref14_Same_any ⟨g, nx, wl, L⟩ ⟨g, nx, wl, L⟩ (.slice sa L.length sc) (.slice na L.length nc) W' h1 h2)
    rw [show mtV ⟨g, nx, wl, L⟩ (.slice sa L.length sc) = .agg #[.int .i64 g, .int .i64 nx, .int .i64 wl, .slice sa L.length sc] from rfl, show mtV ⟨g, nx, wl, L⟩ (.slice na L.length nc) = .agg #[.int .i64 g, .int .i64 nx, .int .i64 wl, .slice na L.length nc] from rfl, (sameM_iff _ _).2 rfl] at qs
    have qo := Lib.hid (fun W' => law14_Of_any ⟨g, nx, wl, L⟩ sa L.length sc W')
    rw [show mtV ⟨g, nx, wl, L⟩ (.slice sa L.length sc) = .agg #[.int .i64 g, .int .i64 nx, .int .i64 wl, .slice sa L.length sc] from rfl] at qo
    clear km km4 kn km5 b4 b5 B3 B4 hI3 hN qr m0 m1 m2 m3 n0 n1 n2 n3
    go_wp2_with fail
    refine wp_region_at (R := GrowR) (by kernel_rfl) (by kernel_rfl) ?_
    (refine lex_one (by kernel_rfl) (by kernel_rfl) (by kernel_rfl) (fun K hK => ?_); go_big_quiet_step (fail); refine wpQuiet_nil (hK _ ?_); clear hK K)
    (refine lex_call (f := 12) (args := #[.agg #[.int .i64 g, .int .i64 nx, .int .i64 wl, .slice sa L.length sc]]) (v := .agg #[.int .i64 g, .int .i64 nx, .int .i64 wl, .slice sa L.length sc]) (by kernel_rfl) (fun _ _ h => by cases h) (by kernel_rfl) (by kernel_rfl) (fun _ => by go_simp) (fun W hW => qo.out W) (lex_put (type := 0) (pos := "") (fun K hK => ?_)); go_big_quiet_step (fail); refine wpQuiet_nil (hK _ ?_); clear hK K)
    (refine lex_one (by kernel_rfl) (by kernel_rfl) (by kernel_rfl) (fun K hK => ?_); go_big_quiet_step (fail); refine wpQuiet_nil (hK _ ?_); clear hK K)
    (refine lex_call (f := 14) (args := #[.agg #[.int .i64 g, .int .i64 nx, .int .i64 wl, .slice sa L.length sc], .agg #[.int .i64 g, .int .i64 nx, .int .i64 wl, .slice na L.length nc]]) (v := .bool true) (by kernel_rfl) (fun _ _ h => by cases h) (by kernel_rfl) (by kernel_rfl) (fun _ => by go_simp) (fun W hW => qs.out W (hI5.below hW) (hN5.below hW)) (lex_put (type := 0) (pos := "") (fun K hK => ?_)); go_big_quiet_step (fail); refine wpQuiet_nil (hK _ ?_); clear hK K)
    (refine lex_one (by kernel_rfl) (by kernel_rfl) (by kernel_rfl) (fun K hK => ?_); go_big_quiet_step (fail); refine wpQuiet_nil (hK _ ?_); clear hK K)
    refine lex_nil (by kernel_rfl) (by kernel_rfl) (by kernel_rfl) ?_
    intro w6 hb6
    simp only [hideAll]
    clear x0 x1 x2 x3 y0 y1 y2 y3
    go_wp2_with fail
    go_ret
    exact ⟨rfl, B5.trans (Below.mono hb6 B5.size)⟩
  · have f1 : decide ((600 : Int) < (s.length : Int)) = true := by simp; omega
    have f1' : decide (600 < s.length) = true := by simp; omega
    go_enter Tryz.func4, Tryz.ntmps4
    go_wp2_with fail
    refine q0.out.mono ?_
    rintro e w1 ⟨rfl, b1⟩
    go_wp2_with fail
    go_ret
    exact ⟨rfl, b1⟩
end Go.Proofs.YtgehgjalkponfaaGreatDoor
namespace Go.Proofs.YtgehgjalkponfaaGreatDoor
open Go.RowKit Go.Maps Go.WideMaps Go.ChangeShapes Go.WideShapes Go.Deep
attribute [local go_sem] bs_toList bs_size

set_option maxRecDepth 100000 in
set_option maxHeartbeats 8000000 in
theorem MetaPuts_walk (cs ds : Array Value) (W : World) (hG : Gl W) (_hsz : cs.size = Tryz.prog.cellsOf 24) {H : Type} {enc : TypeId × Value → H} {d : DataW H} {p : List MemPlace}
    (k : DataW.Trod enc Tryz.prog W 0 (fun _ => true) true 24 (.agg cs) d p) (_hsz2 : ds.size = Tryz.prog.cellsOf 24) {d2 : DataW H} {p2 : List MemPlace}
    (k2 : DataW.Trod enc Tryz.prog W 0 (fun _ => true) true 24 (.agg ds) d2 p2) :
    Calls Tryz.prog 3 #[.agg cs, .agg ds] W fun e w' => e = .returned (.bool true) ∧ Below W.heap.size W w' := by
  obtain ⟨m, bv, e, hm, hI⟩ := meta_of_trod k
  obtain ⟨n, cv, e', _hn, hJ⟩ := meta_of_trod k2
  rw [e, e']
  clear e e' k k2 _hsz _hsz2
  obtain ⟨g, nx, wl, L⟩ := m
  obtain ⟨g', nx', wl', K⟩ := n
  obtain ⟨ba, bc, rfl, _, hmx, _⟩ := id hI
  obtain ⟨ca, cc, rfl, _, hmx2, _⟩ := id hJ
  simp only at hI hmx hJ hmx2
  have HP := Lib.hid (show putMV ⟨g, nx, wl, L⟩ = .tuple #[.string (bs (putM ⟨g, nx, wl, L⟩).1), .int .i64 (putM ⟨g, nx, wl, L⟩).2] from rfl)
  have qp := Lib.hid (fun W' h => Put_any ⟨g, nx, wl, L⟩ (.slice ba L.length bc) W' hm h)
  have qrp := Lib.hid (fun W' h => ref14_Put_any ⟨g, nx, wl, L⟩ (.slice ba L.length bc) W' hm h)
  have qv := Lib.hid (fun W' h => Valid_any ⟨g, nx, wl, L⟩ (.slice ba L.length bc) W' hm h)
  have qrv := Lib.hid (fun W' h => ref14_Valid_any ⟨g, nx, wl, L⟩ (.slice ba L.length bc) W' hm h)
  have qs := Lib.hid (fun W' h1 h2 => Same_any ⟨g, nx, wl, L⟩ ⟨g', nx', wl', K⟩ (.slice ba L.length bc) (.slice ca K.length cc) W' h1 h2)
  have qrs := Lib.hid (fun W' h1 h2 => ref14_Same_any ⟨g, nx, wl, L⟩ ⟨g', nx', wl', K⟩ (.slice ba L.length bc) (.slice ca K.length cc) W' h1 h2)
  have qo := Lib.hid (fun W' => law14_Of_any ⟨g, nx, wl, L⟩ ba L.length bc W')
  have qo2 := Lib.hid (fun W' => law14_Of_any ⟨g', nx', wl', K⟩ ca K.length cc W')
  rw [HP.out] at qp qrp
  generalize (putM ⟨g, nx, wl, L⟩).1 = PB at *
  generalize (putM ⟨g, nx, wl, L⟩).2 = PE at *
  generalize validM ⟨g, nx, wl, L⟩ = VV at *
  generalize sameM ⟨g, nx, wl, L⟩ ⟨g', nx', wl', K⟩ = SS at *
  have fE : (PE == PE) = true := by simp
  have fB : (PB == PB) = true := by simp
  have fV : (VV == VV) = true := by simp
  have fS : (SS == SS) = true := by simp
  rw [show mtV ⟨g, nx, wl, L⟩ (.slice ba L.length bc) = .agg #[.int .i64 g, .int .i64 nx, .int .i64 wl, .slice ba L.length bc] from rfl] at *
  rw [show mtV ⟨g', nx', wl', K⟩ (.slice ca K.length cc) = .agg #[.int .i64 g', .int .i64 nx', .int .i64 wl', .slice ca K.length cc] from rfl] at *
  have b0 := (one_alloc W (.cells #[.int .i64 g, .int .i64 nx, .int .i64 wl, .slice ba L.length bc] 24)).alloc (by simp) (.cells #[.int .i64 g', .int .i64 nx', .int .i64 wl', .slice ca K.length cc] 24)
  have k0 := Blk.alloc (Blk.new W 24 #[.int .i64 g, .int .i64 nx, .int .i64 wl, .slice ba L.length bc]) (.cells #[.int .i64 g', .int .i64 nx', .int .i64 wl', .slice ca K.length cc] 24)
  have k0' := Blk.new (W.alloc (.cells #[.int .i64 g, .int .i64 nx, .int .i64 wl, .slice ba L.length bc] 24)) 24 #[.int .i64 g', .int .i64 nx', .int .i64 wl', .slice ca K.length cc]
  rw [World.size_alloc] at k0'
  have q0 := Lib.hid (works_any _ (hG.below b0))
  unfold maxLen at hmx hmx2
  clear HP
  obtain ⟨⟨a0, a1, a2, a3⟩, _⟩ := cells4 k0
  obtain ⟨⟨c0, c1, c2, c3⟩, _⟩ := cells4 k0'
  by_cases i1 : L.length ≤ 600
  case neg =>
    have f1 : decide ((600 : Int) < (L.length : Int)) = true := by simp; omega
    have f1' : decide (600 < L.length) = true := by simp; omega
    go_enter Tryz.func3, Tryz.ntmps3
    go_wp2_with fail
    refine q0.out.mono ?_
    rintro e w1 ⟨rfl, b1⟩
    have k1 := Blk.below k0 b1 k0.lt
    have k1' := Blk.below k0' b1 k0'.lt
    obtain ⟨⟨u0, u1, u2, u3⟩, _⟩ := cells4 k1
    obtain ⟨⟨v0, v1, v2, v3⟩, _⟩ := cells4 k1'
    clear i1 a0 a1 a2 a3 c0 c1 c2 c3
    go_wp2_with fail
    go_ret
    exact ⟨rfl, b0.trans (b1.mono b0.size)⟩
  have f1 : decide ((600 : Int) < (L.length : Int)) = false := by simp; omega
  have f1' : decide (600 < L.length) = false := by simp; omega
  by_cases i2 : K.length ≤ 600
  case neg =>
    have f2 : decide ((600 : Int) < (K.length : Int)) = true := by simp; omega
    have f2' : decide (600 < K.length) = true := by simp; omega
    go_enter Tryz.func3, Tryz.ntmps3
    go_wp2_with fail
    refine q0.out.mono ?_
    rintro e w1 ⟨rfl, b1⟩
    have k1 := Blk.below k0 b1 k0.lt
    have k1' := Blk.below k0' b1 k0'.lt
    obtain ⟨⟨u0, u1, u2, u3⟩, _⟩ := cells4 k1
    obtain ⟨⟨v0, v1, v2, v3⟩, _⟩ := cells4 k1'
    clear i1 i2 a0 a1 a2 a3 c0 c1 c2 c3
    go_wp2_with fail
    go_ret
    exact ⟨rfl, b0.trans (b1.mono b0.size)⟩
  have f2 : decide ((600 : Int) < (K.length : Int)) = false := by simp; omega
  have f2' : decide (600 < K.length) = false := by simp; omega
  have hI0 := (hI.at i1).below b0
  have hJ0 := (hJ.at i2).below b0
  clear hI hJ
  go_enter Tryz.func3, Tryz.ntmps3
  go_wp2_with fail
  refine q0.out.mono ?_
  rintro e w1 ⟨rfl, b1⟩
  clear q0 a0 a1 a2 a3 c0 c1 c2 c3
  have B1 := b0.trans (b1.mono b0.size)
  have k1 := Blk.below k0 b1 k0.lt
  have k1' := Blk.below k0' b1 k0'.lt
  have hI1 := hI0.below b1
  have hJ1 := hJ0.below b1
  clear b0 b1 k0 k0' hI0 hJ0
  obtain ⟨⟨u0, u1, u2, u3⟩, _⟩ := cells4 k1
  obtain ⟨⟨v0, v1, v2, v3⟩, _⟩ := cells4 k1'
  go_wp2_with fail
  refine (qp.out _ hI1).mono ?_
  rintro e w2 ⟨rfl, b2⟩
  have B2 := B1.trans (Below.mono b2 B1.size)
  have k2 := Blk.below k1 b2 k1.lt
  have k2' := Blk.below k1' b2 k1'.lt
  have hI2 := hI1.below b2
  have hJ2 := hJ1.below b2
  clear B1 k1 k1' hI1 hJ1 u0 u1 u2 u3 v0 v1 v2 v3 b2
  obtain ⟨⟨u0, u1, u2, u3⟩, _⟩ := cells4 k2
  obtain ⟨⟨v0, v1, v2, v3⟩, _⟩ := cells4 k2'
  go_wp2_with fail
  refine (qo.out _).mono ?_
  rintro e w3 ⟨rfl, b3⟩
  have B3 := B2.trans (Below.mono b3 B2.size)
  have k3 := Blk.below k2 b3 k2.lt
  have k3' := Blk.below k2' b3 k2'.lt
  have hI3 := hI2.below b3
  have hJ3 := hJ2.below b3
  clear B2 k2 k2' hI2 hJ2 u0 u1 u2 u3 v0 v1 v2 v3 b3
  obtain ⟨⟨u0, u1, u2, u3⟩, _⟩ := cells4 k3
  obtain ⟨⟨v0, v1, v2, v3⟩, _⟩ := cells4 k3'
  go_wp2_with fail
  refine (qrp.out _ hI3).mono ?_
  rintro e w4 ⟨rfl, b4⟩
  have B4 := B3.trans (Below.mono b4 B3.size)
  have k4 := Blk.below k3 b4 k3.lt
  have k4' := Blk.below k3' b4 k3'.lt
  have hI4 := hI3.below b4
  have hJ4 := hJ3.below b4
  clear B3 k3 k3' hI3 hJ3 u0 u1 u2 u3 v0 v1 v2 v3 b4
  obtain ⟨⟨u0, u1, u2, u3⟩, _⟩ := cells4 k4
  obtain ⟨⟨v0, v1, v2, v3⟩, _⟩ := cells4 k4'
  go_wp2_with fail
  refine (qo.out _).mono ?_
  rintro e w5 ⟨rfl, b5⟩
  have B5 := B4.trans (Below.mono b5 B4.size)
  have k5 := Blk.below k4 b5 k4.lt
  have k5' := Blk.below k4' b5 k4'.lt
  have hI5 := hI4.below b5
  have hJ5 := hJ4.below b5
  clear B4 k4 k4' hI4 hJ4 u0 u1 u2 u3 v0 v1 v2 v3 b5
  obtain ⟨⟨u0, u1, u2, u3⟩, _⟩ := cells4 k5
  obtain ⟨⟨v0, v1, v2, v3⟩, _⟩ := cells4 k5'
  go_wp2_with fail
  refine (qrv.out _ hI5).mono ?_
  rintro e w6 ⟨rfl, b6⟩
  have B6 := B5.trans (Below.mono b6 B5.size)
  have k6 := Blk.below k5 b6 k5.lt
  have k6' := Blk.below k5' b6 k5'.lt
  have hI6 := hI5.below b6
  have hJ6 := hJ5.below b6
  clear B5 k5 k5' hI5 hJ5 u0 u1 u2 u3 v0 v1 v2 v3 b6
  obtain ⟨⟨u0, u1, u2, u3⟩, _⟩ := cells4 k6
  obtain ⟨⟨v0, v1, v2, v3⟩, _⟩ := cells4 k6'
  have x0 := grow_cell u0
  have x1 := grow_cell u1
  have x2 := grow_cell u2
  have x3 := grow_cell u3
  have y0 := grow_cell v0
  have y1 := grow_cell v1
  have y2 := grow_cell v2
  have y3 := grow_cell v3
  go_wp2_with fail
  refine wp_region_at (R := GrowR) (by kernel_rfl) (by kernel_rfl) ?_
  (refine lex_one (by kernel_rfl) (by kernel_rfl) (by kernel_rfl) (fun K hK => ?_); go_big_quiet_step (fail); refine wpQuiet_nil (hK _ ?_); clear hK K)
  (refine lex_call (f := 12) (args := #[.agg #[.int .i64 g, .int .i64 nx, .int .i64 wl, .slice ba L.length bc]]) (v := .agg #[.int .i64 g, .int .i64 nx, .int .i64 wl, .slice ba L.length bc]) (by kernel_rfl) (fun _ _ h => by cases h) (by kernel_rfl) (by kernel_rfl) (fun _ => by go_simp) (fun W hW => qo.out W) (lex_put (type := 0) (pos := "") (fun K hK => ?_)); go_big_quiet_step (fail); refine wpQuiet_nil (hK _ ?_); clear hK K)
  (refine lex_one (by kernel_rfl) (by kernel_rfl) (by kernel_rfl) (fun K hK => ?_); go_big_quiet_step (fail); refine wpQuiet_nil (hK _ ?_); clear hK K)
  (refine lex_call (f := 12) (args := #[.agg #[.int .i64 g', .int .i64 nx', .int .i64 wl', .slice ca K.length cc]]) (v := .agg #[.int .i64 g', .int .i64 nx', .int .i64 wl', .slice ca K.length cc]) (by kernel_rfl) (fun _ _ h => by cases h) (by kernel_rfl) (by kernel_rfl) (fun _ => by go_simp) (fun W hW => qo2.out W) (lex_put (type := 0) (pos := "") (fun K hK => ?_)); go_big_quiet_step (fail); refine wpQuiet_nil (hK _ ?_); clear hK K)
  (refine lex_call (f := 14) (args := #[.agg #[.int .i64 g, .int .i64 nx, .int .i64 wl, .slice ba L.length bc], .agg #[.int .i64 g', .int .i64 nx', .int .i64 wl', .slice ca K.length cc]]) (v := .bool SS) (by kernel_rfl) (fun _ _ h => by cases h) (by kernel_rfl) (by kernel_rfl) (fun _ => by go_simp) (fun W hW => qrs.out W (hI6.below hW) (hJ6.below hW)) (lex_put (type := 0) (pos := "") (fun K hK => ?_)); go_big_quiet_step (fail); refine wpQuiet_nil (hK _ ?_); clear hK K)
  (refine lex_one (by kernel_rfl) (by kernel_rfl) (by kernel_rfl) (fun K hK => ?_); go_big_quiet_step (fail); refine wpQuiet_nil (hK _ ?_); clear hK K)
  refine lex_nil (by kernel_rfl) (by kernel_rfl) (by kernel_rfl) ?_
  intro w7 b7
  simp only [hideAll]
  clear x0 x1 x2 x3 y0 y1 y2 y3
  have B7 := B6.trans (Below.mono b7 B6.size)
  have k7 := Blk.below k6 b7 k6.lt
  have k7' := Blk.below k6' b7 k6'.lt
  have hI7 := hI6.below b7
  have hJ7 := hJ6.below b7
  clear B6 k6 k6' hI6 hJ6 u0 u1 u2 u3 v0 v1 v2 v3 b7
  obtain ⟨⟨u0, u1, u2, u3⟩, _⟩ := cells4 k7
  obtain ⟨⟨v0, v1, v2, v3⟩, _⟩ := cells4 k7'
  go_wp2_with fail
  refine (qv.out _ hI7).mono ?_
  rintro e w8 ⟨rfl, b8⟩
  have B8 := B7.trans (Below.mono b8 B7.size)
  have k8 := Blk.below k7 b8 k7.lt
  have k8' := Blk.below k7' b8 k7'.lt
  have hI8 := hI7.below b8
  have hJ8 := hJ7.below b8
  clear B7 k7 k7' hI7 hJ7 u0 u1 u2 u3 v0 v1 v2 v3 b8
  obtain ⟨⟨u0, u1, u2, u3⟩, _⟩ := cells4 k8
  obtain ⟨⟨v0, v1, v2, v3⟩, _⟩ := cells4 k8'
  go_wp2_with fail
  refine (qs.out _ hI8 hJ8).mono ?_
  rintro e w9 ⟨rfl, b9⟩
  have B9 := B8.trans (Below.mono b9 B8.size)
  have k9 := Blk.below k8 b9 k8.lt
  have k9' := Blk.below k8' b9 k8'.lt
  have hI9 := hI8.below b9
  have hJ9 := hJ8.below b9
  clear B8 k8 k8' hI8 hJ8 u0 u1 u2 u3 v0 v1 v2 v3 b9
  obtain ⟨⟨u0, u1, u2, u3⟩, _⟩ := cells4 k9
  obtain ⟨⟨v0, v1, v2, v3⟩, _⟩ := cells4 k9'
  go_wp2_with fail
  go_ret
  exact ⟨rfl, B9⟩
end Go.Proofs.YtgehgjalkponfaaGreatDoor
