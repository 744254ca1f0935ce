/- A meta as bytes: the walk of Put. -/
import Derived.Test.YtgehgjalkponfaaGreatDoorMetB
import Derived.Test.YtgehgjalkponfaaGreatDoorLexz
namespace Go.Proofs.YtgehgjalkponfaaGreatDoor
open Go.RowKit Go.Maps Go.WideMaps
attribute [local go_sem] bs_toList bs_size

theorem ints_of_row {w : World} {x : Value} {L : List Int} (h : RowHeld L.length (L.map (Value.int .i64)) x w) (hl : L.length ≤ 100000) (hb : ∀ y ∈ L, -9223372036854775808 ≤ y ∧ y ≤ 9223372036854775807) : IntsAt w x L := by
  obtain ⟨p, c, rfl, hc⟩ := h
  refine ⟨_, c, rfl, (fun e => by cases e), hl, hb, fun i y hy => ⟨p, 0, rfl, ?_⟩⟩
  have := hc i (.int .i64 y) (by rw [List.getElem?_map, hy]; rfl)
  rw [add_at] at this
  rw [Nat.zero_add]
  exact this
theorem ints_lit {w : World} (L : List Int) (hl : L.length ≤ 100000) (hb : ∀ y ∈ L, -9223372036854775808 ≤ y ∧ y ≤ 9223372036854775807) : IntsAt (w.alloc (.cells (L.map (Value.int .i64)).toArray 3)) (.slice (some ⟨w.heap.size, 0, none⟩) L.length L.length) L := by
  refine ⟨_, L.length, rfl, (fun e => by cases e), hl, hb, fun i y hy => ⟨w.heap.size, 0, rfl, ?_⟩⟩
  rw [Nat.zero_add, World.cell?_alloc_new]
  simp [hy]
def putMV (m : Mt) : Value := .tuple #[.string (bs (putM m).1), .int .i64 (putM m).2]
set_option maxRecDepth 100000 in
set_option maxHeartbeats 4000000 in
theorem Put_any (m : Mt) (bv : Value) (w : World) (hm : m.ok) (hb : IntsAt w bv m.blocks) :
    Calls Tryz.prog 10 #[mtV m bv] w fun e w' => e = .returned (putMV m) ∧ Below w.heap.size w w' := by
  have hv := Lib.hid (validM_iff m)
  have hbl := Lib.hid (body_len m)
  have HP := Lib.hid (show putMV m = if validM m then .tuple #[.string (bs (headB magicM m.gen.toNat 0 ++ framePut (bodyB m))), .int .i64 0] else .tuple #[.string ⟨#[]⟩, .int .i64 1] by unfold putMV putM; split <;> rfl)
  obtain ⟨g, nx, wl, L⟩ := m
  simp only at hv hbl hb
  have HB := Lib.hid (show bodyB ⟨g, nx, wl, L⟩ = if g < 3 then (nx :: wl :: (L.length : Int) :: L).flatMap (numB g) else [nx, nx - wl, (L.length : Int)].flatMap (numB g) ++ dltB 0 L from rfl)
  obtain ⟨ba, bc, rfl, hnil, hL, hLb, hc⟩ := id hb
  rw [show mtV ⟨g, nx, wl, L⟩ (.slice ba L.length bc) = .agg #[.int .i64 g, .int .i64 nx, .int .i64 wl, .slice ba L.length bc] from rfl]
  have b0 := one_alloc w (.cells #[.int .i64 g, .int .i64 nx, .int .i64 wl, .slice ba L.length bc] 24)
  have k0 := Blk.new w 24 #[.int .i64 g, .int .i64 nx, .int .i64 wl, .slice ba L.length bc]
  obtain ⟨⟨c0, c1, c2, c3⟩, _⟩ := cells4 k0
  have hb1 := hb.below b0
  have qv := Lib.hid (Valid_any ⟨g, nx, wl, L⟩ (.slice ba L.length bc) _ hm hb1)
  rw [show mtV ⟨g, nx, wl, L⟩ (.slice ba L.length bc) = .agg #[.int .i64 g, .int .i64 nx, .int .i64 wl, .slice ba L.length bc] from rfl] at qv
  generalize putMV ⟨g, nx, wl, L⟩ = PV at *
  go_enter Tryz.func10, Tryz.ntmps10
  go_wp2_with fail
  refine qv.out.mono ?_
  rintro e w1 ⟨rfl, b1⟩
  have k1 := Blk.below k0 b1 k0.lt
  have hb2 := hb1.below b1
  have B1 := b0.trans (b1.mono b0.size)
  obtain ⟨⟨d0, d1, d2, d3⟩, _⟩ := cells4 k1
  clear qv k0 c0 c1 c2 c3 b0 b1 hb1 hc hnil
  cases hvv : validM ⟨g, nx, wl, L⟩ with
  | false =>
    have HY := Lib.hid (show PV = .tuple #[.string ⟨#[]⟩, .int .i64 1] by rw [HP.out, hvv]; rfl)
    clear HP HB hv hbl hvv
    go_wp2
    go_ret2
    exact ⟨by rw [HY.out]; rfl, B1⟩
  | true =>
    obtain ⟨⟨i1, i2, i3, i4, i5⟩, i6, _⟩ := hv.out.1 hvv
    have hwl := i6 wl List.mem_cons_self
    have hbb := hbl.out i5
    have HY := Lib.hid (show PV = .tuple #[.string (bs (headB magicM g.toNat 0 ++ framePut (bodyB ⟨g, nx, wl, L⟩))), .int .i64 0] by rw [HP.out, hvv]; rfl)
    clear HP hv hbl hvv
    generalize bodyB ⟨g, nx, wl, L⟩ = BD at *
    have qh := Lib.hid (fun W => Head_any magicM g.toNat 0 (by omega) (by omega) (by decide) W)
    rw [Int.toNat_of_nonneg (show 0 ≤ g by omega)] at qh
    have qf := Lib.hid (fun W => framePut_any BD (by omega) W)
    have hhl : (headB magicM g.toNat 0).length ≤ 20 := by unfold headB; rw [checkedB_len]; simp [magicM]
    have hfl : (framePut BD).length ≤ 1000 := by unfold framePut; rw [checkedB_len, Num.text_len]; have := Num.small_len BD.length; omega
    generalize framePut BD = FB at *
    generalize headB magicM g.toNat 0 = HD at *
    by_cases hg3 : g < 3
    · have f1 : decide (g < 3) = true := by simpa using hg3
      have HBd := Lib.hid (show BD = (nx :: wl :: (L.length : Int) :: L).flatMap (numB g) by rw [HB.out, if_pos hg3])
      clear HB hg3
      have x0 := grow_cell d0
      have x1 := grow_cell d1
      have x2 := grow_cell d2
      have x3 := grow_cell d3
      have ⟨i0, hin, hz0, hz1, hz2⟩ := info_parts (show (Tryz.prog.info? 3).map (fun i => (i.zero, i.size, i.bytes)) = some (some (.int .i64 0), 1, 8) by kernel_rfl)
      obtain ⟨_, _, e1, hnil, _, _, hc⟩ := id hb2
      obtain ⟨rfl, _, rfl⟩ := Value.slice.inj e1
      have h00 : ba = none → L.length = 0 ∧ bc = 0 := fun e => by
        refine ⟨?_, hnil e⟩
        cases L with
        | nil => rfl
        | cons x L =>
          obtain ⟨_, _, e2, _⟩ := hc 0 x rfl
          rw [e] at e2
          cases e2
      go_wp2_with fail
      refine wp_region_at (R := GrowR) (by kernel_rfl) (by kernel_rfl) ?_
      (refine lex_one (by kernel_rfl) (by kernel_rfl) (by kernel_rfl) (fun K hK => ?_); go_big_quiet_step (fail); refine wpQuiet_nil (hK _ ?_); clear hK K); (refine lex_one (by kernel_rfl) (by kernel_rfl) (by kernel_rfl) (fun K hK => ?_); go_big_quiet_step (fail); refine wpQuiet_nil (hK _ ?_); clear hK K); (refine lex_one (by kernel_rfl) (by kernel_rfl) (by kernel_rfl) (fun K hK => ?_); go_big_quiet_step (fail); refine wpQuiet_nil (hK _ ?_); clear hK K); (refine lex_one (by kernel_rfl) (by kernel_rfl) (by kernel_rfl) (fun K hK => ?_); go_big_quiet_step (fail); refine wpQuiet_nil (hK _ ?_); clear hK K); (refine lex_one (by kernel_rfl) (by kernel_rfl) (by kernel_rfl) (fun K hK => ?_); go_big_quiet_step (fail); refine wpQuiet_nil (hK _ ?_); clear hK K); (refine lex_one (by kernel_rfl) (by kernel_rfl) (by kernel_rfl) (fun K hK => ?_); go_big_quiet_step (fail); refine wpQuiet_nil (hK _ ?_); clear hK K); (refine lex_one (by kernel_rfl) (by kernel_rfl) (by kernel_rfl) (fun K hK => ?_); go_big_quiet_step (fail); refine wpQuiet_nil (hK _ ?_); clear hK K); (refine lex_one (by kernel_rfl) (by kernel_rfl) (by kernel_rfl) (fun K hK => ?_); go_big_quiet_step (fail); refine wpQuiet_nil (hK _ ?_); clear hK K)
      (refine lex_val (v := .int .i64 (L.length : Int)) (by kernel_rfl) (fun _ _ h => by cases h) (by kernel_rfl) (by kernel_rfl) (fun _ _ => by go_simp) (lex_put (type := 0) (pos := "") (fun K hK => ?_)); go_big_quiet_step (fail); refine wpQuiet_nil (hK _ ?_); clear hK K)
      refine lex_full 23 3 [.int .i64 nx, .int .i64 wl, .int .i64 (L.length : Int)] (by kernel_rfl) (fun _ _ h => by cases h) (by kernel_rfl) rfl 3 (fun w => by go_simp) ?_
      (refine lex_one (by kernel_rfl) (by kernel_rfl) (by kernel_rfl) (fun K hK => ?_); go_big_quiet_step (fail); refine wpQuiet_nil (hK _ ?_); clear hK K); (refine lex_one (by kernel_rfl) (by kernel_rfl) (by kernel_rfl) (fun K hK => ?_); go_big_quiet_step (fail); refine wpQuiet_nil (hK _ ?_); clear hK K)
      refine lex_appfull (s := 23) (x := 25) (d := 26) (k := 3) (m := L.length) (olds := [.int .i64 nx, .int .i64 wl, .int .i64 (L.length : Int)]) (news := L.map (Value.int .i64)) rfl rfl rfl Tryz.underlying22 hin hz0 hz1 hz2 rfl rfl rfl rfl h00 rfl (by simp) (ints_cells hc) (by unfold maxLen; omega) (by omega) ?_
      refine lex_callx 26 (r := RowHeld (3 + L.length) ([.int .i64 nx, .int .i64 wl, .int .i64 (L.length : Int)] ++ L.map (Value.int .i64))) (v := .string (bs BD)) (by kernel_rfl) (fun _ _ h => by cases h) rfl (by simp) (by kernel_rfl) (by kernel_rfl) (by kernel_rfl) (by kernel_rfl) (fun x W hW hx => by
        have hi := ints_of_row (L := nx :: wl :: (L.length : Int) :: L) (by rw [show (nx :: wl :: (L.length : Int) :: L).length = 3 + L.length by simp; omega]; exact hx) (by simp; omega) (fun y hy => by
          rcases List.mem_cons.1 hy with rfl | hy
          · omega
          · rcases List.mem_cons.1 hy with rfl | hy
            · omega
            · rcases List.mem_cons.1 hy with rfl | hy
              · omega
              · exact hLb y hy)
        obtain ⟨p, c, rfl, _⟩ := hx
        refine ⟨24, #[.int .i64 g, .slice (some ⟨p, 0, none⟩) (3 + L.length) c], by go_simp, ?_⟩
        rw [HBd.out]
        exact numbers_any g _ _ W hi) (lex_put (type := 0) (pos := "") (fun K hK => ?_)); go_big_quiet_step (fail); refine wpQuiet_nil (hK _ ?_); clear hK K
      (refine lex_one (by kernel_rfl) (by kernel_rfl) (by kernel_rfl) (fun K hK => ?_); go_big_quiet_step (fail); refine wpQuiet_nil (hK _ ?_); clear hK K)
      refine lex_nil (by kernel_rfl) (by kernel_rfl) (by kernel_rfl) ?_
      intro w3 hb3
      simp only [hideAll]
      intro y1 hy1 y2 hy2
      clear hy1 hy2
      simp only [Act.put, List.setIfInBounds_toArray, List.set_cons_succ, List.set_cons_zero]
      have k3 := Blk.below k1 hb3 k1.lt
      have B3 := B1.trans (Below.mono hb3 B1.size)
      obtain ⟨⟨e0, e1, e2, e3⟩, _⟩ := cells4 k3
      clear x0 x1 x2 x3 k1 d0 d1 d2 d3 hb3 hc
      go_wp2_with fail
      refine (qh.out _).mono ?_
      rintro e w4 ⟨rfl, b4⟩
      have B4 := B3.trans (b4.mono B3.size)
      go_wp2_with fail
      refine (qf.out _).mono ?_
      rintro e w5 ⟨rfl, b5⟩
      have B5 := B4.trans (b5.mono B4.size)
      go_wp2_with fail
      go_ret2
      exact ⟨by rw [HY.out]; rfl, B5⟩
    · have f1 : decide (g < 3) = false := by simpa using hg3
      have hg : g = 3 := by omega
      subst hg
      have HBd := Lib.hid (show BD = [nx, nx - wl, (L.length : Int)].flatMap (numB 3) ++ dltB 0 L by rw [HB.out, if_neg hg3])
      clear HB hg3
      have li := ints_lit (w := w1) [nx, nx - wl, (L.length : Int)] (by simp) (fun y hy => by
        simp only [List.mem_cons, List.not_mem_nil, or_false] at hy
        rcases hy with rfl | rfl | rfl <;> omega)
      have qn := Lib.hid (numbers_any 3 _ _ _ li)
      have hpl := flat_len 3 [nx, nx - wl, (L.length : Int)]
      have hsub := wr64_id (nx - wl) (by omega) (by omega)
      generalize [nx, nx - wl, (L.length : Int)].flatMap (numB 3) = PR at *
      have b2 := one_alloc w1 (.cells #[.int .i64 nx, .int .i64 (nx - wl), .int .i64 (L.length : Int)] 3)
      clear li
      go_wp2_with fail
      refine qn.out.mono ?_
      rintro e w3 ⟨rfl, b3⟩
      have b23 : Below w1.heap.size w1 w3 := b2.trans (Below.mono b3 b2.size)
      have k3 := Blk.below k1 b23 k1.lt
      have B3 := B1.trans (b23.mono B1.size)
      have hb4 := hb2.below b23
      obtain ⟨⟨e0, e1, e2, e3⟩, _⟩ := cells4 k3
      obtain ⟨_, _, e4, _, _, _, hc⟩ := hb4
      obtain ⟨rfl, _, rfl⟩ := Value.slice.inj e4
      have HC := Lib.hid hc
      have HLb := Lib.hid (show ∀ x ∈ L, 0 ≤ x ∧ x ≤ 999999 from fun x hx => by have := i6 x (List.mem_cons_of_mem _ hx); omega)
      clear qn b2 b3 b23 k1 d0 d1 d2 d3 hc e4 i6 hLb hb hb2
      go_wp2_with fail
      go_loopw [4, 5, 45] (fun v4 v5 v45 wr => ∃ (i : Nat) (s : List UInt8) (last : Int), i ≤ L.length ∧ v45 = .int .i64 (i : Int) ∧ v4 = .string (bs s) ∧ v5 = .int .i64 last ∧ 0 ≤ last ∧ last ≤ 999999 ∧ s.length ≤ 30 + i * 10 ∧ s ++ dltB last (L.drop i) = PR ++ dltB 0 L ∧ Below w3.heap.size w3 wr) (fun _ _ v45 _ => L.length - (intOf v45).toNat)
      case atStart => exact ⟨0, PR, 0, Nat.zero_le _, rfl, rfl, rfl, by omega, by omega, by simpa using hpl, rfl, Below.refl _ _⟩
      obtain ⟨i, s, last, hi, rfl, rfl, rfl, hl0, hl1, hsl, hinv, hbw⟩ := hrel
      have HI := Lib.hid hinv
      clear hinv
      have k4 := Blk.below k3 hbw k3.lt
      have B4 := B3.trans (hbw.mono B3.size)
      obtain ⟨⟨d0, d1, d2, d3⟩, _⟩ := cells4 k4
      clear e0 e1 e2 e3 k3
      by_cases hil : i < L.length
      · obtain ⟨b, o, rfl, cx⟩ := HC.out i _ (List.getElem?_eq_getElem hil)
        have cx' := (hbw.cell (World.block_lt_of_cell? _ _ cx)).trans cx
        have hxb := HLb.out L[i] (List.getElem_mem hil)
        have HD := Lib.hid (show dltB last (L.drop i) = Num.small (Num.zigI (L[i] - last)).toNat ++ dltB L[i] (L.drop (i + 1)) by rw [List.drop_eq_getElem_cons hil]; rfl)
        generalize L[i] = x at *
        have hz := Num.zig_bd (x - last) (by omega) (by omega)
        have qz := Lib.hid (fun W => num_Zig_any (x - last) W (by omega) (by omega))
        have qs := Lib.hid (fun W => num_Small_any (Num.zigI (x - last)) W hz.1 hz.2)
        have hsm := (Num.small_len (Num.zigI (x - last)).toNat).2
        have hsub2 := wr64_id (x - last) (by omega) (by omega)
        have HN := Lib.hid (show (s ++ Num.small (Num.zigI (x - last)).toNat) ++ dltB x (L.drop (i + 1)) = PR ++ dltB 0 L by rw [List.append_assoc, ← HD.out, HI.out])
        generalize Num.small (Num.zigI (x - last)).toNat = y at *
        generalize Num.zigI (x - last) = z at *
        clear cx HD
        go_wp2_with fail
        refine (qz.out _).mono ?_
        rintro e _ ⟨rfl, rfl⟩
        go_wp2_with fail
        refine (qs.out _).mono ?_
        rintro e wr2 ⟨rfl, hb2⟩
        go_wp2_with fail
        go_roundw
        case rel => exact ⟨i + 1, s ++ y, x, by omega, by go_num, rfl, rfl, hxb.1, hxb.2, by rw [List.length_append]; omega, HN.out, hbw.trans (hb2.mono hbw.size)⟩
        case measure => simp [intOf]; omega
      · obtain rfl : i = L.length := by omega
        have hs : s = BD := by
          have := HI.out
          rw [List.drop_length, show dltB last [] = [] from rfl, List.append_nil, ← HBd.out] at this
          exact this
        subst hs
        go_wp2_with fail
        refine (qh.out _).mono ?_
        rintro e w5 ⟨rfl, b5⟩
        have B5 := B4.trans (b5.mono B4.size)
        go_wp2_with fail
        refine (qf.out _).mono ?_
        rintro e w6 ⟨rfl, b6⟩
        have B6 := B5.trans (b6.mono B5.size)
        go_wp2_with fail
        go_ret2
        exact ⟨by rw [HY.out]; rfl, B6⟩
end Go.Proofs.YtgehgjalkponfaaGreatDoor
