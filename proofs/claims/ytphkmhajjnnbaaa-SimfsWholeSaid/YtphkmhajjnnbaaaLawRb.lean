/- The law SimfsRoom: the walk. -/
import Derived.Test.YtphkmhajjnnbaaaLawR
namespace Go.Proofs.Ytphkmhajjnnbaaa
open Go.RowKit Go.Maps Go.WideMaps Go.ChangeShapes Go.WideShapes
attribute [local go_sem] bs_toList bs_size

theorem size_le {S : FsS} (hok : S.ok) (hs : S.steps ≤ 500000) : S.size ≤ 35184372088832 := by
  have := size_bound hok hs (fun _ => false)
  rwa [sumDone_end _ _ _ (fun _ => rfl)] at this
theorem Mach.size {W w : World} {G : Nat} {S : FsS} {F : Nat → Prop} (m : Mach W w G S F) (hs : S.steps ≤ 500000) :
    Calls Try.prog 18 #[.pointer (some ⟨G, 0, none⟩)] w fun e w' => e = .returned (.int .i64 (S.size : Int)) ∧ Mach W w' G S F ∧ Below w.heap.size w w' := by
  refine (Fs_Size_mem m.mem m.ok hs).mono ?_
  rintro e w' ⟨rfl, hb⟩
  exact ⟨rfl, m.below hb, hb⟩

set_option maxRecDepth 100000 in
set_option maxHeartbeats 8000000 in
theorem SimfsRoom_acts {W : World} {v1 : Value} {l1 : List ActD} (room : Int) (h1 : ActsAt W v1 l1) :
    Calls Try.prog 4 #[.int .i64 room, v1] W fun e w' => e = .returned (.bool true) ∧ Below W.heap.size W w' := by
  have q0 := Lib.hid (works_any W)
  go_enter Try.func4, Try.ntmps4
  go_wp2_with fail
  refine q0.out.mono ?_
  rintro e w0 ⟨rfl, hb0⟩
  have qn := Lib.hid (New_any w0 room)
  go_wp2_with fail
  refine qn.out.mono ?_
  rintro e w1 ⟨G, F1, rfl, hM, hT, hF⟩
  have m1 : Mach W w1 G (FsS.new room) F1 := ⟨hM, hb0.trans (hT.kept.below hb0.size (fun k hk => hk.elim)), fun k hk => Nat.le_trans hb0.size (hF k hk), new_ok room⟩
  have qf1 := Lib.hid (few_any (h1.below m1.bel))
  clear hM hT hF q0 qn hb0
  go_wp2_with fail
  refine qf1.out.mono ?_
  rintro e w2 ⟨b1, rfl, hb1, rfl⟩
  cases b1 with
  | false =>
    clear hb1
    go_wp2
    go_ret
    exact ⟨rfl, m1.bel⟩
  | true =>
    have HB1 := Lib.hid (hb1 (by simp))
    clear hb1 qf1
    obtain ⟨sa1, sc1, rfl, hl1, hx1⟩ := h1
    have hn1 := HB1.out.1
    generalize hN1 : l1.length = n1 at *
    have HN1 := Lib.hid hN1
    have HX1 := Lib.hid hx1
    clear hN1 hx1 hl1
    go_wp2_with fail
    go_loopw [8, 9] (fun t i wr => ∃ (j : Nat) (S : FsS) (F : Nat → Prop), j ≤ n1 ∧ i = .int .i64 (j : Int) ∧ t = .int .i64 S.room ∧ Mach W wr G S F ∧ S.steps ≤ j) (fun _ i _ => n1 - (intOf i).toNat)
    case atStart => exact ⟨0, _, F1, Nat.zero_le _, rfl, rfl, m1, Nat.le_refl _⟩
    case round =>
      clear m1
      obtain ⟨j, S, F, hj, rfl, rfl, m, hst⟩ := hrel
      by_cases hjn : j < n1
      · have hjl : j < l1.length := by rw [HN1.out]; exact hjn
        obtain ⟨b, o, kv, rfl, ha⟩ := HX1.out j l1[j] (List.getElem?_eq_getElem hjl)
        have hsm := HB1.out.2 _ (List.getElem_mem hjl)
        generalize l1[j] = a at *
        clear hjl
        have hz := size_le m.ok (by omega)
        have q := Lib.hid (m.size (by omega))
        go_wp2_with fail
        refine q.out.mono ?_
        rintro e w2 ⟨rfl, m2, _⟩
        clear q m
        have q := Lib.hid (Fs_Steps_mem m2.mem)
        go_wp2_with fail
        refine q.out.mono ?_
        rintro e w3 ⟨rfl, rfl⟩
        clear q
        have q := Lib.hid m2.list
        go_wp2_with fail
        refine q.out.mono ?_
        rintro e w3 ⟨lv, rfl, hsafe, m3, _⟩
        clear q m2
        have hN := m3.ok.names
        obtain ⟨la, lc, rfl⟩ := hsafe.len
        have q := Lib.hid (m3.act (by omega) ha hsm)
        have d0 := (Below.cell m3.bel (World.block_lt_of_cell? _ _ ha.cK)).trans ha.cK
        have d1 := (Below.cell m3.bel (World.block_lt_of_cell? _ _ ha.cA)).trans ha.cA
        have d2 := (Below.cell m3.bel (World.block_lt_of_cell? _ _ ha.cB)).trans ha.cB
        have d3 := (Below.cell m3.bel (World.block_lt_of_cell? _ _ ha.cN)).trans ha.cN
        have d4 := (Below.cell m3.bel (World.block_lt_of_cell? _ _ ha.cP)).trans ha.cP
        go_wp2_with fail
        refine q.out.mono ?_
        rintro e wr ⟨T, r, F', rfl, hact, m', hst', hT'⟩
        have hs' := hsafe.turn hT'
        have e0 : wr.cell? ⟨b, o + j * 5, none⟩ = some (.int .i64 a.K) := (Below.cell m'.bel (World.block_lt_of_cell? _ _ ha.cK)).trans ha.cK
        have e2 : wr.cell? ⟨b, o + j * 5 + 2, none⟩ = some (.string (bs a.B)) := (Below.cell m'.bel (World.block_lt_of_cell? _ _ ha.cB)).trans ha.cB
        have e3 : wr.cell? ⟨b, o + j * 5 + 3, none⟩ = some (.int .i64 a.N) := (Below.cell m'.bel (World.block_lt_of_cell? _ _ ha.cN)).trans ha.cN
        have hroom := hact.room
        simp only at hroom
        have hBl : a.B.length ≤ 300 := hsm.2.1
        have herr : r ≠ 0 → T = S ∨ T = S.die := fun hr => hact.err hr
        have happ : a.K = 1 → r = 0 → T.size = S.size + a.B.length ∧ (T.size : Int) ≤ S.room := fun hk hr => hact.appended m3.ok hk hr
        have h7r : a.K = 7 → r = 0 := fun hk => by
          rcases hact with ⟨h, _⟩ | ⟨h, _⟩ | ⟨h, _⟩ | ⟨h, _⟩ | ⟨h, _⟩ | ⟨h, _⟩ | ⟨h, _⟩ | ⟨h, e⟩ | ⟨h, _⟩ | ⟨h, _⟩ | ⟨h, _⟩ <;> first | exact (Prod.mk.inj e).2 | omega
        clear m3 q d0 d1 d2 d3 d4 ha hsafe hT' hact
        have HM := Lib.hid m'
        have k0 := grow_cell e0
        have k2 := grow_cell e2
        by_cases h7 : a.K = 7
        · obtain rfl := h7r h7
          rw [if_pos h7] at hroom
          rw [h7] at e0 k0
          clear h7r herr happ
          have HR := Lib.hid hroom
          clear hroom
          go_wp2_with fail
          refine wp_region_at (R := GrowR) (by kernel_rfl) (by kernel_rfl) ?_
          (refine lex_one (by kernel_rfl) (by kernel_rfl) (by kernel_rfl) (fun K hK => ?_); go_big_quiet_step (fail); refine wpQuiet_nil (hK _ ?_); clear hK K); (refine lex_one (by kernel_rfl) (by kernel_rfl) (by kernel_rfl) (fun K hK => ?_); go_big_quiet_step (fail); refine wpQuiet_nil (hK _ ?_); clear hK K); (refine lex_one (by kernel_rfl) (by kernel_rfl) (by kernel_rfl) (fun K hK => ?_); go_big_quiet_step (fail); refine wpQuiet_nil (hK _ ?_); clear hK K); (refine lex_one (by kernel_rfl) (by kernel_rfl) (by kernel_rfl) (fun K hK => ?_); go_big_quiet_step (fail); refine wpQuiet_nil (hK _ ?_); clear hK K); (refine lex_one (by kernel_rfl) (by kernel_rfl) (by kernel_rfl) (fun K hK => ?_); go_big_quiet_step (fail); refine wpQuiet_nil (hK _ ?_); clear hK K); (refine lex_one (by kernel_rfl) (by kernel_rfl) (by kernel_rfl) (fun K hK => ?_); go_big_quiet_step (fail); refine wpQuiet_nil (hK _ ?_); clear hK K); (refine lex_one (by kernel_rfl) (by kernel_rfl) (by kernel_rfl) (fun K hK => ?_); go_big_quiet_step (fail); refine wpQuiet_nil (hK _ ?_); clear hK K); (refine lex_one (by kernel_rfl) (by kernel_rfl) (by kernel_rfl) (fun K hK => ?_); go_big_quiet_step (fail); refine wpQuiet_nil (hK _ ?_); clear hK K); (refine lex_one (by kernel_rfl) (by kernel_rfl) (by kernel_rfl) (fun K hK => ?_); go_big_quiet_step (fail); refine wpQuiet_nil (hK _ ?_); clear hK K); (refine lex_one (by kernel_rfl) (by kernel_rfl) (by kernel_rfl) (fun K hK => ?_); go_big_quiet_step (fail); refine wpQuiet_nil (hK _ ?_); clear hK K); (refine lex_one (by kernel_rfl) (by kernel_rfl) (by kernel_rfl) (fun K hK => ?_); go_big_quiet_step (fail); refine wpQuiet_nil (hK _ ?_); clear hK K); (refine lex_one (by kernel_rfl) (by kernel_rfl) (by kernel_rfl) (fun K hK => ?_); go_big_quiet_step (fail); refine wpQuiet_nil (hK _ ?_); clear hK K)
          (refine lex_none (by kernel_rfl) (by kernel_rfl) (by kernel_rfl) (fun K hK => ?_); go_big_quiet_step (fail); refine wpQuiet_nil (hK _ ?_); clear hK K)
          (refine lex_one (by kernel_rfl) (by kernel_rfl) (by kernel_rfl) (fun K hK => ?_); go_big_quiet_step (fail); refine wpQuiet_nil (hK _ ?_); clear hK K); (refine lex_one (by kernel_rfl) (by kernel_rfl) (by kernel_rfl) (fun K hK => ?_); go_big_quiet_step (fail); refine wpQuiet_nil (hK _ ?_); clear hK K); (refine lex_one (by kernel_rfl) (by kernel_rfl) (by kernel_rfl) (fun K hK => ?_); go_big_quiet_step (fail); refine wpQuiet_nil (hK _ ?_); clear hK K); (refine lex_one (by kernel_rfl) (by kernel_rfl) (by kernel_rfl) (fun K hK => ?_); go_big_quiet_step (fail); refine wpQuiet_nil (hK _ ?_); clear hK K)
          (refine lex_none (by kernel_rfl) (by kernel_rfl) (by kernel_rfl) (fun K hK => ?_); go_big_quiet_step (fail); refine wpQuiet_nil (hK _ ?_); clear hK K)
          (refine lex_one (by kernel_rfl) (by kernel_rfl) (by kernel_rfl) (fun K hK => ?_); go_big_quiet_step (fail); refine wpQuiet_nil (hK _ ?_); clear hK K); (refine lex_one (by kernel_rfl) (by kernel_rfl) (by kernel_rfl) (fun K hK => ?_); go_big_quiet_step (fail); refine wpQuiet_nil (hK _ ?_); clear hK K); (refine lex_one (by kernel_rfl) (by kernel_rfl) (by kernel_rfl) (fun K hK => ?_); go_big_quiet_step (fail); refine wpQuiet_nil (hK _ ?_); clear hK K); (refine lex_one (by kernel_rfl) (by kernel_rfl) (by kernel_rfl) (fun K hK => ?_); go_big_quiet_step (fail); refine wpQuiet_nil (hK _ ?_); clear hK K); (refine lex_one (by kernel_rfl) (by kernel_rfl) (by kernel_rfl) (fun K hK => ?_); go_big_quiet_step (fail); refine wpQuiet_nil (hK _ ?_); clear hK K); (refine lex_one (by kernel_rfl) (by kernel_rfl) (by kernel_rfl) (fun K hK => ?_); go_big_quiet_step (fail); refine wpQuiet_nil (hK _ ?_); clear hK K)
          (refine lex_none (by kernel_rfl) (by kernel_rfl) (by kernel_rfl) (fun K hK => ?_); go_big_quiet_step (fail); refine wpQuiet_nil (hK _ ?_); clear hK K)
          (refine lex_one (by kernel_rfl) (by kernel_rfl) (by kernel_rfl) (fun K hK => ?_); go_big_quiet_step (fail); refine wpQuiet_nil (hK _ ?_); clear hK K); (refine lex_one (by kernel_rfl) (by kernel_rfl) (by kernel_rfl) (fun K hK => ?_); go_big_quiet_step (fail); refine wpQuiet_nil (hK _ ?_); clear hK K); (refine lex_one (by kernel_rfl) (by kernel_rfl) (by kernel_rfl) (fun K hK => ?_); go_big_quiet_step (fail); refine wpQuiet_nil (hK _ ?_); clear hK K); (refine lex_one (by kernel_rfl) (by kernel_rfl) (by kernel_rfl) (fun K hK => ?_); go_big_quiet_step (fail); refine wpQuiet_nil (hK _ ?_); clear hK K)
          refine lex_nil (by kernel_rfl) (by kernel_rfl) (by kernel_rfl) ?_
          intro w5 hw5
          simp only [hideAll]
          go_wp2
          go_roundw
          case rel => exact ⟨j + 1, T, F', by omega, by go_num, by rw [HR.out], m'.below hw5, by omega⟩
          case measure => simp [intOf]; omega
        · have e7 : (a.K == 7) = false := by simpa using h7
          rw [if_neg h7] at hroom
          clear h7r
          have HR := Lib.hid hroom
          clear hroom
          by_cases hr : r = 0
          · subst hr
            clear herr
            by_cases h1 : a.K = 1
            · obtain ⟨hz1, hz2⟩ := happ h1 rfl
              have hq := m'.size (by omega)
              rw [show (T.size : Int) = (S.size : Int) + a.B.length by omega] at hq
              have hsz : ∀ W3, GrowR wr W3 → Calls Try.prog 18 #[.pointer (some ⟨G, 0, none⟩)] W3 fun e w' => e = .returned (.int .i64 ((S.size : Int) + a.B.length)) ∧ GrowR W3 w' := fun W3 hW3 => by
                have hq := (m'.below hW3).size (by omega)
                rw [show (T.size : Int) = (S.size : Int) + a.B.length by omega] at hq
                exact hq.mono fun e w' ⟨e1, _, e2⟩ => ⟨e1, e2⟩
              have HSZ := Lib.hid hsz
              have hle : (S.size : Int) + a.B.length ≤ S.room := by omega
              rw [h1] at e0 k0
              clear happ hq hsz hz1 hz2
              generalize S.size = z at *
              generalize hlb : a.B.length = lb at *
              have hdd : decide (S.room < (z : Int) + lb) = false := by simp; omega
              go_wp2_with fail
              refine wp_region_at (R := GrowR) (by kernel_rfl) (by kernel_rfl) ?_
              (refine lex_one (by kernel_rfl) (by kernel_rfl) (by kernel_rfl) (fun K hK => ?_); go_big_quiet_step (fail); refine wpQuiet_nil (hK _ ?_); clear hK K); (refine lex_one (by kernel_rfl) (by kernel_rfl) (by kernel_rfl) (fun K hK => ?_); go_big_quiet_step (fail); refine wpQuiet_nil (hK _ ?_); clear hK K); (refine lex_one (by kernel_rfl) (by kernel_rfl) (by kernel_rfl) (fun K hK => ?_); go_big_quiet_step (fail); refine wpQuiet_nil (hK _ ?_); clear hK K); (refine lex_one (by kernel_rfl) (by kernel_rfl) (by kernel_rfl) (fun K hK => ?_); go_big_quiet_step (fail); refine wpQuiet_nil (hK _ ?_); clear hK K); (refine lex_one (by kernel_rfl) (by kernel_rfl) (by kernel_rfl) (fun K hK => ?_); go_big_quiet_step (fail); refine wpQuiet_nil (hK _ ?_); clear hK K); (refine lex_one (by kernel_rfl) (by kernel_rfl) (by kernel_rfl) (fun K hK => ?_); go_big_quiet_step (fail); refine wpQuiet_nil (hK _ ?_); clear hK K); (refine lex_one (by kernel_rfl) (by kernel_rfl) (by kernel_rfl) (fun K hK => ?_); go_big_quiet_step (fail); refine wpQuiet_nil (hK _ ?_); clear hK K); (refine lex_one (by kernel_rfl) (by kernel_rfl) (by kernel_rfl) (fun K hK => ?_); go_big_quiet_step (fail); refine wpQuiet_nil (hK _ ?_); clear hK K); (refine lex_one (by kernel_rfl) (by kernel_rfl) (by kernel_rfl) (fun K hK => ?_); go_big_quiet_step (fail); refine wpQuiet_nil (hK _ ?_); clear hK K); (refine lex_one (by kernel_rfl) (by kernel_rfl) (by kernel_rfl) (fun K hK => ?_); go_big_quiet_step (fail); refine wpQuiet_nil (hK _ ?_); clear hK K); (refine lex_one (by kernel_rfl) (by kernel_rfl) (by kernel_rfl) (fun K hK => ?_); go_big_quiet_step (fail); refine wpQuiet_nil (hK _ ?_); clear hK K); (refine lex_one (by kernel_rfl) (by kernel_rfl) (by kernel_rfl) (fun K hK => ?_); go_big_quiet_step (fail); refine wpQuiet_nil (hK _ ?_); clear hK K)
              refine lex_call (f := 18) (args := #[.pointer (some ⟨G, 0, none⟩)]) (v := .int .i64 ((z : Int) + lb)) (by kernel_rfl) (fun _ _ h => by cases h) (by kernel_rfl) (by kernel_rfl) (fun _ => by go_simp) (fun W hW => HSZ.out W hW) (lex_put (type := 0) (pos := "") (fun K hK => ?_)); go_big_quiet_step (fail); refine wpQuiet_nil (hK _ ?_); clear hK K
              (refine lex_one (by kernel_rfl) (by kernel_rfl) (by kernel_rfl) (fun K hK => ?_); go_big_quiet_step (fail); refine wpQuiet_nil (hK _ ?_); clear hK K); (refine lex_one (by kernel_rfl) (by kernel_rfl) (by kernel_rfl) (fun K hK => ?_); go_big_quiet_step (fail); refine wpQuiet_nil (hK _ ?_); clear hK K); (refine lex_one (by kernel_rfl) (by kernel_rfl) (by kernel_rfl) (fun K hK => ?_); go_big_quiet_step (fail); refine wpQuiet_nil (hK _ ?_); clear hK K); (refine lex_one (by kernel_rfl) (by kernel_rfl) (by kernel_rfl) (fun K hK => ?_); go_big_quiet_step (fail); refine wpQuiet_nil (hK _ ?_); clear hK K)
              refine lex_call (f := 18) (args := #[.pointer (some ⟨G, 0, none⟩)]) (v := .int .i64 ((z : Int) + lb)) (by kernel_rfl) (fun _ _ h => by cases h) (by kernel_rfl) (by kernel_rfl) (fun _ => by go_simp) (fun W hW => HSZ.out W hW) (lex_put (type := 0) (pos := "") (fun K hK => ?_)); go_big_quiet_step (fail); refine wpQuiet_nil (hK _ ?_); clear hK K
              (refine lex_one (by kernel_rfl) (by kernel_rfl) (by kernel_rfl) (fun K hK => ?_); go_big_quiet_step (fail); refine wpQuiet_nil (hK _ ?_); clear hK K); (refine lex_one (by kernel_rfl) (by kernel_rfl) (by kernel_rfl) (fun K hK => ?_); go_big_quiet_step (fail); refine wpQuiet_nil (hK _ ?_); clear hK K); (refine lex_one (by kernel_rfl) (by kernel_rfl) (by kernel_rfl) (fun K hK => ?_); go_big_quiet_step (fail); refine wpQuiet_nil (hK _ ?_); clear hK K); (refine lex_one (by kernel_rfl) (by kernel_rfl) (by kernel_rfl) (fun K hK => ?_); go_big_quiet_step (fail); refine wpQuiet_nil (hK _ ?_); clear hK K); (refine lex_one (by kernel_rfl) (by kernel_rfl) (by kernel_rfl) (fun K hK => ?_); go_big_quiet_step (fail); refine wpQuiet_nil (hK _ ?_); clear hK K); (refine lex_one (by kernel_rfl) (by kernel_rfl) (by kernel_rfl) (fun K hK => ?_); go_big_quiet_step (fail); refine wpQuiet_nil (hK _ ?_); clear hK K)
              refine lex_val (v := .int .i64 (lb : Int)) (by kernel_rfl) (fun _ _ h => by cases h) (by kernel_rfl) (by kernel_rfl) (fun _ _ => by go_simp) (lex_put (type := 0) (pos := "") (fun K hK => ?_)); go_big_quiet_step (fail); refine wpQuiet_nil (hK _ ?_); clear hK K
              (refine lex_one (by kernel_rfl) (by kernel_rfl) (by kernel_rfl) (fun K hK => ?_); go_big_quiet_step (fail); refine wpQuiet_nil (hK _ ?_); clear hK K); (refine lex_one (by kernel_rfl) (by kernel_rfl) (by kernel_rfl) (fun K hK => ?_); go_big_quiet_step (fail); refine wpQuiet_nil (hK _ ?_); clear hK K); (refine lex_one (by kernel_rfl) (by kernel_rfl) (by kernel_rfl) (fun K hK => ?_); go_big_quiet_step (fail); refine wpQuiet_nil (hK _ ?_); clear hK K); (refine lex_one (by kernel_rfl) (by kernel_rfl) (by kernel_rfl) (fun K hK => ?_); go_big_quiet_step (fail); refine wpQuiet_nil (hK _ ?_); clear hK K)
              refine lex_nil (by kernel_rfl) (by kernel_rfl) (by kernel_rfl) ?_
              intro w5 hw5
              simp only [hideAll]
              go_wp2
              go_roundw
              case rel => exact ⟨j + 1, T, F', by omega, by go_num, by rw [HR.out], HM.out.below hw5, by omega⟩
              case measure => simp [intOf]; omega
            · have e1 : (a.K == 1) = false := by simpa using h1
              clear happ
              go_wp2_with fail
              refine wp_region_at (R := GrowR) (by kernel_rfl) (by kernel_rfl) ?_
              (refine lex_one (by kernel_rfl) (by kernel_rfl) (by kernel_rfl) (fun K hK => ?_); go_big_quiet_step (fail); refine wpQuiet_nil (hK _ ?_); clear hK K); (refine lex_one (by kernel_rfl) (by kernel_rfl) (by kernel_rfl) (fun K hK => ?_); go_big_quiet_step (fail); refine wpQuiet_nil (hK _ ?_); clear hK K); (refine lex_one (by kernel_rfl) (by kernel_rfl) (by kernel_rfl) (fun K hK => ?_); go_big_quiet_step (fail); refine wpQuiet_nil (hK _ ?_); clear hK K); (refine lex_one (by kernel_rfl) (by kernel_rfl) (by kernel_rfl) (fun K hK => ?_); go_big_quiet_step (fail); refine wpQuiet_nil (hK _ ?_); clear hK K); (refine lex_one (by kernel_rfl) (by kernel_rfl) (by kernel_rfl) (fun K hK => ?_); go_big_quiet_step (fail); refine wpQuiet_nil (hK _ ?_); clear hK K); (refine lex_one (by kernel_rfl) (by kernel_rfl) (by kernel_rfl) (fun K hK => ?_); go_big_quiet_step (fail); refine wpQuiet_nil (hK _ ?_); clear hK K); (refine lex_one (by kernel_rfl) (by kernel_rfl) (by kernel_rfl) (fun K hK => ?_); go_big_quiet_step (fail); refine wpQuiet_nil (hK _ ?_); clear hK K); (refine lex_one (by kernel_rfl) (by kernel_rfl) (by kernel_rfl) (fun K hK => ?_); go_big_quiet_step (fail); refine wpQuiet_nil (hK _ ?_); clear hK K); (refine lex_one (by kernel_rfl) (by kernel_rfl) (by kernel_rfl) (fun K hK => ?_); go_big_quiet_step (fail); refine wpQuiet_nil (hK _ ?_); clear hK K); (refine lex_one (by kernel_rfl) (by kernel_rfl) (by kernel_rfl) (fun K hK => ?_); go_big_quiet_step (fail); refine wpQuiet_nil (hK _ ?_); clear hK K); (refine lex_one (by kernel_rfl) (by kernel_rfl) (by kernel_rfl) (fun K hK => ?_); go_big_quiet_step (fail); refine wpQuiet_nil (hK _ ?_); clear hK K); (refine lex_one (by kernel_rfl) (by kernel_rfl) (by kernel_rfl) (fun K hK => ?_); go_big_quiet_step (fail); refine wpQuiet_nil (hK _ ?_); clear hK K)
              (refine lex_none (by kernel_rfl) (by kernel_rfl) (by kernel_rfl) (fun K hK => ?_); go_big_quiet_step (fail); refine wpQuiet_nil (hK _ ?_); clear hK K)
              (refine lex_one (by kernel_rfl) (by kernel_rfl) (by kernel_rfl) (fun K hK => ?_); go_big_quiet_step (fail); refine wpQuiet_nil (hK _ ?_); clear hK K); (refine lex_one (by kernel_rfl) (by kernel_rfl) (by kernel_rfl) (fun K hK => ?_); go_big_quiet_step (fail); refine wpQuiet_nil (hK _ ?_); clear hK K); (refine lex_one (by kernel_rfl) (by kernel_rfl) (by kernel_rfl) (fun K hK => ?_); go_big_quiet_step (fail); refine wpQuiet_nil (hK _ ?_); clear hK K); (refine lex_one (by kernel_rfl) (by kernel_rfl) (by kernel_rfl) (fun K hK => ?_); go_big_quiet_step (fail); refine wpQuiet_nil (hK _ ?_); clear hK K)
              (refine lex_none (by kernel_rfl) (by kernel_rfl) (by kernel_rfl) (fun K hK => ?_); go_big_quiet_step (fail); refine wpQuiet_nil (hK _ ?_); clear hK K)
              (refine lex_one (by kernel_rfl) (by kernel_rfl) (by kernel_rfl) (fun K hK => ?_); go_big_quiet_step (fail); refine wpQuiet_nil (hK _ ?_); clear hK K); (refine lex_one (by kernel_rfl) (by kernel_rfl) (by kernel_rfl) (fun K hK => ?_); go_big_quiet_step (fail); refine wpQuiet_nil (hK _ ?_); clear hK K); (refine lex_one (by kernel_rfl) (by kernel_rfl) (by kernel_rfl) (fun K hK => ?_); go_big_quiet_step (fail); refine wpQuiet_nil (hK _ ?_); clear hK K); (refine lex_one (by kernel_rfl) (by kernel_rfl) (by kernel_rfl) (fun K hK => ?_); go_big_quiet_step (fail); refine wpQuiet_nil (hK _ ?_); clear hK K); (refine lex_one (by kernel_rfl) (by kernel_rfl) (by kernel_rfl) (fun K hK => ?_); go_big_quiet_step (fail); refine wpQuiet_nil (hK _ ?_); clear hK K); (refine lex_one (by kernel_rfl) (by kernel_rfl) (by kernel_rfl) (fun K hK => ?_); go_big_quiet_step (fail); refine wpQuiet_nil (hK _ ?_); clear hK K)
              (refine lex_none (by kernel_rfl) (by kernel_rfl) (by kernel_rfl) (fun K hK => ?_); go_big_quiet_step (fail); refine wpQuiet_nil (hK _ ?_); clear hK K)
              (refine lex_one (by kernel_rfl) (by kernel_rfl) (by kernel_rfl) (fun K hK => ?_); go_big_quiet_step (fail); refine wpQuiet_nil (hK _ ?_); clear hK K); (refine lex_one (by kernel_rfl) (by kernel_rfl) (by kernel_rfl) (fun K hK => ?_); go_big_quiet_step (fail); refine wpQuiet_nil (hK _ ?_); clear hK K); (refine lex_one (by kernel_rfl) (by kernel_rfl) (by kernel_rfl) (fun K hK => ?_); go_big_quiet_step (fail); refine wpQuiet_nil (hK _ ?_); clear hK K); (refine lex_one (by kernel_rfl) (by kernel_rfl) (by kernel_rfl) (fun K hK => ?_); go_big_quiet_step (fail); refine wpQuiet_nil (hK _ ?_); clear hK K)
              refine lex_nil (by kernel_rfl) (by kernel_rfl) (by kernel_rfl) ?_
              intro w5 hw5
              simp only [hideAll]
              go_wp2
              go_roundw
              case rel => exact ⟨j + 1, T, F', by omega, by go_num, by rw [HR.out], m'.below hw5, by omega⟩
              case measure => simp [intOf]; omega
          · have hsame : T.size = S.size ∧ T.steps = S.steps ∧ T.names = S.names := by rcases herr hr with rfl | rfl <;> exact ⟨rfl, rfl, rfl⟩
            have er : (r == 0) = false := by simpa using hr
            clear herr happ
            obtain ⟨s1, s2, s3⟩ := hsame
            have q := m'.size (by omega)
            rw [s1] at q
            have Q := Lib.hid q
            clear q
            rcases (show a.K = 1 ∨ a.K ≠ 1 by omega) with h1 | h1
            case' inl => rw [h1] at e0 k0
            case' inr => have e1 : (a.K == 1) = false := by simpa using h1
            all_goals
              go_wp2_with fail
              refine Q.out.mono ?_
              rintro e w2 ⟨rfl, m2, hbb2⟩
              have q := Fs_Steps_mem m2.mem
              rw [s2] at q
              have Q2 := Lib.hid q
              clear q
              go_wp2_with fail
              refine Q2.out.mono ?_
              rintro e w3 ⟨rfl, rfl⟩
              have q := m2.list
              rw [s3] at q
              have Q3 := Lib.hid q
              clear q
              go_wp2_with fail
              refine Q3.out.mono ?_
              rintro e w3 ⟨lv, rfl, hsf, m3, hbb3⟩
              have qt := Lib.hid (Texts_any ((hs'.below (hbb2.trans (hbb3.mono hbb2.size))).strs hN) (hsf.strs hN))
              clear m2 Q Q2 Q3 hsf
              go_wp2_with fail
              refine qt.out.mono ?_
              rintro e w4 ⟨rfl, hb4⟩
              have m4 := m3.below hb4
              have hbb : Below wr.heap.size wr w4 := hbb2.trans ((hbb3.trans (hb4.mono hbb3.size)).mono hbb2.size)
              clear m3 hb4 qt hbb2 hbb3
              have e0' := (Below.cell hbb (World.block_lt_of_cell? _ _ e0)).trans e0
              have k0' := grow_cell e0'
              clear k0 k2
              go_wp2_with fail
              refine wp_region_at (R := GrowR) (by kernel_rfl) (by kernel_rfl) ?_
              (refine lex_one (by kernel_rfl) (by kernel_rfl) (by kernel_rfl) (fun K hK => ?_); go_big_quiet_step (fail); refine wpQuiet_nil (hK _ ?_); clear hK K); (refine lex_one (by kernel_rfl) (by kernel_rfl) (by kernel_rfl) (fun K hK => ?_); go_big_quiet_step (fail); refine wpQuiet_nil (hK _ ?_); clear hK K); (refine lex_one (by kernel_rfl) (by kernel_rfl) (by kernel_rfl) (fun K hK => ?_); go_big_quiet_step (fail); refine wpQuiet_nil (hK _ ?_); clear hK K); (refine lex_one (by kernel_rfl) (by kernel_rfl) (by kernel_rfl) (fun K hK => ?_); go_big_quiet_step (fail); refine wpQuiet_nil (hK _ ?_); clear hK K); (refine lex_one (by kernel_rfl) (by kernel_rfl) (by kernel_rfl) (fun K hK => ?_); go_big_quiet_step (fail); refine wpQuiet_nil (hK _ ?_); clear hK K); (refine lex_one (by kernel_rfl) (by kernel_rfl) (by kernel_rfl) (fun K hK => ?_); go_big_quiet_step (fail); refine wpQuiet_nil (hK _ ?_); clear hK K); (refine lex_one (by kernel_rfl) (by kernel_rfl) (by kernel_rfl) (fun K hK => ?_); go_big_quiet_step (fail); refine wpQuiet_nil (hK _ ?_); clear hK K); (refine lex_one (by kernel_rfl) (by kernel_rfl) (by kernel_rfl) (fun K hK => ?_); go_big_quiet_step (fail); refine wpQuiet_nil (hK _ ?_); clear hK K); (refine lex_one (by kernel_rfl) (by kernel_rfl) (by kernel_rfl) (fun K hK => ?_); go_big_quiet_step (fail); refine wpQuiet_nil (hK _ ?_); clear hK K); (refine lex_one (by kernel_rfl) (by kernel_rfl) (by kernel_rfl) (fun K hK => ?_); go_big_quiet_step (fail); refine wpQuiet_nil (hK _ ?_); clear hK K); (refine lex_one (by kernel_rfl) (by kernel_rfl) (by kernel_rfl) (fun K hK => ?_); go_big_quiet_step (fail); refine wpQuiet_nil (hK _ ?_); clear hK K); (refine lex_one (by kernel_rfl) (by kernel_rfl) (by kernel_rfl) (fun K hK => ?_); go_big_quiet_step (fail); refine wpQuiet_nil (hK _ ?_); clear hK K)
              (refine lex_none (by kernel_rfl) (by kernel_rfl) (by kernel_rfl) (fun K hK => ?_); go_big_quiet_step (fail); refine wpQuiet_nil (hK _ ?_); clear hK K)
              (refine lex_one (by kernel_rfl) (by kernel_rfl) (by kernel_rfl) (fun K hK => ?_); go_big_quiet_step (fail); refine wpQuiet_nil (hK _ ?_); clear hK K); (refine lex_one (by kernel_rfl) (by kernel_rfl) (by kernel_rfl) (fun K hK => ?_); go_big_quiet_step (fail); refine wpQuiet_nil (hK _ ?_); clear hK K); (refine lex_one (by kernel_rfl) (by kernel_rfl) (by kernel_rfl) (fun K hK => ?_); go_big_quiet_step (fail); refine wpQuiet_nil (hK _ ?_); clear hK K); (refine lex_one (by kernel_rfl) (by kernel_rfl) (by kernel_rfl) (fun K hK => ?_); go_big_quiet_step (fail); refine wpQuiet_nil (hK _ ?_); clear hK K)
              (refine lex_none (by kernel_rfl) (by kernel_rfl) (by kernel_rfl) (fun K hK => ?_); go_big_quiet_step (fail); refine wpQuiet_nil (hK _ ?_); clear hK K)
              (refine lex_one (by kernel_rfl) (by kernel_rfl) (by kernel_rfl) (fun K hK => ?_); go_big_quiet_step (fail); refine wpQuiet_nil (hK _ ?_); clear hK K); (refine lex_one (by kernel_rfl) (by kernel_rfl) (by kernel_rfl) (fun K hK => ?_); go_big_quiet_step (fail); refine wpQuiet_nil (hK _ ?_); clear hK K); (refine lex_one (by kernel_rfl) (by kernel_rfl) (by kernel_rfl) (fun K hK => ?_); go_big_quiet_step (fail); refine wpQuiet_nil (hK _ ?_); clear hK K); (refine lex_one (by kernel_rfl) (by kernel_rfl) (by kernel_rfl) (fun K hK => ?_); go_big_quiet_step (fail); refine wpQuiet_nil (hK _ ?_); clear hK K); (refine lex_one (by kernel_rfl) (by kernel_rfl) (by kernel_rfl) (fun K hK => ?_); go_big_quiet_step (fail); refine wpQuiet_nil (hK _ ?_); clear hK K); (refine lex_one (by kernel_rfl) (by kernel_rfl) (by kernel_rfl) (fun K hK => ?_); go_big_quiet_step (fail); refine wpQuiet_nil (hK _ ?_); clear hK K)
              (refine lex_none (by kernel_rfl) (by kernel_rfl) (by kernel_rfl) (fun K hK => ?_); go_big_quiet_step (fail); refine wpQuiet_nil (hK _ ?_); clear hK K)
              (refine lex_one (by kernel_rfl) (by kernel_rfl) (by kernel_rfl) (fun K hK => ?_); go_big_quiet_step (fail); refine wpQuiet_nil (hK _ ?_); clear hK K); (refine lex_one (by kernel_rfl) (by kernel_rfl) (by kernel_rfl) (fun K hK => ?_); go_big_quiet_step (fail); refine wpQuiet_nil (hK _ ?_); clear hK K); (refine lex_one (by kernel_rfl) (by kernel_rfl) (by kernel_rfl) (fun K hK => ?_); go_big_quiet_step (fail); refine wpQuiet_nil (hK _ ?_); clear hK K); (refine lex_one (by kernel_rfl) (by kernel_rfl) (by kernel_rfl) (fun K hK => ?_); go_big_quiet_step (fail); refine wpQuiet_nil (hK _ ?_); clear hK K)
              refine lex_nil (by kernel_rfl) (by kernel_rfl) (by kernel_rfl) ?_
              intro w5 hw5
              simp only [hideAll]
              go_wp2
              go_roundw
              case rel => exact ⟨j + 1, T, F', by omega, by go_num, by rw [HR.out], m4.below hw5, by omega⟩
              case measure => simp [intOf]; omega
      · obtain rfl : j = n1 := by omega
        go_wp2
        go_ret
        exact ⟨rfl, m.bel⟩

theorem SimfsRoom_walk {H : Type} {enc : TypeId × Value → H} {d1 : DataW H} {p1 : List MemPlace} (room : Int) (sa1 : Option Addr) (sl1 sc1 : Nat) (W : World) (_hr1 : -9223372036854775808 ≤ room) (_hr2 : room ≤ 9223372036854775807)
    (k1 : DataW.Trod enc Try.prog W 0 (fun _ => true) true 22 (.slice sa1 sl1 sc1) d1 p1) :
    Calls Try.prog 4 #[.int .i64 room, .slice sa1 sl1 sc1] W fun e w' => e = .returned (.bool true) ∧ Below W.heap.size W w' := by
  obtain ⟨_, k1⟩ := k1
  obtain ⟨l1, h1⟩ := acts_of_trod k1
  exact SimfsRoom_acts room h1
end Go.Proofs.Ytphkmhajjnnbaaa
