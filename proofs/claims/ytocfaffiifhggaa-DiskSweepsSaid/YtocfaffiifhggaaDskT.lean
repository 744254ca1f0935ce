/- The law DiskSweeps: the walk. -/
import Derived.Test.YtocfaffiifhggaaDskS
import Derived.Test.YtocfaffiifhggaaLexn
import Derived.Test.YtocfaffiifhggaaLexh
namespace Go.Proofs.Ytocfaffiifhggaa
open Go.RowKit Go.Maps Go.WideMaps Go.WideShapes Go.Deep
attribute [local go_sem] bs_toList bs_size

set_option maxRecDepth 100000 in
set_option maxHeartbeats 8000000 in
theorem DiskSweeps_lists {W : World} {lv kv : Value} {l keep : List (List UInt8)} (hl : StrsAt W lv l) (h : StrsAt W kv keep) :
    Calls Try.prog 3 #[lv, kv] W fun e w' => e = .returned (.bool true) ∧ Below W.heap.size W w' := by
  obtain ⟨sal, scl, rfl, hll, hlx⟩ := hl
  obtain ⟨sak, sck, rfl, hkl, hkx⟩ := id h
  unfold maxLen at hll hkl
  have q0 := Lib.hid (works_any W)
  go_enter Try.func3, Try.ntmps3
  go_wp2_with fail
  refine q0.out.mono ?_
  rintro e w0 ⟨rfl, hbw⟩
  have qn := Lib.hid (New_any w0 1000)
  go_wp2_with fail
  refine qn.out.mono ?_
  rintro e w1 ⟨G, F1, rfl, hM, hT, hF⟩
  have m1 : Mach W w1 G ⟨[], [], [], fun _ => Fl.new, 1000, 0, -1, false⟩ F1 := ⟨hM, hbw.trans (hT.kept.below hbw.size (fun k hk => hk.elim)), fun k hk => Nat.le_trans hbw.size (hF k hk), new_ok 1000⟩
  clear hM hT hF q0 qn hbw
  by_cases h1 : 10 < l.length
  · go_wp2
    go_ret
    exact ⟨rfl, m1.bel⟩
  by_cases h2 : 10 < keep.length
  · go_wp2
    go_ret
    exact ⟨rfl, m1.bel⟩
  generalize hn : l.length = n at *
  have HL := Lib.hid hlx
  have HKX := Lib.hid hkx
  have HN := Lib.hid hn
  have HK := Lib.hid h
  clear hlx hkx hn h
  generalize hnk : keep.length = nk at *
  have HNK := Lib.hid hnk
  clear hnk
  go_wp2_with fail
  go_loopw [7] (fun i wr => ∃ (j : Nat) (N sy : Nm) (mv : List Nm) (fl : Nat → Fl) (st : Nat) (F : Nat → Prop), j ≤ n ∧ i = .int .i64 (j : Int) ∧ Mach W wr G ⟨N, sy, mv, fl, 1000, st, -1, false⟩ F ∧ N.length ≤ j ∧ st ≤ 2 * j ∧ ∀ k ∈ N.ids, (fl k).nw = someB) (fun i _ => n - (intOf i).toNat)
  case atStart => exact ⟨0, [], [], [], _, 0, F1, Nat.zero_le _, rfl, m1, Nat.le_refl _, Nat.le_refl _, fun k hk => by simp [Nm.ids] at hk⟩
  clear m1
  obtain ⟨j, N, sy, mv, fl, st, F, hj, rfl, m, hlen, hst, hall⟩ := hrel
  rcases (show j < n ∨ j = n by omega) with hjn | rfl
  · obtain ⟨b1, o1, rfl, d1, e1⟩ := HL.out j (l.getD j []) (by rw [List.getD_eq_getElem?_getD, List.getElem?_eq_getElem (by rw [HN.out]; exact hjn)]; rfl)
    generalize l.getD j [] = x at *
    have HALL := Lib.hid hall
    clear hall
    have g1 := (Below.cell m.bel (World.block_lt_of_cell? _ _ d1)).trans d1
    have q := Lib.hid (m.create x e1 (by omega) (by omega))
    unfold maxLen at e1
    have hNo := m.ok.names
    go_wp2_with fail
    refine q.out.mono ?_
    rintro e w2 (⟨r, F', hr, rfl, m2⟩ | ⟨g, F', hxl, ha, hg, rfl, m2⟩)
    · have er : (r == 0) = false := by simpa using hr
      clear q m
      go_wp2_with fail
      go_roundw
      case rel => exact ⟨j + 1, N, sy, mv, fl, st, F', by omega, by go_num, m2, by omega, by omega, HALL.out⟩
      case measure => simp [intOf]; omega
    · clear q m g1
      have g1 := (Below.cell m2.bel (World.block_lt_of_cell? _ _ d1)).trans d1
      have q := Lib.hid (show Calls Try.prog 11 #[.pointer (some ⟨G, 0, none⟩), .string (bs x), .string ⟨#[115, 111, 109, 101]⟩] w2 _ from m2.appendSome hNo hxl ha (by omega) (by omega) HALL.out hg)
      go_wp2_with fail
      refine q.out.mono ?_
      rintro e w3 ⟨F3, rfl, m3⟩
      have hl2 := Nm.length_put_le N x g
      have ha2 := Lib.hid (all_some (l := x) (N := N) HALL.out hg)
      clear q m2
      go_wp2
      go_roundw
      case rel => exact ⟨j + 1, _, _, _, _, _, F3, by omega, by go_num, m3, by omega, by omega, ha2.out⟩
      case measure => simp [intOf]; omega
  · have hN := m.ok.names
    have q := Lib.hid m.list
    go_wp2_with fail
    refine q.out.mono ?_
    rintro e w2 ⟨lv, rfl, hsafe, m2, _⟩
    have hsafe : Safe w2 F lv N.keys := hsafe
    obtain ⟨la, lc, rfl⟩ := hsafe.len
    clear q m
    obtain ⟨sy2, mv2, st2, es, hst2⟩ := sweep_plain (sy := sy) (mv := mv) (fl := fl) (room := 1000) (st := st) (keep := keep) hN
    have q := m2.sweep (keep := keep) (by show st + 100 ≤ 500000; omega) fun w' F' ht => HK.out.below (m2.reach ht)
    rw [es] at q
    have Q := Lib.hid q
    clear q es
    go_wp2_with fail
    refine Q.out.mono ?_
    rintro e w3 ⟨F3, rfl, m3, hT3⟩
    have hs3 := hsafe.turn hT3
    clear Q m2 hT3 hsafe
    have m3 : Mach W w3 G ⟨keptOf keep N, sy2, mv2, fl, 1000, st2, -1, false⟩ F3 := m3
    obtain ⟨sy4, mv4, st4, es, hst4⟩ := sweep_plain (sy := sy2) (mv := mv2) (fl := fl) (room := 1000) (st := st2) (keep := keep) (keptOf_ok (keep := keep) hN)
    rw [keptOf_twice, gone_kept] at es
    have hkl2 : (keptOf keep N).length ≤ N.length := List.length_filter_le _ _
    have q := m3.sweep (keep := keep) (by show st2 + 100 ≤ 500000; omega) fun w' F' ht => HK.out.below (m3.reach ht)
    rw [es] at q
    have Q := Lib.hid q
    clear q es
    go_wp2_with fail
    refine Q.out.mono ?_
    rintro e w4 ⟨F4, rfl, m4, hT4⟩
    have hs4 := hs3.turn hT4
    clear Q m3 hT4 hs3
    have m4 : Mach W w4 G ⟨keptOf keep N, sy4, mv4, fl, 1000, st4, -1, false⟩ F4 := m4
    have q := Lib.hid m4.list
    go_wp2_with fail
    refine q.out.mono ?_
    rintro e w5 ⟨lv, rfl, hsafe, m5, hb5⟩
    have hsafe : Safe w5 F4 lv (keptOf keep N).keys := hsafe
    obtain ⟨lb, ld, rfl⟩ := hsafe.len
    have hs5 := hs4.below hb5
    clear q m4 hb5 hs4
    have hA := hs5.strs hN
    have hB := hsafe.strs (keptOf_ok (keep := keep) hN)
    have hadd : gone keep N + (keptOf keep N).keys.length = N.keys.length := by
      rw [keptOf_keys]
      exact gone_add N.keys
    have hrd : ∀ x, x ∈ N.keys → x ∈ keep → FsS.read ⟨keptOf keep N, sy4, mv4, fl, 1000, st4, -1, false⟩ x = (someB, 0) ∧ x.length ≤ 40 := fun x hx hk => by
      obtain ⟨p, hp, rfl⟩ := List.mem_map.1 hx
      have hpm : p ∈ keptOf keep N := List.mem_filter.2 ⟨hp, by simpa using hk⟩
      have ha := Nm.at_of_mem (keptOf_ok (keep := keep) hN) (l := p.1) (g := p.2) hpm
      exact ⟨by rw [ew_read ha rfl, hall _ (List.mem_map.2 ⟨p, hp, rfl⟩)], hN.3 p hp⟩
    have HRD := Lib.hid hrd
    have hAl : N.keys.length ≤ 10 := by
      unfold Nm.keys
      rw [List.length_map]
      omega
    have hBe := keptOf_keys (keep := keep) (N := N)
    clear hsafe hs5 hrd hN hall
    generalize (⟨keptOf keep N, sy4, mv4, fl, 1000, st4, -1, false⟩ : FsS) = T at *
    generalize (keptOf keep N).keys = B at *
    generalize gone keep N = gn at *
    generalize N.keys = A at *
    obtain ⟨sa, sc, ev, _, hA⟩ := hA
    obtain ⟨rfl, rfl⟩ : la = sa ∧ lc = sc := by simpa using ev
    clear ev
    obtain ⟨sb, sd, ev, _, hB⟩ := hB
    obtain ⟨rfl, rfl⟩ : lb = sb ∧ ld = sd := by simpa using ev
    clear ev
    have HA := Lib.hid hA
    have HB := Lib.hid hB
    have HBE := Lib.hid hBe
    clear hA hB hBe
    generalize hna : A.length = na at *
    generalize hnb : B.length = nb at *
    have HNA := Lib.hid hna
    have HNB := Lib.hid hnb
    clear hna hnb hst2 hst4 hkl2
    have hsm : (someB == [115, 111, 109, 101]) = true := by decide
    go_wp2_with fail
    go_loopw [14, 15] (fun t i wr => ∃ c : Nat, c ≤ na ∧ i = .int .i64 (c : Int) ∧ t = .int .i64 (((A.take c).filter fun x => decide (x ∈ keep)).length : Int) ∧ Below w5.heap.size w5 wr ∧ Mach W wr G T F4) (fun _ i _ => na - (intOf i).toNat)
    case atStart => exact ⟨0, Nat.zero_le _, rfl, rfl, Below.refl _ _, m5⟩
    clear m5
    obtain ⟨c, hc, rfl, rfl, hbw, m⟩ := hrel
    rcases (show c < na ∨ c = na by omega) with hcn | rfl
    · have hcl : c < A.length := by rw [HNA.out]; exact hcn
      obtain ⟨b1, o1, rfl, d1, _⟩ := HA.out c A[c] (List.getElem?_eq_getElem hcl)
      have hkn := kept_next (keep := keep) hcl
      have hka := kept_at (keep := keep) hcl
      rw [← HBE.out] at hka
      have hkc : ((A.take c).filter fun x => decide (x ∈ keep)).length ≤ c := by
        have h1 := List.length_filter_le (fun x => decide (x ∈ keep)) (A.take c)
        have h2 := List.length_take_le c A
        omega
      have hmem := List.getElem_mem hcl
      generalize A[c] = x at *
      have hk1 : x ∈ keep → ((A.take (c + 1)).filter fun x => decide (x ∈ keep)).length = ((A.take c).filter fun x => decide (x ∈ keep)).length + 1 := fun h => by rw [hkn, if_pos h, List.length_append]; rfl
      have hk0 : ¬ x ∈ keep → ((A.take (c + 1)).filter fun x => decide (x ∈ keep)).length = ((A.take c).filter fun x => decide (x ∈ keep)).length := fun h => by rw [hkn, if_neg h, List.append_nil]
      generalize ((A.take c).filter fun x => decide (x ∈ keep)).length = kc at *
      have HKA := Lib.hid hka
      have HK1 := Lib.hid hk1
      have HK0 := Lib.hid hk0
      have HD1 := Lib.hid d1
      clear hkn hka hk1 hk0 d1
      go_wp2_with fail
      go_loopw [16, 17] (fun t i wr => ∃ a : Nat, a ≤ nk ∧ i = .int .i64 (a : Int) ∧ t = .bool (decide (x ∈ keep.take a)) ∧ Below w5.heap.size w5 wr ∧ Mach W wr G T F4) (fun _ i _ => nk - (intOf i).toNat)
      case atStart => exact ⟨0, Nat.zero_le _, rfl, by simp, hbw, m⟩
      clear m hbw
      obtain ⟨a, ha, rfl, rfl, hbw, m⟩ := hrel
      have g1 := (Below.cell hbw (World.block_lt_of_cell? _ _ HD1.out)).trans HD1.out
      rcases (show a < nk ∨ a = nk by omega) with hak | rfl
      · have hal : a < keep.length := by rw [HNK.out]; exact hak
        obtain ⟨b3, o3, rfl, d3, _⟩ := HKX.out a keep[a] (List.getElem?_eq_getElem hal)
        have g3 := (Below.cell m.bel (World.block_lt_of_cell? _ _ d3)).trans d3
        have HT := Lib.hid (show decide (x ∈ keep.take (a + 1)) = (decide (x ∈ keep.take a) || decide (x = keep[a])) by rw [← Bool.decide_or]; exact decide_eq_decide.2 (by rw [List.take_succ_eq_append_getElem hal, List.mem_append, List.mem_singleton]))
        generalize keep[a] = y at *
        clear hal d3
        have k1 := grow_cell g1
        have k3 := grow_cell g3
        by_cases hin : x ∈ keep.take a
        · have hd : decide (x ∈ keep.take a) = true := by simpa using hin
          have HT2 := Lib.hid (show decide (x ∈ keep.take (a + 1)) = true by rw [HT.out, hd]; rfl)
          clear hin HT
          generalize decide (x ∈ keep.take a) = de at *
          subst hd
          go_wp2_with fail
          refine wp_region_at (R := GrowR) (by kernel_rfl) (by kernel_rfl) ?_
          (refine lex_one (by kernel_rfl) (by kernel_rfl) (by kernel_rfl) (fun K hK => ?_); go_big_quiet_step (fail); refine wpQuiet_nil (hK _ ?_); clear hK K); (refine lex_one (by kernel_rfl) (by kernel_rfl) (by kernel_rfl) (fun K hK => ?_); go_big_quiet_step (fail); refine wpQuiet_nil (hK _ ?_); clear hK K); (refine lex_none (by kernel_rfl) (by kernel_rfl) (by kernel_rfl) (fun K hK => ?_); go_big_quiet_step (fail); refine wpQuiet_nil (hK _ ?_); clear hK K); (refine lex_none (by kernel_rfl) (by kernel_rfl) (by kernel_rfl) (fun K hK => ?_); go_big_quiet_step (fail); refine wpQuiet_nil (hK _ ?_); clear hK K); (refine lex_none (by kernel_rfl) (by kernel_rfl) (by kernel_rfl) (fun K hK => ?_); go_big_quiet_step (fail); refine wpQuiet_nil (hK _ ?_); clear hK K); (refine lex_none (by kernel_rfl) (by kernel_rfl) (by kernel_rfl) (fun K hK => ?_); go_big_quiet_step (fail); refine wpQuiet_nil (hK _ ?_); clear hK K); (refine lex_none (by kernel_rfl) (by kernel_rfl) (by kernel_rfl) (fun K hK => ?_); go_big_quiet_step (fail); refine wpQuiet_nil (hK _ ?_); clear hK K); (refine lex_none (by kernel_rfl) (by kernel_rfl) (by kernel_rfl) (fun K hK => ?_); go_big_quiet_step (fail); refine wpQuiet_nil (hK _ ?_); clear hK K); (refine lex_none (by kernel_rfl) (by kernel_rfl) (by kernel_rfl) (fun K hK => ?_); go_big_quiet_step (fail); refine wpQuiet_nil (hK _ ?_); clear hK K); (refine lex_none (by kernel_rfl) (by kernel_rfl) (by kernel_rfl) (fun K hK => ?_); go_big_quiet_step (fail); refine wpQuiet_nil (hK _ ?_); clear hK K); (refine lex_none (by kernel_rfl) (by kernel_rfl) (by kernel_rfl) (fun K hK => ?_); go_big_quiet_step (fail); refine wpQuiet_nil (hK _ ?_); clear hK K); (refine lex_one (by kernel_rfl) (by kernel_rfl) (by kernel_rfl) (fun K hK => ?_); go_big_quiet_step (fail); refine wpQuiet_nil (hK _ ?_); clear hK K); (refine lex_one (by kernel_rfl) (by kernel_rfl) (by kernel_rfl) (fun K hK => ?_); go_big_quiet_step (fail); refine wpQuiet_nil (hK _ ?_); clear hK K)
          refine lex_nil (by kernel_rfl) (by kernel_rfl) (by kernel_rfl) ?_
          intro w6 hw6
          simp only [hideAll]
          have m6 := m.below hw6
          have hb6 := hbw.trans (hw6.mono hbw.size)
          clear m k1 k3 g1 g3 hbw
          go_wp2_with fail
          go_roundw
          case rel => exact ⟨a + 1, by omega, by go_num, by rw [HT2.out], hb6, m6⟩
          case measure => simp [intOf]; omega
        · have hd : decide (x ∈ keep.take a) = false := by simpa using hin
          have HT2 := Lib.hid (show decide (x ∈ keep.take (a + 1)) = decide (x = y) by rw [HT.out, hd]; rfl)
          clear hin HT
          generalize decide (x ∈ keep.take a) = de at *
          subst hd
          have HT3 := Lib.hid (show decide (x = y) = (y == x) by rw [Bool.eq_iff_iff]; simp; exact ⟨Eq.symm, Eq.symm⟩)
          go_wp2_with fail
          refine wp_region_at (R := GrowR) (by kernel_rfl) (by kernel_rfl) ?_
          (refine lex_one (by kernel_rfl) (by kernel_rfl) (by kernel_rfl) (fun K hK => ?_); go_big_quiet_step (fail); refine wpQuiet_nil (hK _ ?_); clear hK K); (refine lex_one (by kernel_rfl) (by kernel_rfl) (by kernel_rfl) (fun K hK => ?_); go_big_quiet_step (fail); refine wpQuiet_nil (hK _ ?_); clear hK K); (refine lex_one (by kernel_rfl) (by kernel_rfl) (by kernel_rfl) (fun K hK => ?_); go_big_quiet_step (fail); refine wpQuiet_nil (hK _ ?_); clear hK K); (refine lex_one (by kernel_rfl) (by kernel_rfl) (by kernel_rfl) (fun K hK => ?_); go_big_quiet_step (fail); refine wpQuiet_nil (hK _ ?_); clear hK K); (refine lex_one (by kernel_rfl) (by kernel_rfl) (by kernel_rfl) (fun K hK => ?_); go_big_quiet_step (fail); refine wpQuiet_nil (hK _ ?_); clear hK K); (refine lex_one (by kernel_rfl) (by kernel_rfl) (by kernel_rfl) (fun K hK => ?_); go_big_quiet_step (fail); refine wpQuiet_nil (hK _ ?_); clear hK K); (refine lex_one (by kernel_rfl) (by kernel_rfl) (by kernel_rfl) (fun K hK => ?_); go_big_quiet_step (fail); refine wpQuiet_nil (hK _ ?_); clear hK K); (refine lex_one (by kernel_rfl) (by kernel_rfl) (by kernel_rfl) (fun K hK => ?_); go_big_quiet_step (fail); refine wpQuiet_nil (hK _ ?_); clear hK K); (refine lex_one (by kernel_rfl) (by kernel_rfl) (by kernel_rfl) (fun K hK => ?_); go_big_quiet_step (fail); refine wpQuiet_nil (hK _ ?_); clear hK K); (refine lex_one (by kernel_rfl) (by kernel_rfl) (by kernel_rfl) (fun K hK => ?_); go_big_quiet_step (fail); refine wpQuiet_nil (hK _ ?_); clear hK K); (refine lex_one (by kernel_rfl) (by kernel_rfl) (by kernel_rfl) (fun K hK => ?_); go_big_quiet_step (fail); refine wpQuiet_nil (hK _ ?_); clear hK K); (refine lex_one (by kernel_rfl) (by kernel_rfl) (by kernel_rfl) (fun K hK => ?_); go_big_quiet_step (fail); refine wpQuiet_nil (hK _ ?_); clear hK K); (refine lex_one (by kernel_rfl) (by kernel_rfl) (by kernel_rfl) (fun K hK => ?_); go_big_quiet_step (fail); refine wpQuiet_nil (hK _ ?_); clear hK K)
          refine lex_nil (by kernel_rfl) (by kernel_rfl) (by kernel_rfl) ?_
          intro w6 hw6
          simp only [hideAll]
          have m6 := m.below hw6
          have hb6 := hbw.trans (hw6.mono hbw.size)
          clear m k1 k3 g1 g3 hbw
          go_wp2_with fail
          go_roundw
          case rel => exact ⟨a + 1, by omega, by go_num, by rw [HT2.out, HT3.out], hb6, m6⟩
          case measure => simp [intOf]; omega
      · have HKT := Lib.hid (show keep.take a = keep by rw [← HNK.out]; exact List.take_length)
        by_cases hin : x ∈ keep
        · have hd : decide (x ∈ keep.take a) = true := by rw [HKT.out]; simpa using hin
          obtain ⟨hrd, hxl⟩ := HRD.out x hmem hin
          have hkd := Lib.hid (HK1.out hin)
          obtain ⟨b4, o4, rfl, d4, _⟩ := HB.out kc x (HKA.out hin)
          have hkcb : kc < nb := by
            rw [← HNB.out]
            exact (List.getElem?_eq_some_iff.1 (HKA.out hin)).1
          have g4 := (Below.cell hbw (World.block_lt_of_cell? _ _ d4)).trans d4
          have q := m.read x (by omega)
          rw [hrd] at q
          have Q := Lib.hid q
          clear q hrd HKT hin d4
          generalize decide (x ∈ keep.take a) = de at *
          subst hd
          go_wp2_with fail
          refine Q.out.mono ?_
          rintro e w6 ⟨rfl, rfl⟩
          clear Q
          have k1 := grow_cell g1
          have k4 := grow_cell g4
          have hdn : decide (nb ≤ kc) = false := by simp; omega
          go_wp2_with fail
          refine wp_region_at (R := GrowR) (by kernel_rfl) (by kernel_rfl) ?_
          (refine lex_one (by kernel_rfl) (by kernel_rfl) (by kernel_rfl) (fun K hK => ?_); go_big_quiet_step (fail); refine wpQuiet_nil (hK _ ?_); clear hK K); (refine lex_one (by kernel_rfl) (by kernel_rfl) (by kernel_rfl) (fun K hK => ?_); go_big_quiet_step (fail); refine wpQuiet_nil (hK _ ?_); clear hK K); (refine lex_val (v := .int .i64 (nb : Int)) (by kernel_rfl) (fun _ _ h => by cases h) (by kernel_rfl) (by kernel_rfl) (fun _ _ => by go_simp) (lex_put (type := 0) (pos := "") (fun K hK => ?_)); go_big_quiet_step (fail); refine wpQuiet_nil (hK _ ?_); clear hK K); (refine lex_one (by kernel_rfl) (by kernel_rfl) (by kernel_rfl) (fun K hK => ?_); go_big_quiet_step (fail); refine wpQuiet_nil (hK _ ?_); clear hK K); (refine lex_one (by kernel_rfl) (by kernel_rfl) (by kernel_rfl) (fun K hK => ?_); go_big_quiet_step (fail); refine wpQuiet_nil (hK _ ?_); clear hK K); (refine lex_one (by kernel_rfl) (by kernel_rfl) (by kernel_rfl) (fun K hK => ?_); go_big_quiet_step (fail); refine wpQuiet_nil (hK _ ?_); clear hK K); (refine lex_one (by kernel_rfl) (by kernel_rfl) (by kernel_rfl) (fun K hK => ?_); go_big_quiet_step (fail); refine wpQuiet_nil (hK _ ?_); clear hK K); (refine lex_one (by kernel_rfl) (by kernel_rfl) (by kernel_rfl) (fun K hK => ?_); go_big_quiet_step (fail); refine wpQuiet_nil (hK _ ?_); clear hK K); (refine lex_one (by kernel_rfl) (by kernel_rfl) (by kernel_rfl) (fun K hK => ?_); go_big_quiet_step (fail); refine wpQuiet_nil (hK _ ?_); clear hK K); (refine lex_one (by kernel_rfl) (by kernel_rfl) (by kernel_rfl) (fun K hK => ?_); go_big_quiet_step (fail); refine wpQuiet_nil (hK _ ?_); clear hK K); (refine lex_one (by kernel_rfl) (by kernel_rfl) (by kernel_rfl) (fun K hK => ?_); go_big_quiet_step (fail); refine wpQuiet_nil (hK _ ?_); clear hK K); (refine lex_one (by kernel_rfl) (by kernel_rfl) (by kernel_rfl) (fun K hK => ?_); go_big_quiet_step (fail); refine wpQuiet_nil (hK _ ?_); clear hK K); (refine lex_one (by kernel_rfl) (by kernel_rfl) (by kernel_rfl) (fun K hK => ?_); go_big_quiet_step (fail); refine wpQuiet_nil (hK _ ?_); clear hK K); (refine lex_one (by kernel_rfl) (by kernel_rfl) (by kernel_rfl) (fun K hK => ?_); go_big_quiet_step (fail); refine wpQuiet_nil (hK _ ?_); clear hK K); (refine lex_one (by kernel_rfl) (by kernel_rfl) (by kernel_rfl) (fun K hK => ?_); go_big_quiet_step (fail); refine wpQuiet_nil (hK _ ?_); clear hK K); (refine lex_one (by kernel_rfl) (by kernel_rfl) (by kernel_rfl) (fun K hK => ?_); go_big_quiet_step (fail); refine wpQuiet_nil (hK _ ?_); clear hK K); (refine lex_one (by kernel_rfl) (by kernel_rfl) (by kernel_rfl) (fun K hK => ?_); go_big_quiet_step (fail); refine wpQuiet_nil (hK _ ?_); clear hK K); (refine lex_one (by kernel_rfl) (by kernel_rfl) (by kernel_rfl) (fun K hK => ?_); go_big_quiet_step (fail); refine wpQuiet_nil (hK _ ?_); clear hK K); (refine lex_one (by kernel_rfl) (by kernel_rfl) (by kernel_rfl) (fun K hK => ?_); go_big_quiet_step (fail); refine wpQuiet_nil (hK _ ?_); clear hK K)
          refine lex_nil (by kernel_rfl) (by kernel_rfl) (by kernel_rfl) ?_
          intro w6 hw6
          simp only [hideAll]
          have m6 := m.below hw6
          have hb6 := hbw.trans (hw6.mono hbw.size)
          clear m k1 k4 g1 g4 hbw
          go_wp2_with fail
          go_roundw
          case rel => exact ⟨c + 1, by omega, by go_num, by rw [hkd.out]; go_num, hb6, m6⟩
          case measure => simp [intOf]; omega
        · have hd : decide (x ∈ keep.take a) = false := by rw [HKT.out]; simpa using hin
          have hkd := Lib.hid (HK0.out hin)
          clear HKT hin
          generalize decide (x ∈ keep.take a) = de at *
          subst hd
          go_wp2_with fail
          go_roundw
          case rel => exact ⟨c + 1, by omega, by go_num, by rw [hkd.out], hbw, m⟩
          case measure => simp [intOf]; omega
    · have HE := Lib.hid (show ((A.take c).filter fun x => decide (x ∈ keep)).length = nb by rw [← HNB.out, HBE.out, ← HNA.out, List.take_length])
      generalize ((A.take c).filter fun x => decide (x ∈ keep)).length = kc at *
      obtain rfl := HE.out
      have h5 : ((gn : Int) + kc == c) = true := by simp; omega
      go_wp2
      go_ret
      exact ⟨rfl, m.bel⟩

theorem DiskSweeps_walk {H : Type} {enc : TypeId × Value → H} {d0 d1 : DataW H} {p0 p1 : List MemPlace} (sa0 : Option Addr) (sl0 sc0 : Nat) (sa1 : Option Addr) (sl1 sc1 : Nat) (W : World)
    (k0 : DataW.Trod enc Try.prog W 0 (fun _ => true) true 22 (.slice sa0 sl0 sc0) d0 p0) (k1 : DataW.Trod enc Try.prog W 0 (fun _ => true) true 22 (.slice sa1 sl1 sc1) d1 p1) :
    Calls Try.prog 3 #[.slice sa0 sl0 sc0, .slice sa1 sl1 sc1] W fun e w' => e = .returned (.bool true) ∧ Below W.heap.size W w' := by
  obtain ⟨_, k0⟩ := k0
  obtain ⟨_, k1⟩ := k1
  obtain ⟨l, h0⟩ := strs_of_trod k0 ⟨_, _, _, rfl⟩
  obtain ⟨b, h1⟩ := strs_of_trod k1 ⟨_, _, _, rfl⟩
  exact DiskSweeps_lists h0 h1
end Go.Proofs.Ytocfaffiifhggaa
