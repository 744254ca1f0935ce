/- The law SimfsAgain: the walk. -/
import Derived.Test.YtphkmhajjnnbaaaLawG
import Derived.Test.YtphkmhajjnnbaaaLawNb
namespace Go.Proofs.Ytphkmhajjnnbaaa
open Go.RowKit Go.Maps Go.WideMaps Go.ChangeShapes Go.WideShapes
attribute [local go_sem] bs_toList bs_size

theorem key_le {N : Nm} (h : N.ok) {x : List UInt8} (hx : x ∈ N.keys) : x.length ≤ 1048576 := by
  obtain ⟨p, hp, rfl⟩ := List.mem_map.1 hx
  have := h.3 p hp
  omega

set_option maxRecDepth 100000 in
set_option maxHeartbeats 8000000 in
theorem SimfsAgain_acts {W : World} {v1 va vb : Value} {l1 : List ActD} {ka kb : List Int} (h1 : ActsAt W v1 l1) (ha : KeepAt W va ka) (hb : KeepAt W vb kb) :
    Calls Try.prog 3 #[v1, va, vb] W fun e w' => e = .returned (.bool true) ∧ Below W.heap.size W w' := by
  have q0 := Lib.hid (works_any W)
  go_enter Try.func3, Try.ntmps3
  go_wp2_with fail
  refine q0.out.mono ?_
  rintro e w0 ⟨rfl, hb0⟩
  have qn := Lib.hid (New_any w0 10000)
  go_wp2_with fail
  refine qn.out.mono ?_
  rintro e w1 ⟨G, F1, rfl, hM, hT, hF⟩
  have m1 : Mach W w1 G (FsS.new 10000) F1 := ⟨hM, hb0.trans (hT.kept.below hb0.size (fun k hk => hk.elim)), fun k hk => Nat.le_trans hb0.size (hF k hk), new_ok 10000⟩
  have qf1 := Lib.hid (few_any (h1.below m1.bel))
  clear hM hT hF q0 qn hb0
  go_wp2_with fail
  refine qf1.out.mono ?_
  rintro e w2 ⟨b1, rfl, hb1, rfl⟩
  cases b1 with
  | false =>
    clear hb1
    go_wp2
    go_ret
    exact ⟨rfl, m1.bel⟩
  | true =>
    have HB1 := Lib.hid (hb1 (by simp))
    clear hb1 qf1
    obtain ⟨sa1, sc1, rfl, hl1, hx1⟩ := h1
    have hn1 := HB1.out.1
    generalize hN1 : l1.length = n1 at *
    have HN1 := Lib.hid hN1
    have HX1 := Lib.hid hx1
    clear hN1 hx1 hl1
    go_wp2_with fail
    go_loopw [10] (fun i wr => ∃ (j : Nat) (S : FsS) (F : Nat → Prop), j ≤ n1 ∧ i = .int .i64 (j : Int) ∧ Mach W wr G S F ∧ S.steps ≤ j) (fun i _ => n1 - (intOf i).toNat)
    case atStart => exact ⟨0, _, F1, Nat.zero_le _, rfl, m1, Nat.le_refl _⟩
    clear m1
    obtain ⟨j, S, F, hj, rfl, m, hst⟩ := hrel
    rcases (show j < n1 ∨ j = n1 by omega) with hjn | rfl
    · have hjl : j < l1.length := by rw [HN1.out]; exact hjn
      obtain ⟨b, o, kv, rfl, ha⟩ := HX1.out j l1[j] (List.getElem?_eq_getElem hjl)
      have q := Lib.hid (m.act (by omega) ha (HB1.out.2 _ (List.getElem_mem hjl)))
      have d0 := (Below.cell m.bel (World.block_lt_of_cell? _ _ ha.cK)).trans ha.cK
      have d1 := (Below.cell m.bel (World.block_lt_of_cell? _ _ ha.cA)).trans ha.cA
      have d2 := (Below.cell m.bel (World.block_lt_of_cell? _ _ ha.cB)).trans ha.cB
      have d3 := (Below.cell m.bel (World.block_lt_of_cell? _ _ ha.cN)).trans ha.cN
      have d4 := (Below.cell m.bel (World.block_lt_of_cell? _ _ ha.cP)).trans ha.cP
      clear ha
      generalize l1[j] = a at *
      clear hjl
      go_wp2_with fail
      refine q.out.mono ?_
      rintro e wr' ⟨T, r, F', rfl, _, m', hst', _⟩
      clear m q
      go_wp2
      go_roundw
      case rel => exact ⟨j + 1, T, F', by omega, by go_num, m', by omega⟩
      case measure => simp [intOf]; omega
    · have q := Lib.hid (Fs_Crash_mem (v := va) (ks := ka) m.mem m.ok (by omega) fun w' F' ht => ha.below (m.bel.trans (ht.kept.below m.bel.size m.base)))
      go_wp2_with fail
      refine q.out.mono ?_
      rintro e w2 ⟨rfl, F2, hM, hT⟩
      have m2 := m.turn hM hT (m.ok.crash ka)
      have hcalm := Lib.hid (crash_calm S ka)
      have hst2 : (S.crash ka).steps ≤ 40 := by show S.steps ≤ 40; omega
      clear m hM hT q hst
      generalize S.crash ka = C at *
      have q := Lib.hid m2.list
      go_wp2_with fail
      refine q.out.mono ?_
      rintro e w3 ⟨lv, rfl, hsafe, m3, _⟩
      clear q m2
      have hN := m3.ok.names
      have hkl : C.names.keys.length ≤ 64 := by
        have := m3.ok.names_le
        show (C.names.map (·.1)).length ≤ 64
        simpa using this
      obtain ⟨la, lc, rfl⟩ := hsafe.len
      generalize hK : C.names.keys = keys at *
      generalize hn : keys.length = n at *
      have HK := Lib.hid hK
      have Hn := Lib.hid hn
      have HNok := Lib.hid hN
      clear hK hn hN
      have hsafe' : Safe w3 F2 (.slice la keys.length lc) keys := by rw [Hn.out]; exact hsafe
      have hcs := Lib.hid (Coll.start (W := W) hsafe')
      have HM3 := Lib.hid m3
      clear hsafe hsafe' m3
      obtain ⟨i0, hi, hz0, hz1, hz2⟩ := info_string
      go_wp2_with fail
      go_loopw [12, 13] (fun t i wr => ∃ (j : Nat) (ba : Option Addr) (bc : Nat), j ≤ n ∧ i = .int .i64 (j : Int) ∧ t = .slice ba j bc ∧ Mach W wr G C F2 ∧ Coll W wr F2 (.slice la keys.length lc) keys (.slice ba j bc) ((keys.take j).map fun x => (C.read x).1)) (fun _ i _ => n - (intOf i).toNat)
      case atStart => exact ⟨0, none, 0, Nat.zero_le _, rfl, rfl, HM3.out, hcs.out⟩
      clear hcs HM3
      obtain ⟨j, ba, bc, hj, rfl, rfl, m, hc⟩ := hrel
      rcases (show j < n ∨ j = n by omega) with hjn | rfl
      · have hjl : j < keys.length := by rw [Hn.out]; exact hjn
        obtain ⟨lg, rfl, lcell⟩ := hc.names.cell (List.getElem?_eq_getElem hjl)
        have hmem : keys[j] ∈ C.names.keys := by rw [HK.out]; exact List.getElem_mem hjl
        have q := Lib.hid (m.read keys[j] (key_le HNok.out hmem))
        have htk : (keys.take (j + 1)).map (fun x => (C.read x).1) = (keys.take j).map (fun x => (C.read x).1) ++ [(C.read keys[j]).1] := by
          rw [List.take_succ_eq_append_getElem hjl, List.map_append]
          rfl
        have HTK := Lib.hid htk
        have HC := Lib.hid hc
        have HMM := Lib.hid m
        have hrow := hc.row
        have hjlen : ((keys.take j).map fun x => (C.read x).1).length = j := by simp; omega
        rw [hjlen] at hrow
        have hJL := Lib.hid hjlen
        have hbsz := m.bel.size
        clear htk hc m hmem hjlen
        generalize keys[j] = x at *
        generalize (C.read x).1 = rx at *
        generalize (C.read x).2 = re at *
        generalize (keys.take j).map (fun x => (C.read x).1) = coll at *
        go_wp2_with fail
        refine q.out.mono ?_
        rintro e w4 ⟨rfl, rfl⟩
        clear q
        go_wp2_with (at_builtin; refine wpList_append_own_at _ rfl _ _ 33 rfl W.heap.size 9 i0 (.string ⟨#[]⟩) 1 16 Try.underlying33 hi hz0 hz1 hz2 rfl (by decide) _ _ _ rfl (World.ownsRow.alloc hrow _) ⟨_, 0, none⟩ 1 1 [.string (bs rx)] rfl rfl (cell_one_new _ _ _) (by simp [Value.oneCell']) (by unfold maxLen; omega) (by omega) (by simp; omega) ?_; intro v' w5 hown' hgrow hnil hloc)
        have HP := Lib.hid (Coll.push (S := C) HMM.out HC.out (by rw [hJL.out]; exact hown') hgrow hloc)
        obtain ⟨sa, sc, hv⟩ := HP.out.2.form
        have hlc : (coll ++ [rx]).length = j + 1 := by simp [hJL.out]
        rw [hlc] at hv
        subst hv
        clear hown' hgrow hnil hloc
        go_roundw
        case rel => exact ⟨j + 1, sa, sc, by omega, by go_num, rfl, HP.out.1, by rw [HTK.out]; exact HP.out.2⟩
        case measure => simp [intOf]; omega
      · have q := Lib.hid (Fs_Steps_mem m.mem)
        go_wp2_with fail
        refine q.out.mono ?_
        rintro e w4 ⟨rfl, rfl⟩
        clear q
        have q := Lib.hid (Fs_Crash_mem (v := vb) (ks := kb) m.mem m.ok (by omega) fun w' F' ht => hb.below (m.bel.trans (ht.kept.below m.bel.size m.base)))
        go_wp2_with fail
        refine q.out.mono ?_
        rintro e w5 ⟨rfl, F5, hM, hT⟩
        have m5 := m.turn hM hT (m.ok.crash kb)
        have hc5 := hc.turn hT
        obtain ⟨g1, g2, g3, g4⟩ := hcalm.out.crash kb
        have G1 := Lib.hid g1
        have G3 := Lib.hid g3
        have G4 := Lib.hid g4
        have GR := Lib.hid (hcalm.out.read_crash kb)
        have HJ := Lib.hid (show (keys.take j).map (fun x => (C.read x).1) = keys.map (fun x => (C.read x).1) by rw [List.take_of_length_le (by rw [Hn.out]; exact Nat.le_refl _)])
        rw [HJ.out] at hc5
        clear m hM hT q hc g1 g2 g3 g4
        generalize C.crash kb = D at *
        go_wp2_with fail
        go_loop [17] (fun i => ∃ k : Nat, k ≤ j ∧ i = .int .i64 (k : Int)) (fun i => j - (intOf i).toNat)
        case atStart => exact ⟨0, Nat.zero_le _, rfl⟩
        obtain ⟨k, hk, rfl⟩ := hrel
        rcases (show k < j ∨ k = j by omega) with hkj | rfl
        · have hkl : k < keys.length := by rw [Hn.out]; exact hkj
          obtain ⟨lg, rfl, lcell⟩ := hc5.names.cell (List.getElem?_eq_getElem hkl)
          obtain ⟨hbn, bg, rfl, bcell⟩ := hc5.cell (j := k) (x := (C.read keys[k]).1) (by rw [List.getElem?_map, List.getElem?_eq_getElem hkl]; rfl)
          have hmem : keys[k] ∈ C.names.keys := by rw [HK.out]; exact List.getElem_mem hkl
          have q := m5.read keys[k] (key_le HNok.out hmem)
          rw [GR.out] at q
          rw [read_there hcalm.out.alive HNok.out hmem] at q
          have Q := Lib.hid q
          clear q hmem hbn
          generalize keys[k] = x at *
          generalize (C.read x).1 = rx at *
          go_wp2_with fail
          refine Q.out.mono ?_
          rintro e w6 ⟨rfl, rfl⟩
          go_wp2
          go_round
          case rel => exact ⟨k + 1, by omega, by go_num⟩
          case measure => simp [intOf]; omega
        · have q := m5.list
          rw [G1.out, HK.out] at q
          have Q := Lib.hid q
          clear q
          go_wp2_with fail
          refine Q.out.mono ?_
          rintro e w6 ⟨lv, rfl, hs6, m6, hb6⟩
          have hs5 := hc5.names.below hb6
          have NS : ∀ {w v}, Safe w F5 v keys → StrsAt w v keys := fun {w v} h => by
            rw [← HK.out] at h ⊢
            exact h.strs HNok.out
          have hsl := NS hs5
          rw [Hn.out] at hsl
          have qt := Lib.hid (Texts_any (NS hs6) hsl)
          clear Q m5 hc5 hs6 hs5 hsl
          go_wp2_with fail
          refine qt.out.mono ?_
          rintro e w7 ⟨rfl, hb7⟩
          have m7 := m6.below hb7
          clear m6 qt
          simp only [decide_true]
          have q := Fs_Steps_mem m7.mem
          rw [G4.out] at q
          have Q := Lib.hid q
          clear q
          go_wp2_with fail
          refine Q.out.mono ?_
          rintro e w8 ⟨rfl, rfl⟩
          have q := Fs_Dead_mem m7.mem
          rw [G3.out] at q
          have Q2 := Lib.hid q
          clear q
          go_wp2_with fail
          refine Q2.out.mono ?_
          rintro e w8 ⟨rfl, rfl⟩
          go_wp2
          go_ret
          exact ⟨by simp, m7.bel⟩

theorem SimfsAgain_walk {H : Type} {enc : TypeId × Value → H} {d1 d2 d3 : DataW H} {p1 p2 p3 : List MemPlace} (sa1 : Option Addr) (sl1 sc1 : Nat) (sa2 : Option Addr) (sl2 sc2 : Nat) (sa3 : Option Addr) (sl3 sc3 : Nat) (W : World)
    (k1 : DataW.Trod enc Try.prog W 0 (fun _ => true) true 22 (.slice sa1 sl1 sc1) d1 p1) (k2 : DataW.Trod enc Try.prog W 0 (fun _ => true) true 23 (.slice sa2 sl2 sc2) d2 p2)
    (k3 : DataW.Trod enc Try.prog W 0 (fun _ => true) true 23 (.slice sa3 sl3 sc3) d3 p3) :
    Calls Try.prog 3 #[.slice sa1 sl1 sc1, .slice sa2 sl2 sc2, .slice sa3 sl3 sc3] W fun e w' => e = .returned (.bool true) ∧ Below W.heap.size W w' := by
  obtain ⟨_, k1⟩ := k1
  obtain ⟨_, k2⟩ := k2
  obtain ⟨_, k3⟩ := k3
  obtain ⟨l1, h1⟩ := acts_of_trod k1
  obtain ⟨ka, ha⟩ := keep_of_trod k2 ⟨_, _, _, rfl⟩
  obtain ⟨kb, hb⟩ := keep_of_trod k3 ⟨_, _, _, rfl⟩
  exact SimfsAgain_acts h1 ha hb
end Go.Proofs.Ytphkmhajjnnbaaa
