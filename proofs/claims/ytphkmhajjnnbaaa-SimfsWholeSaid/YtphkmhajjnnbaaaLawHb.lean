/- The law SimfsWhole: the walk. -/
import Derived.Test.YtphkmhajjnnbaaaLawH
namespace Go.Proofs.Ytphkmhajjnnbaaa
open Go.RowKit Go.Maps Go.WideMaps Go.ChangeShapes Go.WideShapes
attribute [local go_sem] bs_toList bs_size

set_option maxRecDepth 100000 in
set_option maxHeartbeats 8000000 in
theorem SimfsWhole_acts {W : World} {v1 va : Value} {l1 : List ActD} {ka : List Int} (h1 : ActsAt W v1 l1) (ha : KeepAt W va ka) :
    Calls Try.prog 5 #[v1, va] W fun e w' => e = .returned (.bool true) ∧ Below W.heap.size W w' := by
  obtain ⟨sk, ck, rfl, hkl, hkx⟩ := ha
  have ha : KeepAt W (.slice sk ka.length ck) ka := ⟨sk, ck, rfl, hkl, hkx⟩
  have HA := Lib.hid ha
  unfold maxLen at hkl
  clear ha hkx
  generalize hkn : ka.length = nk at *
  have q0 := Lib.hid (works_any W)
  go_enter Try.func5, Try.ntmps5
  go_wp2_with fail
  refine q0.out.mono ?_
  rintro e w0 ⟨rfl, hb0⟩
  have qn := Lib.hid (New_any w0 10000)
  go_wp2_with fail
  refine qn.out.mono ?_
  rintro e w1 ⟨G, F1, rfl, hM, hT, hF⟩
  have m1 : Mach W w1 G (FsS.new 10000) F1 := ⟨hM, hb0.trans (hT.kept.below hb0.size (fun k hk => hk.elim)), fun k hk => Nat.le_trans hb0.size (hF k hk), new_ok 10000⟩
  have qf1 := Lib.hid (few_any (h1.below m1.bel))
  clear hM hT hF q0 qn hb0
  go_wp2_with fail
  refine qf1.out.mono ?_
  rintro e w2 ⟨b1, rfl, hb1, rfl⟩
  cases b1 with
  | false =>
    clear hb1
    go_wp2
    go_ret
    exact ⟨rfl, m1.bel⟩
  | true =>
    rcases (show (20 < (nk : Int)) ∨ (nk : Int) ≤ 20 by omega) with hA | hA
    · clear hb1
      go_wp2
      go_ret
      exact ⟨rfl, m1.bel⟩
    have HB1 := Lib.hid (hb1 (by simp))
    clear hb1 qf1
    obtain ⟨sa1, sc1, rfl, hl1, hx1⟩ := h1
    have hn1 := HB1.out.1
    generalize hN1 : l1.length = n1 at *
    have HN1 := Lib.hid hN1
    have HX1 := Lib.hid hx1
    clear hN1 hx1 hl1
    have hA' : decide (20 < (nk : Int)) = false := by simp; omega
    go_wp2_with fail
    clear hA'
    go_loopw [8] (fun i wr => ∃ (j : Nat) (S : FsS) (F : Nat → Prop), j ≤ n1 ∧ i = .int .i64 (j : Int) ∧ Mach W wr G S F ∧ S.steps ≤ j) (fun i _ => n1 - (intOf i).toNat)
    case atStart => exact ⟨0, _, F1, Nat.zero_le _, rfl, m1, Nat.le_refl _⟩
    clear m1
    obtain ⟨j, S, F, hj, rfl, m, hst⟩ := hrel
    rcases (show j < n1 ∨ j = n1 by omega) with hjn | rfl
    · have hjl : j < l1.length := by rw [HN1.out]; exact hjn
      obtain ⟨b, o, kv, rfl, ha⟩ := HX1.out j l1[j] (List.getElem?_eq_getElem hjl)
      have q := Lib.hid (m.act (by omega) ha (HB1.out.2 _ (List.getElem_mem hjl)))
      have d0 := (Below.cell m.bel (World.block_lt_of_cell? _ _ ha.cK)).trans ha.cK
      have d1 := (Below.cell m.bel (World.block_lt_of_cell? _ _ ha.cA)).trans ha.cA
      have d2 := (Below.cell m.bel (World.block_lt_of_cell? _ _ ha.cB)).trans ha.cB
      have d3 := (Below.cell m.bel (World.block_lt_of_cell? _ _ ha.cN)).trans ha.cN
      have d4 := (Below.cell m.bel (World.block_lt_of_cell? _ _ ha.cP)).trans ha.cP
      clear ha
      generalize l1[j] = a at *
      clear hjl
      go_wp2_with fail
      refine q.out.mono ?_
      rintro e wr' ⟨T, r, F', rfl, _, m', hst', _⟩
      clear m q
      go_wp2
      go_roundw
      case rel => exact ⟨j + 1, T, F', by omega, by go_num, m', by omega⟩
      case measure => simp [intOf]; omega
    · have q := Lib.hid (Fs_Fuse_mem m.mem (-1))
      go_wp2_with fail
      refine q.out.mono ?_
      rintro e w2 ⟨rfl, hM, hT⟩
      have m2 := m.turn hM hT (m.ok.setFuse (-1))
      have hst2 : (S.setFuse (-1)).steps ≤ 40 := by show S.steps ≤ 40; omega
      have hss := Synced.start (nofuse S)
      clear m hM hT q hst
      generalize S.setFuse (-1) = C at *
      have q := Lib.hid m2.list
      go_wp2_with fail
      refine q.out.mono ?_
      rintro e w3 ⟨lv, rfl, hsafe, m3, _⟩
      clear q m2
      have hN := m3.ok.names
      have hkl : C.names.keys.length ≤ 64 := by
        have := m3.ok.names_le
        show (C.names.map (·.1)).length ≤ 64
        simpa using this
      obtain ⟨la, lc, rfl⟩ := hsafe.len
      generalize hK : C.names.keys = keys at *
      generalize hn : keys.length = n at *
      have HK := Lib.hid hK
      have Hn := Lib.hid hn
      have HNok := Lib.hid hN
      clear hK hn hN
      have hsafe' : Safe w3 F (.slice la keys.length lc) keys := by rw [Hn.out]; exact hsafe
      have hcs := Lib.hid (Coll.start (W := W) hsafe')
      have HM3 := Lib.hid m3
      have HSS := Lib.hid hss
      clear hsafe hsafe' m3 hss
      obtain ⟨i0, hi, hz0, hz1, hz2⟩ := info_string
      go_wp2_with fail
      go_loopw [10, 11] (fun t i wr => ∃ (j : Nat) (ba : Option Addr) (bc : Nat) (T : FsS) (F : Nat → Prop), j ≤ n ∧ i = .int .i64 (j : Int) ∧ t = .slice ba j bc ∧ Mach W wr G T F ∧ Synced C T (keys.take j) ∧ T.steps ≤ 40 + j ∧ Coll W wr F (.slice la keys.length lc) keys (.slice ba j bc) ((keys.take j).map fun x => (C.read x).1)) (fun _ i _ => n - (intOf i).toNat)
      case atStart => exact ⟨0, none, 0, C, F, Nat.zero_le _, rfl, rfl, HM3.out, HSS.out, hst2, hcs.out⟩
      clear hcs HM3 HSS
      obtain ⟨j, ba, bc, T, F, hj, rfl, rfl, m, hsy, hTs, hc⟩ := hrel
      have HSY := Lib.hid hsy
      clear hsy
      rcases (show j < n ∨ j = n by omega) with hjn | rfl
      · have hjl : j < keys.length := by rw [Hn.out]; exact hjn
        obtain ⟨lg, rfl, lcell⟩ := hc.names.cell (List.getElem?_eq_getElem hjl)
        have hmem : keys[j] ∈ C.names.keys := by rw [HK.out]; exact List.getElem_mem hjl
        have hxl := key_le HNok.out hmem
        have hxj := Lib.hid (List.getElem?_eq_getElem hjl : keys[j]? = some keys[j])
        have q := Lib.hid (Fs_Sync_mem m.mem m.ok (by omega) keys[j] hxl)
        have htk : (keys.take (j + 1)).map (fun x => (C.read x).1) = (keys.take j).map (fun x => (C.read x).1) ++ [(C.read keys[j]).1] := by
          rw [List.take_succ_eq_append_getElem hjl, List.map_append]
          rfl
        have htk2 : keys.take (j + 1) = keys.take j ++ [keys[j]] := by rw [List.take_succ_eq_append_getElem hjl]
        have hsy' := HSY.out.sync keys[j]
        rw [← htk2] at hsy'
        have HSY2 := Lib.hid hsy'
        have HTK := Lib.hid htk
        have hjlen : ((keys.take j).map fun x => (C.read x).1).length = j := by simp; omega
        have hJL := Lib.hid hjlen
        clear htk htk2 hsy' hmem hjlen
        generalize keys[j] = x at *
        go_wp2_with fail
        refine q.out.mono ?_
        intro e w4 hd
        obtain ⟨F4, hT4, _, hM4⟩ := id hd
        have m4 := m.turn hM4 hT4 (m.ok.sync x)
        have hc4 := hc.turn hT4
        have hst4 := Synced.steps (T := T) x
        obtain rfl := hd.form
        clear hd hc m hT4 hM4 q
        have q := m4.read x hxl
        rw [HSY2.out.read x] at q
        have Q := Lib.hid q
        have lcell4 : w4.cell? ⟨lg, j, none⟩ = some (.string (bs x)) := by
          obtain ⟨lg', e1, e2⟩ := hc4.names.cell hxj.out
          cases e1
          exact e2
        clear q
        generalize (T.sync x).1 = T4 at *
        generalize (T.sync x).2 = r4 at *
        have HC := Lib.hid hc4
        have HMM := Lib.hid m4
        have hrow := hc4.row
        rw [hJL.out] at hrow
        have hbsz := m4.bel.size
        clear hc4 m4 lcell
        generalize (C.read x).1 = rx at *
        generalize (C.read x).2 = re at *
        generalize (keys.take j).map (fun x => (C.read x).1) = coll at *
        go_wp2_with fail
        refine Q.out.mono ?_
        rintro e w5 ⟨rfl, rfl⟩
        go_wp2_with (at_builtin; refine wpList_append_own_at _ rfl _ _ 33 rfl W.heap.size 9 i0 (.string ⟨#[]⟩) 1 16 Try.underlying33 hi hz0 hz1 hz2 rfl (by decide) _ _ _ rfl (World.ownsRow.alloc hrow _) ⟨_, 0, none⟩ 1 1 [.string (bs rx)] rfl rfl (cell_one_new _ _ _) (by simp [Value.oneCell']) (by unfold maxLen; omega) (by omega) (by simp; omega) ?_; intro v' w5 hown' hgrow hnil hloc)
        have HP := Lib.hid (Coll.push (S := T4) HMM.out HC.out (by rw [hJL.out]; exact hown') hgrow hloc)
        obtain ⟨sa, sc, hv⟩ := HP.out.2.form
        have hlc : (coll ++ [rx]).length = j + 1 := by simp [hJL.out]
        rw [hlc] at hv
        subst hv
        clear hown' hgrow hnil hloc
        go_roundw
        case rel => exact ⟨j + 1, sa, sc, T4, F4, by omega, by go_num, rfl, HP.out.1, HSY2.out, by omega, by rw [HTK.out]; exact HP.out.2⟩
        case measure => simp [intOf]; omega
      · have hall : keys.take j = keys := List.take_of_length_le (by rw [Hn.out]; exact Nat.le_refl _)
        rw [hall] at hc HSY
        clear hall
        have q := Lib.hid (Fs_SyncDir_mem m.mem m.ok (by omega))
        cases hd : C.dead with
        | true =>
          have hdd := HSY.out.dead_dir hd
          rw [hdd] at q
          have qd := Fs_Dead_mem (w := wr) (G := G) (S := T) (F := F)
          go_wp2_with fail
          refine q.out.mono ?_
          intro e w4 hdid
          obtain ⟨F4, m4⟩ := m.did hdid m.ok
          obtain rfl := hdid.form
          have Q := Fs_Dead_mem m4.mem
          simp only at Q
          rw [show T.dead = true from HSY.out.dead.trans hd] at Q
          have QQ := Lib.hid Q
          clear Q hdid qd hdd
          go_wp2_with fail
          refine QQ.out.mono ?_
          rintro e w5 ⟨rfl, rfl⟩
          go_wp2
          go_ret
          exact ⟨by simp, m4.bel⟩
        | false =>
          have hSY := HSY.out
          rw [← HK.out] at hSY
          obtain ⟨c0, hcalm, c1, c2, c3⟩ := hSY.calm HNok.out hd
          go_wp2_with fail
          refine q.out.mono ?_
          intro e w4 hdid
          obtain ⟨F4, hT4, _, hM4⟩ := id hdid
          have m4 := m.turn hM4 hT4 m.ok.syncDir
          have hc4 := hc.turn hT4
          obtain rfl := hdid.form
          rw [c0]
          have HCalm := Lib.hid hcalm
          have C1 := Lib.hid c1
          have C3 := Lib.hid c3
          have hst4 : T.syncDir.1.steps ≤ 40 + j + 1 := by omega
          clear hdid q hT4 hM4 hc m hcalm c0 c1 c2 c3 hSY
          generalize T.syncDir.1 = D at *
          have q := Lib.hid (Fs_Crash_mem (v := .slice sk nk ck) (ks := ka) m4.mem m4.ok (by omega) fun w' F' ht => HA.out.below (m4.bel.trans (ht.kept.below m4.bel.size m4.base)))
          go_wp2_with fail
          refine q.out.mono ?_
          rintro e w5 ⟨rfl, F5, hM, hT⟩
          have m5 := m4.turn hM hT (m4.ok.crash ka)
          have hc5 := hc4.turn hT
          obtain ⟨g1, g2, g3, g4⟩ := HCalm.out.crash ka
          have G1 := Lib.hid (g1.trans C1.out)
          have GR := Lib.hid (fun x => (HCalm.out.read_crash ka x).trans (C3.out x))
          clear m4 hM hT q hc4 g1 g2 g3 g4
          generalize D.crash ka = E at *
          have hcd := Lib.hid hd
          clear hd
          go_wp2_with fail
          go_loop [14] (fun i => ∃ k : Nat, k ≤ j ∧ i = .int .i64 (k : Int)) (fun i => j - (intOf i).toNat)
          case atStart => exact ⟨0, Nat.zero_le _, rfl⟩
          obtain ⟨k, hk, rfl⟩ := hrel
          rcases (show k < j ∨ k = j by omega) with hkj | rfl
          · have hkl : k < keys.length := by rw [Hn.out]; exact hkj
            obtain ⟨lg, rfl, lcell⟩ := hc5.names.cell (List.getElem?_eq_getElem hkl)
            obtain ⟨hbn, bg, rfl, bcell⟩ := hc5.cell (j := k) (x := (C.read keys[k]).1) (by rw [List.getElem?_map, List.getElem?_eq_getElem hkl]; rfl)
            have hmem : keys[k] ∈ C.names.keys := by rw [HK.out]; exact List.getElem_mem hkl
            have q := m5.read keys[k] (key_le HNok.out hmem)
            rw [GR.out] at q
            rw [read_there hcd.out HNok.out hmem] at q
            have Q := Lib.hid q
            clear q hmem hbn
            generalize keys[k] = x at *
            generalize (C.read x).1 = rx at *
            go_wp2_with fail
            refine Q.out.mono ?_
            rintro e w6 ⟨rfl, rfl⟩
            go_wp2
            go_round
            case rel => exact ⟨k + 1, by omega, by go_num⟩
            case measure => simp [intOf]; omega
          · have q := m5.list
            rw [G1.out, HK.out] at q
            have Q := Lib.hid q
            clear q
            go_wp2_with fail
            refine Q.out.mono ?_
            rintro e w6 ⟨lv, rfl, hs6, m6, hb6⟩
            have hs5 := hc5.names.below hb6
            have NS : ∀ {w v}, Safe w F5 v keys → StrsAt w v keys := fun {w v} h => by
              rw [← HK.out] at h ⊢
              exact h.strs HNok.out
            have hsl := NS hs5
            rw [Hn.out] at hsl
            have qt := Lib.hid (Texts_any (NS hs6) hsl)
            clear Q m5 hc5 hs6 hs5 hsl
            go_wp2_with fail
            refine qt.out.mono ?_
            rintro e w7 ⟨rfl, hb7⟩
            have m7 := m6.below hb7
            clear m6 qt
            simp only [decide_true]
            go_wp2
            go_ret
            exact ⟨by simp, m7.bel⟩

theorem SimfsWhole_walk {H : Type} {enc : TypeId × Value → H} {d1 d2 : DataW H} {p1 p2 : List MemPlace} (sa1 : Option Addr) (sl1 sc1 : Nat) (sa2 : Option Addr) (sl2 sc2 : Nat) (W : World)
    (k1 : DataW.Trod enc Try.prog W 0 (fun _ => true) true 22 (.slice sa1 sl1 sc1) d1 p1) (k2 : DataW.Trod enc Try.prog W 0 (fun _ => true) true 23 (.slice sa2 sl2 sc2) d2 p2) :
    Calls Try.prog 5 #[.slice sa1 sl1 sc1, .slice sa2 sl2 sc2] W fun e w' => e = .returned (.bool true) ∧ Below W.heap.size W w' := by
  obtain ⟨_, k1⟩ := k1
  obtain ⟨_, k2⟩ := k2
  obtain ⟨l1, h1⟩ := acts_of_trod k1
  obtain ⟨ka, ha⟩ := keep_of_trod k2 ⟨_, _, _, rfl⟩
  exact SimfsWhole_acts h1 ha
end Go.Proofs.Ytphkmhajjnnbaaa
