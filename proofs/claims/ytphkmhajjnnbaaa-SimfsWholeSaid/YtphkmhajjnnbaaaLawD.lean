/- The law SimfsDead. -/
import Derived.Test.YtphkmhajjnnbaaaSimZ
namespace Go.Proofs.Ytphkmhajjnnbaaa
open Go.RowKit Go.Maps Go.WideMaps Go.ChangeShapes Go.WideShapes
attribute [local go_sem] bs_toList bs_size

/-- On a dead machine nothing is done. -/
theorem ActStep.dead {S : FsS} {a : ActD} {x : FsS × Int} (h : ActStep S a x) (hd : S.dead = true) (h9 : a.K ≠ 9) : x.1.dead = true ∧ x.1.steps = S.steps ∧ x.1.names = S.names ∧ (0 ≤ a.K → a.K ≤ 6 → x.2 = 13) := by
  have ho : ∀ l, S.of l = .inr 13 := fun l => by unfold FsS.of; rw [if_pos hd]
  rcases h with ⟨h, g, hg, rfl⟩ | ⟨h, rfl⟩ | ⟨h, rfl⟩ | ⟨h, rfl⟩ | ⟨h, rfl⟩ | ⟨h, rfl⟩ | ⟨h, rfl⟩ | ⟨h, rfl⟩ | ⟨h, rfl⟩ | ⟨h, rfl⟩ | ⟨h, rfl⟩
  · simp [FsS.create, hd]
  · simp [FsS.append, ho, hd]
  · simp [FsS.cut, ho, hd]
  · simp [FsS.sync, ho, hd]
  · simp [FsS.syncDir, hd]
  · simp [FsS.rename, ho, hd]
  · simp [FsS.remove, ho, hd]
  · exact ⟨hd, rfl, rfl, fun h1 h2 => by omega⟩
  · exact ⟨hd, rfl, rfl, fun h1 h2 => by omega⟩
  · exact absurd h h9
  · exact ⟨hd, rfl, rfl, fun h1 h2 => by omega⟩

/-- What an act does in the midst of a law. -/
theorem Mach.act {W w : World} {G : Nat} {S : FsS} {F : Nat → Prop} (m : Mach W w G S F) (hs : S.steps ≤ 500000) {a : ActD} {b o : Nat} {kv : Value} (ha : ActAt W b o a kv) (hsm : a.small) :
    Calls Try.prog 11 #[.pointer (some ⟨G, 0, none⟩), .agg #[.int .i64 a.K, .string (bs a.A), .string (bs a.B), .int .i64 a.N, kv]] w fun e w' => ∃ T r F', e = .returned (.int .i64 r) ∧ ActStep S a (T, r) ∧ Mach W w' G T F' ∧ T.steps ≤ S.steps + 1 ∧ Turn w w' F F' := by
  refine (act_any m.mem m.ok hs hsm fun w' F' ht => ha.keep.below (m.bel.trans (ht.kept.below m.bel.size m.base))).mono ?_
  rintro e w' ⟨T, r, F', rfl, h1, h2, h3⟩
  exact ⟨T, r, F', rfl, h1, m.turn h2 h3 (h1.ok m.ok hsm), h1.steps, h3⟩

/-- A list that is kept while a machine turns. -/
def Safe (w : World) (F : Nat → Prop) (v : Value) (l : List (List UInt8)) : Prop := (∃ base, TextsAt w base v l) ∧ ∀ k, v.ownBlock = some k → ¬ F k
theorem Safe.turn {w w' : World} {F F' : Nat → Prop} {v : Value} {l : List (List UInt8)} (h : Safe w F v l) (ht : Turn w w' F F') : Safe w' F' v l := by
  obtain ⟨⟨base, h1⟩, h2⟩ := h
  refine ⟨⟨base, h1.turn ht h2⟩, fun k hk hF => ?_⟩
  have := tag_lt (tag_row h1.1 hk)
  rcases ht.grow k hF with e | e
  · exact h2 k hk e
  · omega
theorem Safe.below {w w' : World} {F : Nat → Prop} {v : Value} {l : List (List UInt8)} (h : Safe w F v l) (hb : Below w.heap.size w w') : Safe w' F v l := h.turn (Turn.of_below hb)
theorem Safe.strs {w : World} {F : Nat → Prop} {v : Value} {N : Nm} (h : Safe w F v N.keys) (hN : N.ok) : StrsAt w v N.keys := by
  obtain ⟨⟨base, h1⟩, _⟩ := h
  exact h1.strs fun x hx => by
    obtain ⟨p, hp, rfl⟩ := List.mem_map.1 hx
    have := hN.3 p hp
    unfold maxLen
    omega
theorem Safe.len {w : World} {F : Nat → Prop} {v : Value} {l : List (List UInt8)} (h : Safe w F v l) : ∃ a c, v = .slice a l.length c := by
  obtain ⟨⟨base, h1⟩, _⟩ := h
  obtain ⟨a, c, e, _⟩ := h1.form
  exact ⟨a, c, e⟩
theorem Mach.list {W w : World} {G : Nat} {S : FsS} {F : Nat → Prop} (m : Mach W w G S F) :
    Calls Try.prog 13 #[.pointer (some ⟨G, 0, none⟩)] w fun e w' => ∃ v, e = .returned v ∧ Safe w' F v S.names.keys ∧ Mach W w' G S F ∧ Below w.heap.size w w' := by
  refine (Fs_List_mem m.mem m.ok).mono ?_
  rintro e w' ⟨⟨v, rfl, hT⟩, hb⟩
  obtain ⟨_, _, _, hbase, _⟩ := hT.form
  exact ⟨v, rfl, ⟨⟨_, hT⟩, fun k hk hF => by have := m.mem.lt k hF; have := hbase k hk; omega⟩, m.below hb, hb⟩

set_option maxRecDepth 100000 in
set_option maxHeartbeats 4000000 in
theorem SimfsDead_acts {W : World} {v1 v2 : Value} {l1 l2 : List ActD} (h1 : ActsAt W v1 l1) (h2 : ActsAt W v2 l2) :
    Calls Try.prog 6 #[v1, v2] W fun e w' => e = .returned (.bool true) ∧ Below W.heap.size W w' := by
  have q0 := Lib.hid (works_any W)
  go_enter Try.func6, Try.ntmps6
  go_wp2_with fail
  refine q0.out.mono ?_
  rintro e w0 ⟨rfl, hb0⟩
  have qn := Lib.hid (New_any w0 10000)
  go_wp2_with fail
  refine qn.out.mono ?_
  rintro e w1 ⟨G, F1, rfl, hM, hT, hF⟩
  have m1 : Mach W w1 G (FsS.new 10000) F1 := ⟨hM, hb0.trans (hT.kept.below hb0.size (fun k hk => hk.elim)), fun k hk => Nat.le_trans hb0.size (hF k hk), new_ok 10000⟩
  have qf1 := Lib.hid (few_any (h1.below m1.bel))
  have qf2 := Lib.hid (few_any (h2.below m1.bel))
  clear hM hT hF q0 qn hb0
  go_wp2_with fail
  refine qf1.out.mono ?_
  rintro e w2 ⟨b1, rfl, hb1, rfl⟩
  cases b1 with
  | false =>
    clear hb1
    go_wp2
    go_ret
    exact ⟨rfl, m1.bel⟩
  | true =>
    go_wp2_with fail
    refine qf2.out.mono ?_
    rintro e w2 ⟨b2, rfl, hb2, rfl⟩
    cases b2 with
    | false =>
      clear hb1 hb2
      go_wp2
      go_ret
      exact ⟨rfl, m1.bel⟩
    | true =>
      have HB1 := Lib.hid (hb1 (by simp))
      have HB2 := Lib.hid (hb2 (by simp))
      clear hb1 hb2 qf1 qf2
      obtain ⟨sa1, sc1, rfl, hl1, hx1⟩ := h1
      obtain ⟨sa2, sc2, rfl, hl2, hx2⟩ := h2
      have hn1 := HB1.out.1
      have hn2 := HB2.out.1
      generalize hN1 : l1.length = n1 at *
      generalize hN2 : l2.length = n2 at *
      have HN1 := Lib.hid hN1
      have HN2 := Lib.hid hN2
      have HX1 := Lib.hid hx1
      have HX2 := Lib.hid hx2
      clear hN1 hN2 hx1 hx2 hl1 hl2
      go_wp2_with fail
      go_loopw [8] (fun i wr => ∃ (j : Nat) (S : FsS) (F : Nat → Prop), j ≤ n1 ∧ i = .int .i64 (j : Int) ∧ Mach W wr G S F ∧ S.steps ≤ j) (fun i _ => n1 - (intOf i).toNat)
      case atStart => exact ⟨0, _, F1, Nat.zero_le _, rfl, m1, Nat.le_refl _⟩
      case round =>
        clear m1
        obtain ⟨j, S, F, hj, rfl, m, hst⟩ := hrel
        by_cases hjn : j < n1
        · have hjl : j < l1.length := by rw [HN1.out]; exact hjn
          obtain ⟨b, o, kv, rfl, ha⟩ := HX1.out j l1[j] (List.getElem?_eq_getElem hjl)
          have q := Lib.hid (m.act (by omega) ha (HB1.out.2 _ (List.getElem_mem hjl)))
          have d0 := (Below.cell m.bel (World.block_lt_of_cell? _ _ ha.cK)).trans ha.cK
          have d1 := (Below.cell m.bel (World.block_lt_of_cell? _ _ ha.cA)).trans ha.cA
          have d2 := (Below.cell m.bel (World.block_lt_of_cell? _ _ ha.cB)).trans ha.cB
          have d3 := (Below.cell m.bel (World.block_lt_of_cell? _ _ ha.cN)).trans ha.cN
          have d4 := (Below.cell m.bel (World.block_lt_of_cell? _ _ ha.cP)).trans ha.cP
          clear ha
          generalize l1[j] = a at *
          clear hjl
          go_wp2_with fail
          refine q.out.mono ?_
          rintro e wr' ⟨T, r, F', rfl, _, m', hst', _⟩
          clear m q
          go_wp2
          go_roundw
          case rel => exact ⟨j + 1, T, F', by omega, by go_num, m', by omega⟩
          case measure => simp [intOf]; omega
        · obtain rfl : j = n1 := by omega
          have q := Lib.hid (Fs_Fuse_mem m.mem 0)
          go_wp2_with fail
          refine q.out.mono ?_
          rintro e w3 ⟨rfl, hM, hT⟩
          have m3 := m.turn hM hT (m.ok.setFuse 0)
          clear m hM hT q
          have q := Lib.hid (Fs_SyncDir_mem m3.mem m3.ok (by show S.steps ≤ _; omega))
          go_wp2_with fail
          refine q.out.mono ?_
          intro e w4 hd
          obtain ⟨F4, m4⟩ := m3.did hd m3.ok.syncDir
          have hdead : (S.setFuse 0).syncDir.1.dead = true := by
            unfold FsS.syncDir
            cases h : (S.setFuse 0).dead with
            | true => simpa using h
            | false =>
              have hf : (S.setFuse 0).fuse = 0 := rfl
              simp [FsS.step, hf, FsS.die]
          have hst4 : (S.setFuse 0).syncDir.1.steps ≤ S.steps + 1 := ActStep.steps (S := S.setFuse 0) (a := ⟨4, [], [], 0, []⟩) (.inr (.inr (.inr (.inr (.inl ⟨rfl, rfl⟩)))))
          obtain rfl := hd.form
          clear hd q m3
          generalize (S.setFuse 0).syncDir.1 = S4 at *
          generalize (S.setFuse 0).syncDir.2 = r4 at *
          have q := Lib.hid (Fs_Steps_mem m4.mem)
          go_wp2_with fail
          refine q.out.mono ?_
          rintro e w5 ⟨rfl, rfl⟩
          clear q
          have q := Lib.hid m4.list
          go_wp2_with fail
          refine q.out.mono ?_
          rintro e w5 ⟨lv, rfl, hsafe, m5, _⟩
          clear q m4
          have hN4 := m5.ok.names
          obtain ⟨la, lc, rfl⟩ := hsafe.len
          generalize hD : S4.names = D at *
          generalize hZ : S4.steps = Z at *
          have HD0 := Lib.hid hD
          have HZ0 := Lib.hid hZ
          have HDD := Lib.hid hdead
          clear hD hZ hdead
          go_wp2_with fail
          go_loopw [11] (fun i wr => ∃ (k : Nat) (T : FsS) (F : Nat → Prop), k ≤ n2 ∧ i = .int .i64 (k : Int) ∧ Mach W wr G T F ∧ T.steps = Z ∧ T.names = D ∧ T.dead = true ∧ Safe wr F (.slice la D.keys.length lc) D.keys) (fun i _ => n2 - (intOf i).toNat)
          case atStart => exact ⟨0, S4, F4, Nat.zero_le _, rfl, m5, HZ0.out, HD0.out, HDD.out, hsafe⟩
          case round =>
            clear m5 hsafe
            obtain ⟨k, T, F, hk, rfl, m, hTs, hTn, hTd, hsafe⟩ := hrel
            have HTs := Lib.hid hTs
            have HTn := Lib.hid hTn
            have HTd := Lib.hid hTd
            have hTst : T.steps ≤ 100 := by omega
            clear hTs hTn hTd
            by_cases hkn : k < n2
            · have hkl : k < l2.length := by rw [HN2.out]; exact hkn
              obtain ⟨b, o, kv, rfl, ha⟩ := HX2.out k l2[k] (List.getElem?_eq_getElem hkl)
              have q := Lib.hid (m.act (by omega) ha (HB2.out.2 _ (List.getElem_mem hkl)))
              have d0 := (Below.cell m.bel (World.block_lt_of_cell? _ _ ha.cK)).trans ha.cK
              have d1 := (Below.cell m.bel (World.block_lt_of_cell? _ _ ha.cA)).trans ha.cA
              have d2 := (Below.cell m.bel (World.block_lt_of_cell? _ _ ha.cB)).trans ha.cB
              have d3 := (Below.cell m.bel (World.block_lt_of_cell? _ _ ha.cN)).trans ha.cN
              have d4 := (Below.cell m.bel (World.block_lt_of_cell? _ _ ha.cP)).trans ha.cP
              generalize l2[k] = a at *
              by_cases h9 : a.K = 9
              · rw [h9] at d0
                clear q ha
                go_wp2
                go_roundw
                case rel => exact ⟨k + 1, T, F, by omega, by go_num, m, HTs.out, HTn.out, HTd.out, hsafe⟩
                case measure => simp [intOf]; omega
              · have e9 : (a.K == 9) = false := by simpa using h9
                go_wp2_with fail
                refine q.out.mono ?_
                rintro e wr' ⟨T', r, F', rfl, hact, m', _, hT'⟩
                obtain ⟨x1, x2, x3, x4⟩ := hact.dead HTd.out h9
                simp only at x1 x2 x3 x4
                have X1 := Lib.hid x1
                have X2 := Lib.hid (x2.trans HTs.out)
                have X3 := Lib.hid (x3.trans HTn.out)
                have hs' := hsafe.turn hT'
                have dK : wr'.cell? ⟨b, o + k * 5, none⟩ = some (.int .i64 a.K) := (Below.cell m'.bel (World.block_lt_of_cell? _ _ ha.cK)).trans ha.cK
                clear m q d0 d1 d2 d3 d4 ha hsafe hact x1 x2 x3
                have qd := Fs_Dead_mem m'.mem
                rw [X1.out] at qd
                have QD := Lib.hid qd
                clear qd
                rcases (show a.K < 0 ∨ (0 ≤ a.K ∧ a.K ≤ 6) ∨ (0 ≤ a.K ∧ 6 < a.K) by omega) with hc | ⟨hc0, hc⟩ | ⟨hc0, hc⟩
                · clear x4
                  go_wp2_with fail
                  refine QD.out.mono ?_
                  rintro e w6 ⟨rfl, rfl⟩
                  go_wp2
                  go_roundw
                  case rel => exact ⟨k + 1, T', F', by omega, by go_num, m', X2.out, X3.out, X1.out, hs'⟩
                  case measure => simp [intOf]; omega
                · obtain rfl := x4 hc0 hc
                  clear x4
                  go_wp2_with fail
                  refine QD.out.mono ?_
                  rintro e w6 ⟨rfl, rfl⟩
                  go_wp2
                  go_roundw
                  case rel => exact ⟨k + 1, T', F', by omega, by go_num, m', X2.out, X3.out, X1.out, hs'⟩
                  case measure => simp [intOf]; omega
                · clear x4
                  go_wp2_with fail
                  refine QD.out.mono ?_
                  rintro e w6 ⟨rfl, rfl⟩
                  go_wp2
                  go_roundw
                  case rel => exact ⟨k + 1, T', F', by omega, by go_num, m', X2.out, X3.out, X1.out, hs'⟩
                  case measure => simp [intOf]; omega
            · obtain rfl : k = n2 := by omega
              have q := Fs_Steps_mem m.mem
              rw [HTs.out] at q
              have Q := Lib.hid q
              clear q
              go_wp2_with fail
              refine Q.out.mono ?_
              rintro e w6 ⟨rfl, rfl⟩
              have q := m.list
              rw [HTn.out] at q
              have Q := Lib.hid q
              clear q
              go_wp2_with fail
              refine Q.out.mono ?_
              rintro e w6 ⟨lv, rfl, hs2, m6, hb6⟩
              have qt := Lib.hid (Texts_any (hs2.strs hN4) ((hsafe.below hb6).strs hN4))
              clear m hsafe Q
              go_wp2_with fail
              refine qt.out.mono ?_
              rintro e w7 ⟨rfl, hb7⟩
              have m7 := m6.below hb7
              clear m6 hs2 hb7 qt
              simp only [decide_true]
              have q := Lib.hid (Fs_Crash_mem (v := .slice none 0 0) (ks := []) m7.mem m7.ok (by omega) fun w' F' _ => nil_keep w')
              go_wp2_with fail
              refine q.out.mono ?_
              rintro e w8 ⟨rfl, F8, hM, hT⟩
              have m8 := m7.turn hM hT (m7.ok.crash [])
              clear m7 hM hT q
              have q := Fs_Dead_mem m8.mem
              rw [show (T.crash []).dead = false from rfl] at q
              have Q := Lib.hid q
              clear q
              go_wp2_with fail
              refine Q.out.mono ?_
              rintro e w9 ⟨rfl, rfl⟩
              go_wp2
              go_ret
              exact ⟨rfl, m8.bel⟩

theorem SimfsDead_walk {H : Type} {enc : TypeId × Value → H} {d0 d1 : DataW H} {p0 p1 : List MemPlace} (sa0 : Option Addr) (sl0 sc0 : Nat) (sa1 : Option Addr) (sl1 sc1 : Nat) (W : World)
    (k0 : DataW.Trod enc Try.prog W 0 (fun _ => true) true 22 (.slice sa0 sl0 sc0) d0 p0) (k1 : DataW.Trod enc Try.prog W 0 (fun _ => true) true 22 (.slice sa1 sl1 sc1) d1 p1) :
    Calls Try.prog 6 #[.slice sa0 sl0 sc0, .slice sa1 sl1 sc1] W fun e w' => e = .returned (.bool true) ∧ Below W.heap.size W w' := by
  obtain ⟨_, k0⟩ := k0
  obtain ⟨_, k1⟩ := k1
  obtain ⟨l1, h1⟩ := acts_of_trod k0
  obtain ⟨l2, h2⟩ := acts_of_trod k1
  exact SimfsDead_acts h1 h2
end Go.Proofs.Ytphkmhajjnnbaaa
