/- The law SimfsRenames: the walk. -/
import Derived.Test.YtphkmhajjnnbaaaLawN
import Derived.Test.YtphkmhajjnnbaaaLawRb
namespace Go.Proofs.Ytphkmhajjnnbaaa
open Go.RowKit Go.Maps Go.WideMaps Go.ChangeShapes Go.WideShapes
attribute [local go_sem] bs_toList bs_size

set_option maxRecDepth 100000 in
set_option maxHeartbeats 8000000 in
theorem SimfsRenames_acts {W : World} {v1 : Value} {l1 : List ActD} (a b : List UInt8) (hal : a.length ≤ maxLen) (hbl : b.length ≤ maxLen) (h1 : ActsAt W v1 l1) :
    Calls Try.prog 7 #[v1, .string (bs a), .string (bs b)] W fun e w' => e = .returned (.bool true) ∧ Below W.heap.size W w' := by
  unfold maxLen at hal hbl
  have q0 := Lib.hid (works_any W)
  go_enter Try.func7, Try.ntmps7
  go_wp2_with fail
  refine q0.out.mono ?_
  rintro e w0 ⟨rfl, hb0⟩
  have qn := Lib.hid (New_any w0 10000)
  go_wp2_with fail
  refine qn.out.mono ?_
  rintro e w1 ⟨G, F1, rfl, hM, hT, hF⟩
  have m1 : Mach W w1 G (FsS.new 10000) F1 := ⟨hM, hb0.trans (hT.kept.below hb0.size (fun k hk => hk.elim)), fun k hk => Nat.le_trans hb0.size (hF k hk), new_ok 10000⟩
  have qf1 := Lib.hid (few_any (h1.below m1.bel))
  clear hM hT hF q0 qn hb0
  go_wp2_with fail
  refine qf1.out.mono ?_
  rintro e w2 ⟨b1, rfl, hb1, rfl⟩
  cases b1 with
  | false =>
    clear hb1
    go_wp2
    go_ret
    exact ⟨rfl, m1.bel⟩
  | true =>
    rcases (show (60 < (a.length : Int)) ∨ (a.length : Int) ≤ 60 by omega) with hA | hA
    · clear hb1
      go_wp2
      go_ret
      exact ⟨rfl, m1.bel⟩
    rcases (show (60 < (b.length : Int)) ∨ (b.length : Int) ≤ 60 by omega) with hB | hB
    · clear hb1
      have hA' : decide (60 < (a.length : Int)) = false := by simp; omega
      go_wp2
      go_ret
      exact ⟨rfl, m1.bel⟩
    have HB1 := Lib.hid (hb1 (by simp))
    clear hb1 qf1
    obtain ⟨sa1, sc1, rfl, hl1, hx1⟩ := h1
    have hn1 := HB1.out.1
    generalize hN1 : l1.length = n1 at *
    have HN1 := Lib.hid hN1
    have HX1 := Lib.hid hx1
    clear hN1 hx1 hl1
    have hA' : decide (60 < (a.length : Int)) = false := by simp; omega
    have hB' : decide (60 < (b.length : Int)) = false := by simp; omega
    go_wp2_with fail
    clear hA' hB'
    go_loopw [10] (fun i wr => ∃ (j : Nat) (S : FsS) (F : Nat → Prop), j ≤ n1 ∧ i = .int .i64 (j : Int) ∧ Mach W wr G S F ∧ S.steps ≤ j) (fun i _ => n1 - (intOf i).toNat)
    case atStart => exact ⟨0, _, F1, Nat.zero_le _, rfl, m1, Nat.le_refl _⟩
    clear m1
    obtain ⟨j, S, F, hj, rfl, m, hst⟩ := hrel
    rcases (show j < n1 ∨ j = n1 by omega) with hjn | rfl
    · have hjl : j < l1.length := by rw [HN1.out]; exact hjn
      obtain ⟨b, o, kv, rfl, ha⟩ := HX1.out j l1[j] (List.getElem?_eq_getElem hjl)
      have q := Lib.hid (m.act (by omega) ha (HB1.out.2 _ (List.getElem_mem hjl)))
      have d0 := (Below.cell m.bel (World.block_lt_of_cell? _ _ ha.cK)).trans ha.cK
      have d1 := (Below.cell m.bel (World.block_lt_of_cell? _ _ ha.cA)).trans ha.cA
      have d2 := (Below.cell m.bel (World.block_lt_of_cell? _ _ ha.cB)).trans ha.cB
      have d3 := (Below.cell m.bel (World.block_lt_of_cell? _ _ ha.cN)).trans ha.cN
      have d4 := (Below.cell m.bel (World.block_lt_of_cell? _ _ ha.cP)).trans ha.cP
      clear ha
      generalize l1[j] = a at *
      clear hjl
      go_wp2_with fail
      refine q.out.mono ?_
      rintro e wr' ⟨T, r, F', rfl, _, m', hst', _⟩
      clear m q
      go_wp2
      go_roundw
      case rel => exact ⟨j + 1, T, F', by omega, by go_num, m', by omega⟩
      case measure => simp [intOf]; omega
    · have hz := size_le m.ok (by omega)
      have q := Lib.hid (m.size (by omega))
      go_wp2_with fail
      refine q.out.mono ?_
      rintro e w2 ⟨rfl, m2, _⟩
      clear m q
      have q := Lib.hid (m2.read a (by omega))
      go_wp2_with fail
      refine q.out.mono ?_
      rintro e w3 ⟨rfl, rfl⟩
      clear q
      have q := Lib.hid (m2.read b (by omega))
      go_wp2_with fail
      refine q.out.mono ?_
      rintro e w3 ⟨rfl, rfl⟩
      clear q
      have q := Lib.hid (Fs_Rename_mem m2.mem m2.ok (by omega) a b (by omega) (by omega))
      go_wp2_with fail
      refine q.out.mono ?_
      intro e w4 hd
      obtain ⟨F4, m4⟩ := m2.did hd (m2.ok.rename a b)
      have hst4 : (S.rename a b).1.steps ≤ S.steps + 1 := ActStep.steps (S := S) (a := ⟨5, a, b, 0, []⟩) (.inr (.inr (.inr (.inr (.inr (.inl ⟨rfl, rfl⟩))))))
      obtain rfl := hd.form
      have hok := m2.ok
      clear hd q m2
      by_cases hr : (S.rename a b).2 = 0
      · obtain ⟨r1, r2, r3, r4⟩ := rename_done hok hr
        rw [hr]
        have q := m4.read b (by omega)
        rw [r1] at q
        have Q := Lib.hid q
        clear q
        have hrb : (S.read b).1.length ≤ 1099511627776 := by
          unfold FsS.read
          split
          · simp
          · rename_i g _
            have := (hok.files g).nw_le
            unfold bytesMost at this
            simp only
            omega
        have hqz := m4.size (by omega)
        have R3 := Lib.hid r3
        have R4 := Lib.hid r4
        clear r1 r3 r4 hok hst
        have hqa := m4.read a (by omega)
        generalize (S.rename a b).1 = T at *
        generalize (S.rename a b).2 = rr at *
        generalize hsa : (S.read a).1 = sa at *
        generalize hsb : (S.read b).1 = sb at *
        generalize hzz : S.size = z at *
        clear hsa hsb hzz
        go_wp2_with fail
        refine Q.out.mono ?_
        rintro e w5 ⟨rfl, rfl⟩
        by_cases hab : a = b
        · have hz2 := R3.out hab
          rw [hz2] at hqz
          have QZ := Lib.hid hqz
          have QA := Lib.hid hqa
          clear hqz hqa r2 hz2
          have e1 : (a == b) = true := by simpa using hab
          subst hab
          go_wp2_with fail
          refine QA.out.mono ?_
          rintro e w5 ⟨rfl, rfl⟩
          generalize (T.read a).1 = ta at *
          generalize (T.read a).2 = te at *
          go_wp2_with fail
          refine QZ.out.mono ?_
          rintro e w6 ⟨rfl, m6, _⟩
          go_wp2
          go_ret
          exact ⟨by simp, m6.bel⟩
        · have hz2 := R4.out hab
          have e1 : (a == b) = false := by simpa using hab
          rw [show (T.size : Int) = (z : Int) - sb.length by omega] at hqz
          rw [r2 hab] at hqa
          have QZ := Lib.hid hqz
          have QA := Lib.hid hqa
          clear hqz hqa r2
          go_wp2_with fail
          refine QA.out.mono ?_
          rintro e w5 ⟨rfl, rfl⟩
          go_wp2_with fail
          refine QZ.out.mono ?_
          rintro e w6 ⟨rfl, m6, _⟩
          go_wp2
          go_ret
          exact ⟨by simp, m6.bel⟩
      · have e1 : ((S.rename a b).2 == 0) = false := by simpa using hr
        have hq := m4.size (by omega)
        rw [rename_err hr] at hq
        have Q := Lib.hid hq
        clear hq
        generalize (S.rename a b).2 = rr at *
        go_wp2_with fail
        refine Q.out.mono ?_
        rintro e w5 ⟨rfl, m5, _⟩
        go_wp2
        go_ret
        exact ⟨by simp, m5.bel⟩

theorem SimfsRenames_walk {H : Type} {enc : TypeId × Value → H} {d1 : DataW H} {p1 : List MemPlace} (sa1 : Option Addr) (sl1 sc1 : Nat) (a b : List UInt8) (W : World)
    (k1 : DataW.Trod enc Try.prog W 0 (fun _ => true) true 22 (.slice sa1 sl1 sc1) d1 p1) (ha : a.length ≤ maxLen) (hb : b.length ≤ maxLen) :
    Calls Try.prog 7 #[.slice sa1 sl1 sc1, .string (bs a), .string (bs b)] W fun e w' => e = .returned (.bool true) ∧ Below W.heap.size W w' := by
  obtain ⟨_, k1⟩ := k1
  obtain ⟨l1, h1⟩ := acts_of_trod k1
  exact SimfsRenames_acts a b ha hb h1
end Go.Proofs.Ytphkmhajjnnbaaa
