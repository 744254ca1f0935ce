/- The law DiskWhole: the walk. -/
import Derived.Test.YtocfaffiifhggaaDskU
import Derived.Test.YtocfaffiifhggaaLexn
import Derived.Test.YtocfaffiifhggaaLexh
namespace Go.Proofs.Ytocfaffiifhggaa
open Go.RowKit Go.Maps Go.WideMaps Go.WideShapes Go.Deep
attribute [local go_sem] bs_toList bs_size

section
variable {W w : World} {G : Nat} {S : FsS} {F : Nat → Prop} {N : Nm} {fl : Nat → Fl} {f : Int} {st : Nat}
theorem Mach.fuse (m : Mach W w G S F) (n : Int) :
    Calls Try.prog 21 #[.pointer (some ⟨G, 0, none⟩), .int .i64 n] w fun e w' => e = .returned (.tuple #[]) ∧ Mach W w' G (S.setFuse n) F := by
  refine (Fs_Fuse_mem m.mem n).mono ?_
  rintro e w' ⟨rfl, hM, hT⟩
  exact ⟨rfl, m.turn hM hT (m.ok.setFuse n)⟩
/-- Saved to no name. -/
theorem Mach.nosave (m : Mach W w G ⟨N, N, [], fl, 5000, st, -1, false⟩ F) (b : List UInt8) (hs : st + 20 ≤ 500000) (hb : b.length ≤ 300) (ht : N.at (tmpB ++ []) = none) (hn : N.length < 64) (hroom : sizeIn fl N ≤ 1500) :
    Calls Try.prog 15 #[.pointer (some ⟨G, 0, none⟩), .string (bs []), .string (bs b)] w fun e w' => e = .returned (.int .i64 1) ∧ Below W.heap.size W w' := by
  refine (m.save [] b hs (by simp) (by omega)).mono ?_
  rintro e w' ⟨g, F', hg, rfl, m', hT⟩
  rw [pre_none ht] at hg
  rw [save_noname m.ok.names (by decide) (by simp) ht hn hg.2 (show (sizeIn fl N : Int) + b.length ≤ 5000 by omega)]
  exact ⟨rfl, m'.bel⟩
/-- What is there behind a save that may have died, and a crash. -/
structure Wholly (N : Nm) (fl : Nat → Fl) (x b old : List UInt8) (T : FsS) (r : Int) : Prop where
  dead : r = 13 ∧ T.dead = true ∨ r = 0 ∧ T.dead = false
  this : ∀ ks, (T.crash ks).names.ok → ∃ s, (T.crash ks).read x = (s, 0) ∧ (s = b ∨ s = old ∧ T.dead = true)
  others : ∀ ks, (T.crash ks).names.ok → ∀ y k, y ≠ x → y ≠ tmpB ++ x → N.at y = some k → (T.crash ks).read y = ((fl k).nw, 0)
  again : ∀ ks, (T.crash ks).names.ok → ∀ g2, (preSave (T.crash ks) (tmpB ++ x)).1.fresh g2 → ((T.crash ks).save x b g2).2 = 0 ∧ ((T.crash ks).save x b g2).1.read x = (b, 0)
theorem Mach.wholly {x b : List UInt8} {g0 : Nat} (m : Mach W w G ⟨N, N, [], fl, 5000, st, f, false⟩ F) (hs : st + 20 ≤ 500000) (hb : b.length ≤ 300) (hr : rightN x = true) (hl : x.length ≤ 36) (ht : N.at (tmpB ++ x) = none) (hn : N.length < 60) (hst : ∀ k ∈ N.ids, (fl k).still) (hroom : sizeIn fl N ≤ 1500) (h0 : N.at x = some g0) :
    Calls Try.prog 15 #[.pointer (some ⟨G, 0, none⟩), .string (bs x), .string (bs b)] w fun e w' => ∃ r T F', e = .returned (.int .i64 r) ∧ Mach W w' G T F' ∧ T.steps ≤ st + 10 ∧ Wholly N fl x b (fl g0).nw T r := by
  refine (m.save x b hs (by omega) (by omega)).mono ?_
  rintro e w' ⟨g, F', hg, rfl, m', hT⟩
  have hstp := save_steps (b := b) hg
  rw [pre_none ht] at hg
  have hq := fun ks hM => whole_crash (ks := ks) (b := b) (P := FsS.save ⟨N, N, [], fl, 5000, st, f, false⟩ x b g) rfl m.ok.names hM hr hl ht hn hst hg.2 (fresh_ids hg) (by omega) h0
  generalize FsS.save ⟨N, N, [], fl, 5000, st, f, false⟩ x b g = P at *
  obtain ⟨T, r⟩ := P
  simp only at hstp hq m' ⊢
  exact ⟨r, T, F', rfl, m', hstp, (hq [] (m'.ok.crash []).names).1, fun ks hM => (hq ks hM).2.1, fun ks hM => (hq ks hM).2.2.1, fun ks hM => (hq ks hM).2.2.2⟩
theorem Mach.again {T : FsS} {x b : List UInt8} (m : Mach W w G T F) (hs : T.steps + 20 ≤ 500000) (hx : x.length ≤ 36) (hb : b.length ≤ 300) (ha : ∀ g2, (preSave T (tmpB ++ x)).1.fresh g2 → (T.save x b g2).2 = 0 ∧ (T.save x b g2).1.read x = (b, 0)) :
    Calls Try.prog 15 #[.pointer (some ⟨G, 0, none⟩), .string (bs x), .string (bs b)] w fun e w' => ∃ T' F', e = .returned (.int .i64 0) ∧ Mach W w' G T' F' ∧ T'.read x = (b, 0) := by
  refine (m.save x b hs (by omega) (by omega)).mono ?_
  rintro e w' ⟨g, F', hg, rfl, m', hT⟩
  obtain ⟨h1, h2⟩ := ha g hg
  exact ⟨_, F', by rw [h1], m', h2⟩
end

set_option maxRecDepth 100000 in
set_option maxHeartbeats 8000000 in
theorem DiskWhole_lists {W : World} {lv ov kv : Value} {l o : List (List UInt8)} {b : List UInt8} {fuse : Int} {ks : List Int} (hl : StrsAt W lv l) (ho : StrsAt W ov o) (hmb : b.length ≤ maxLen) (h : KeepAt W kv ks) :
    Calls Try.prog 7 #[lv, ov, .string (bs b), .int .i64 fuse, kv] W fun e w' => e = .returned (.bool true) ∧ Below W.heap.size W w' := by
  obtain ⟨sal, scl, rfl, hll, hlx⟩ := hl
  obtain ⟨sao, sco, rfl, hol, hox⟩ := ho
  obtain ⟨sak, sck, rfl, hkl, _⟩ := id h
  unfold maxLen at hll hol hkl hmb
  have q0 := Lib.hid (works_any W)
  go_enter Try.func7, Try.ntmps7
  go_wp2_with fail
  refine q0.out.mono ?_
  rintro e w0 ⟨rfl, hbw⟩
  have qn := Lib.hid (New_any w0 5000)
  go_wp2_with fail
  refine qn.out.mono ?_
  rintro e w1 ⟨G, F1, rfl, hM, hT, hF⟩
  have m1 : Mach W w1 G ⟨[], [], [], fun _ => Fl.new, 5000, 0, -1, false⟩ F1 := ⟨hM, hbw.trans (hT.kept.below hbw.size (fun k hk => hk.elim)), fun k hk => Nat.le_trans hbw.size (hF k hk), new_ok 5000⟩
  clear hM hT hF q0 qn hbw
  by_cases h1 : 5 < l.length
  · go_wp2
    go_ret
    exact ⟨rfl, m1.bel⟩
  by_cases h2 : o.length = l.length
  case neg =>
    go_wp2
    go_ret
    exact ⟨rfl, m1.bel⟩
  rw [h2]
  generalize hn : l.length = n at *
  by_cases h3 : n = 0
  · subst h3
    go_wp2
    go_ret
    exact ⟨rfl, m1.bel⟩
  have hn0 : ((n : Int) == 0) = false := by simpa using h3
  by_cases h4 : 300 < b.length
  · go_wp2
    go_ret
    exact ⟨rfl, m1.bel⟩
  by_cases h5 : 20 < ks.length
  · go_wp2
    go_ret
    exact ⟨rfl, m1.bel⟩
  have HL := Lib.hid hlx
  have HBX := Lib.hid hox
  have HN := Lib.hid hn
  have HN2 := Lib.hid h2
  have HK := Lib.hid h
  clear hlx hox hn h2 h
  go_wp2_with fail
  go_loopw [13] (fun i wr => ∃ (j : Nat) (N : Nm) (fl : Nat → Fl) (F : Nat → Prop), j ≤ n ∧ i = .int .i64 (j : Int) ∧ Mach W wr G ⟨N, N, [], fl, 5000, 5 * j, -1, false⟩ F ∧ WholeI l o j N fl) (fun i _ => n - (intOf i).toNat)
  case atStart => exact ⟨0, [], _, F1, Nat.zero_le _, rfl, m1, WholeI.start⟩
  clear m1
  obtain ⟨j, N, fl, F, hj, rfl, m, hI⟩ := hrel
  rcases (show j < n ∨ j = n by omega) with hjn | rfl
  · obtain ⟨b1, o1, rfl, d1, e1⟩ := HL.out j (l.getD j []) (by rw [List.getD_eq_getElem?_getD, List.getElem?_eq_getElem (by rw [HN.out]; exact hjn)]; rfl)
    obtain ⟨b2, o2, rfl, d2, e2⟩ := HBX.out j (o.getD j []) (by rw [List.getD_eq_getElem?_getD, List.getElem?_eq_getElem (by rw [HN2.out]; exact hjn)]; rfl)
    have g1 := (Below.cell m.bel (World.block_lt_of_cell? _ _ d1)).trans d1
    have g2 := (Below.cell m.bel (World.block_lt_of_cell? _ _ d2)).trans d2
    unfold maxLen at e1 e2
    have k1 := grow_cell g1
    have k2 := grow_cell g2
    have HX := Lib.hid (Eq.refl (l.getD j []))
    have HY := Lib.hid (Eq.refl (o.getD j []))
    generalize hx : l.getD j [] = x at g1 k1 e1 d1 HX
    generalize hy : o.getD j [] = y at g2 k2 e2 d2 HY
    have HD1 := Lib.hid d1
    have HD2 := Lib.hid d2
    clear d1 d2
    have hx' := Lib.hid hx
    have hy' := Lib.hid hy
    clear hx hy HX HY
    by_cases c1 : 36 < x.length
    · go_wp2
      go_ret
      exact ⟨rfl, m.bel⟩
    by_cases c2 : 300 < y.length
    · go_wp2
      go_ret
      exact ⟨rfl, m.bel⟩
    have m5 := m
    clear k1 k2
    go_wp2_with fail
    clear m g1 g2
    go_loopw [14] (fun i wr => ∃ c : Nat, c ≤ j ∧ i = .int .i64 (c : Int) ∧ Mach W wr G ⟨N, N, [], fl, 5000, 5 * j, -1, false⟩ F ∧ ∀ a, a < c → l.getD a [] ≠ x ∧ l.getD a [] ≠ tmpB ++ x ∧ tmpB ++ l.getD a [] ≠ x) (fun i _ => j - (intOf i).toNat)
    case atStart => exact ⟨0, Nat.zero_le _, rfl, m5, fun a ha => by omega⟩
    clear m5
    obtain ⟨c, hc, rfl, m, hap⟩ := hrel
    have g1 := (Below.cell m.bel (World.block_lt_of_cell? _ _ HD1.out)).trans HD1.out
    have k1 := grow_cell g1
    rcases (show c < j ∨ c = j by omega) with hcj | rfl
    · obtain ⟨b3, o3, hp3, d3, e3⟩ := HL.out c (l.getD c []) (by rw [List.getD_eq_getElem?_getD, List.getElem?_eq_getElem (by rw [HN.out]; omega)]; rfl)
      cases hp3
      have g3 := (Below.cell m.bel (World.block_lt_of_cell? _ _ d3)).trans d3
      have k3 := grow_cell g3
      have hzl := (hI.right c hcj).2
      have hap' : l.getD c [] ≠ x → l.getD c [] ≠ tmpB ++ x → tmpB ++ l.getD c [] ≠ x → ∀ a, a < c + 1 → l.getD a [] ≠ x ∧ l.getD a [] ≠ tmpB ++ x ∧ tmpB ++ l.getD a [] ≠ x := fun h1 h2 h3 a ha => by
        by_cases e : a = c
        · subst e
          exact ⟨h1, h2, h3⟩
        · exact hap a (by omega)
      have HAP := Lib.hid hap'
      clear hap hap' d3 e3
      generalize l.getD c [] = z at *
      have hx1 : ∀ W, (Op.stringOp .add (⟨#[116, 109, 112, 45]⟩ : ByteArray) (bs x)).run Try.prog W = .ok (.string (bs (tmpB ++ x))) W := fun W => run_add_bs (P := Try.prog) tmpB x (by simp [tmpB]; omega) W
      have hz1 : ∀ W, (Op.stringOp .add (⟨#[116, 109, 112, 45]⟩ : ByteArray) (bs z)).run Try.prog W = .ok (.string (bs (tmpB ++ z))) W := fun W => run_add_bs (P := Try.prog) tmpB z (by simp [tmpB]; omega) W
      by_cases t1 : z = x
      · have t1' : (z == x) = true := by simpa using t1
        go_wp2_with fail
        refine wp_region_at (R := GrowR) (by kernel_rfl) (by kernel_rfl) ?_
        (refine lex_one (by kernel_rfl) (by kernel_rfl) (by kernel_rfl) (fun K hK => ?_); go_big_quiet_step (fail); refine wpQuiet_nil (hK _ ?_); clear hK K); (refine lex_one (by kernel_rfl) (by kernel_rfl) (by kernel_rfl) (fun K hK => ?_); go_big_quiet_step (fail); refine wpQuiet_nil (hK _ ?_); clear hK K); (refine lex_one (by kernel_rfl) (by kernel_rfl) (by kernel_rfl) (fun K hK => ?_); go_big_quiet_step (fail); refine wpQuiet_nil (hK _ ?_); clear hK K); (refine lex_one (by kernel_rfl) (by kernel_rfl) (by kernel_rfl) (fun K hK => ?_); go_big_quiet_step (fail); refine wpQuiet_nil (hK _ ?_); clear hK K); (refine lex_one (by kernel_rfl) (by kernel_rfl) (by kernel_rfl) (fun K hK => ?_); go_big_quiet_step (fail); refine wpQuiet_nil (hK _ ?_); clear hK K); (refine lex_one (by kernel_rfl) (by kernel_rfl) (by kernel_rfl) (fun K hK => ?_); go_big_quiet_step (fail); refine wpQuiet_nil (hK _ ?_); clear hK K); (refine lex_one (by kernel_rfl) (by kernel_rfl) (by kernel_rfl) (fun K hK => ?_); go_big_quiet_step (fail); refine wpQuiet_nil (hK _ ?_); clear hK K); (refine lex_one (by kernel_rfl) (by kernel_rfl) (by kernel_rfl) (fun K hK => ?_); go_big_quiet_step (fail); refine wpQuiet_nil (hK _ ?_); clear hK K); (refine lex_one (by kernel_rfl) (by kernel_rfl) (by kernel_rfl) (fun K hK => ?_); go_big_quiet_step (fail); refine wpQuiet_nil (hK _ ?_); clear hK K); (refine lex_one (by kernel_rfl) (by kernel_rfl) (by kernel_rfl) (fun K hK => ?_); go_big_quiet_step (fail); refine wpQuiet_nil (hK _ ?_); clear hK K); (refine lex_none (by kernel_rfl) (by kernel_rfl) (by kernel_rfl) (fun K hK => ?_); go_big_quiet_step (fail); refine wpQuiet_nil (hK _ ?_); clear hK K); (refine lex_none (by kernel_rfl) (by kernel_rfl) (by kernel_rfl) (fun K hK => ?_); go_big_quiet_step (fail); refine wpQuiet_nil (hK _ ?_); clear hK K); (refine lex_none (by kernel_rfl) (by kernel_rfl) (by kernel_rfl) (fun K hK => ?_); go_big_quiet_step (fail); refine wpQuiet_nil (hK _ ?_); clear hK K); (refine lex_none (by kernel_rfl) (by kernel_rfl) (by kernel_rfl) (fun K hK => ?_); go_big_quiet_step (fail); refine wpQuiet_nil (hK _ ?_); clear hK K); (refine lex_none (by kernel_rfl) (by kernel_rfl) (by kernel_rfl) (fun K hK => ?_); go_big_quiet_step (fail); refine wpQuiet_nil (hK _ ?_); clear hK K); (refine lex_none (by kernel_rfl) (by kernel_rfl) (by kernel_rfl) (fun K hK => ?_); go_big_quiet_step (fail); refine wpQuiet_nil (hK _ ?_); clear hK K); (refine lex_none (by kernel_rfl) (by kernel_rfl) (by kernel_rfl) (fun K hK => ?_); go_big_quiet_step (fail); refine wpQuiet_nil (hK _ ?_); clear hK K); (refine lex_none (by kernel_rfl) (by kernel_rfl) (by kernel_rfl) (fun K hK => ?_); go_big_quiet_step (fail); refine wpQuiet_nil (hK _ ?_); clear hK K); (refine lex_none (by kernel_rfl) (by kernel_rfl) (by kernel_rfl) (fun K hK => ?_); go_big_quiet_step (fail); refine wpQuiet_nil (hK _ ?_); clear hK K); (refine lex_none (by kernel_rfl) (by kernel_rfl) (by kernel_rfl) (fun K hK => ?_); go_big_quiet_step (fail); refine wpQuiet_nil (hK _ ?_); clear hK K); (refine lex_one (by kernel_rfl) (by kernel_rfl) (by kernel_rfl) (fun K hK => ?_); go_big_quiet_step (fail); refine wpQuiet_nil (hK _ ?_); clear hK K); (refine lex_one (by kernel_rfl) (by kernel_rfl) (by kernel_rfl) (fun K hK => ?_); go_big_quiet_step (fail); refine wpQuiet_nil (hK _ ?_); clear hK K); (refine lex_none (by kernel_rfl) (by kernel_rfl) (by kernel_rfl) (fun K hK => ?_); go_big_quiet_step (fail); refine wpQuiet_nil (hK _ ?_); clear hK K); (refine lex_none (by kernel_rfl) (by kernel_rfl) (by kernel_rfl) (fun K hK => ?_); go_big_quiet_step (fail); refine wpQuiet_nil (hK _ ?_); clear hK K); (refine lex_none (by kernel_rfl) (by kernel_rfl) (by kernel_rfl) (fun K hK => ?_); go_big_quiet_step (fail); refine wpQuiet_nil (hK _ ?_); clear hK K); (refine lex_none (by kernel_rfl) (by kernel_rfl) (by kernel_rfl) (fun K hK => ?_); go_big_quiet_step (fail); refine wpQuiet_nil (hK _ ?_); clear hK K); (refine lex_none (by kernel_rfl) (by kernel_rfl) (by kernel_rfl) (fun K hK => ?_); go_big_quiet_step (fail); refine wpQuiet_nil (hK _ ?_); clear hK K); (refine lex_none (by kernel_rfl) (by kernel_rfl) (by kernel_rfl) (fun K hK => ?_); go_big_quiet_step (fail); refine wpQuiet_nil (hK _ ?_); clear hK K); (refine lex_none (by kernel_rfl) (by kernel_rfl) (by kernel_rfl) (fun K hK => ?_); go_big_quiet_step (fail); refine wpQuiet_nil (hK _ ?_); clear hK K); (refine lex_none (by kernel_rfl) (by kernel_rfl) (by kernel_rfl) (fun K hK => ?_); go_big_quiet_step (fail); refine wpQuiet_nil (hK _ ?_); clear hK K); (refine lex_none (by kernel_rfl) (by kernel_rfl) (by kernel_rfl) (fun K hK => ?_); go_big_quiet_step (fail); refine wpQuiet_nil (hK _ ?_); clear hK K); (refine lex_none (by kernel_rfl) (by kernel_rfl) (by kernel_rfl) (fun K hK => ?_); go_big_quiet_step (fail); refine wpQuiet_nil (hK _ ?_); clear hK K); (refine lex_one (by kernel_rfl) (by kernel_rfl) (by kernel_rfl) (fun K hK => ?_); go_big_quiet_step (fail); refine wpQuiet_nil (hK _ ?_); clear hK K)
        refine lex_nil (by kernel_rfl) (by kernel_rfl) (by kernel_rfl) ?_
        intro w6 hw6
        simp only [hideAll]
        go_wp2
        go_ret
        exact ⟨rfl, m.bel.trans (hw6.mono m.bel.size)⟩
      have t1' : (z == x) = false := by simpa using t1
      by_cases t2 : z = tmpB ++ x
      · have t2' : (z == tmpB ++ x) = true := by simpa using t2
        clear t2
        go_wp2_with fail
        refine wp_region_at (R := GrowR) (by kernel_rfl) (by kernel_rfl) ?_
        (refine lex_one (by kernel_rfl) (by kernel_rfl) (by kernel_rfl) (fun K hK => ?_); go_big_quiet_step (fail); refine wpQuiet_nil (hK _ ?_); clear hK K); (refine lex_one (by kernel_rfl) (by kernel_rfl) (by kernel_rfl) (fun K hK => ?_); go_big_quiet_step (fail); refine wpQuiet_nil (hK _ ?_); clear hK K); (refine lex_one (by kernel_rfl) (by kernel_rfl) (by kernel_rfl) (fun K hK => ?_); go_big_quiet_step (fail); refine wpQuiet_nil (hK _ ?_); clear hK K); (refine lex_one (by kernel_rfl) (by kernel_rfl) (by kernel_rfl) (fun K hK => ?_); go_big_quiet_step (fail); refine wpQuiet_nil (hK _ ?_); clear hK K); (refine lex_one (by kernel_rfl) (by kernel_rfl) (by kernel_rfl) (fun K hK => ?_); go_big_quiet_step (fail); refine wpQuiet_nil (hK _ ?_); clear hK K); (refine lex_one (by kernel_rfl) (by kernel_rfl) (by kernel_rfl) (fun K hK => ?_); go_big_quiet_step (fail); refine wpQuiet_nil (hK _ ?_); clear hK K); (refine lex_one (by kernel_rfl) (by kernel_rfl) (by kernel_rfl) (fun K hK => ?_); go_big_quiet_step (fail); refine wpQuiet_nil (hK _ ?_); clear hK K); (refine lex_one (by kernel_rfl) (by kernel_rfl) (by kernel_rfl) (fun K hK => ?_); go_big_quiet_step (fail); refine wpQuiet_nil (hK _ ?_); clear hK K); (refine lex_one (by kernel_rfl) (by kernel_rfl) (by kernel_rfl) (fun K hK => ?_); go_big_quiet_step (fail); refine wpQuiet_nil (hK _ ?_); clear hK K); (refine lex_one (by kernel_rfl) (by kernel_rfl) (by kernel_rfl) (fun K hK => ?_); go_big_quiet_step (fail); refine wpQuiet_nil (hK _ ?_); clear hK K); (refine lex_one (by kernel_rfl) (by kernel_rfl) (by kernel_rfl) (fun K hK => ?_); go_big_quiet_step (fail); refine wpQuiet_nil (hK _ ?_); clear hK K); (refine lex_one (by kernel_rfl) (by kernel_rfl) (by kernel_rfl) (fun K hK => ?_); go_big_quiet_step (fail); refine wpQuiet_nil (hK _ ?_); clear hK K); (refine lex_one (by kernel_rfl) (by kernel_rfl) (by kernel_rfl) (fun K hK => ?_); go_big_quiet_step (fail); refine wpQuiet_nil (hK _ ?_); clear hK K); (refine lex_one (by kernel_rfl) (by kernel_rfl) (by kernel_rfl) (fun K hK => ?_); go_big_quiet_step (fail); refine wpQuiet_nil (hK _ ?_); clear hK K); (refine lex_one (by kernel_rfl) (by kernel_rfl) (by kernel_rfl) (fun K hK => ?_); go_big_quiet_step (fail); refine wpQuiet_nil (hK _ ?_); clear hK K); (refine lex_one (by kernel_rfl) (by kernel_rfl) (by kernel_rfl) (fun K hK => ?_); go_big_quiet_step (fail); refine wpQuiet_nil (hK _ ?_); clear hK K); (refine lex_one (by kernel_rfl) (by kernel_rfl) (by kernel_rfl) (fun K hK => ?_); go_big_quiet_step (fail); refine wpQuiet_nil (hK _ ?_); clear hK K); (refine lex_one (by kernel_rfl) (by kernel_rfl) (by kernel_rfl) (fun K hK => ?_); go_big_quiet_step (fail); refine wpQuiet_nil (hK _ ?_); clear hK K); (refine lex_one (by kernel_rfl) (by kernel_rfl) (by kernel_rfl) (fun K hK => ?_); go_big_quiet_step (fail); refine wpQuiet_nil (hK _ ?_); clear hK K); (refine lex_one (by kernel_rfl) (by kernel_rfl) (by kernel_rfl) (fun K hK => ?_); go_big_quiet_step (fail); refine wpQuiet_nil (hK _ ?_); clear hK K); (refine lex_one (by kernel_rfl) (by kernel_rfl) (by kernel_rfl) (fun K hK => ?_); go_big_quiet_step (fail); refine wpQuiet_nil (hK _ ?_); clear hK K); (refine lex_one (by kernel_rfl) (by kernel_rfl) (by kernel_rfl) (fun K hK => ?_); go_big_quiet_step (fail); refine wpQuiet_nil (hK _ ?_); clear hK K); (refine lex_none (by kernel_rfl) (by kernel_rfl) (by kernel_rfl) (fun K hK => ?_); go_big_quiet_step (fail); refine wpQuiet_nil (hK _ ?_); clear hK K); (refine lex_none (by kernel_rfl) (by kernel_rfl) (by kernel_rfl) (fun K hK => ?_); go_big_quiet_step (fail); refine wpQuiet_nil (hK _ ?_); clear hK K); (refine lex_none (by kernel_rfl) (by kernel_rfl) (by kernel_rfl) (fun K hK => ?_); go_big_quiet_step (fail); refine wpQuiet_nil (hK _ ?_); clear hK K); (refine lex_none (by kernel_rfl) (by kernel_rfl) (by kernel_rfl) (fun K hK => ?_); go_big_quiet_step (fail); refine wpQuiet_nil (hK _ ?_); clear hK K); (refine lex_none (by kernel_rfl) (by kernel_rfl) (by kernel_rfl) (fun K hK => ?_); go_big_quiet_step (fail); refine wpQuiet_nil (hK _ ?_); clear hK K); (refine lex_none (by kernel_rfl) (by kernel_rfl) (by kernel_rfl) (fun K hK => ?_); go_big_quiet_step (fail); refine wpQuiet_nil (hK _ ?_); clear hK K); (refine lex_none (by kernel_rfl) (by kernel_rfl) (by kernel_rfl) (fun K hK => ?_); go_big_quiet_step (fail); refine wpQuiet_nil (hK _ ?_); clear hK K); (refine lex_none (by kernel_rfl) (by kernel_rfl) (by kernel_rfl) (fun K hK => ?_); go_big_quiet_step (fail); refine wpQuiet_nil (hK _ ?_); clear hK K); (refine lex_none (by kernel_rfl) (by kernel_rfl) (by kernel_rfl) (fun K hK => ?_); go_big_quiet_step (fail); refine wpQuiet_nil (hK _ ?_); clear hK K); (refine lex_none (by kernel_rfl) (by kernel_rfl) (by kernel_rfl) (fun K hK => ?_); go_big_quiet_step (fail); refine wpQuiet_nil (hK _ ?_); clear hK K); (refine lex_one (by kernel_rfl) (by kernel_rfl) (by kernel_rfl) (fun K hK => ?_); go_big_quiet_step (fail); refine wpQuiet_nil (hK _ ?_); clear hK K)
        refine lex_nil (by kernel_rfl) (by kernel_rfl) (by kernel_rfl) ?_
        intro w6 hw6
        simp only [hideAll]
        go_wp2
        go_ret
        exact ⟨rfl, m.bel.trans (hw6.mono m.bel.size)⟩
      have t2' : (z == tmpB ++ x) = false := by simpa using t2
      by_cases t3 : tmpB ++ z = x
      · have t3' : (tmpB ++ z == x) = true := by simpa using t3
        clear t3
        go_wp2_with fail
        refine wp_region_at (R := GrowR) (by kernel_rfl) (by kernel_rfl) ?_
        (refine lex_one (by kernel_rfl) (by kernel_rfl) (by kernel_rfl) (fun K hK => ?_); go_big_quiet_step (fail); refine wpQuiet_nil (hK _ ?_); clear hK K); (refine lex_one (by kernel_rfl) (by kernel_rfl) (by kernel_rfl) (fun K hK => ?_); go_big_quiet_step (fail); refine wpQuiet_nil (hK _ ?_); clear hK K); (refine lex_one (by kernel_rfl) (by kernel_rfl) (by kernel_rfl) (fun K hK => ?_); go_big_quiet_step (fail); refine wpQuiet_nil (hK _ ?_); clear hK K); (refine lex_one (by kernel_rfl) (by kernel_rfl) (by kernel_rfl) (fun K hK => ?_); go_big_quiet_step (fail); refine wpQuiet_nil (hK _ ?_); clear hK K); (refine lex_one (by kernel_rfl) (by kernel_rfl) (by kernel_rfl) (fun K hK => ?_); go_big_quiet_step (fail); refine wpQuiet_nil (hK _ ?_); clear hK K); (refine lex_one (by kernel_rfl) (by kernel_rfl) (by kernel_rfl) (fun K hK => ?_); go_big_quiet_step (fail); refine wpQuiet_nil (hK _ ?_); clear hK K); (refine lex_one (by kernel_rfl) (by kernel_rfl) (by kernel_rfl) (fun K hK => ?_); go_big_quiet_step (fail); refine wpQuiet_nil (hK _ ?_); clear hK K); (refine lex_one (by kernel_rfl) (by kernel_rfl) (by kernel_rfl) (fun K hK => ?_); go_big_quiet_step (fail); refine wpQuiet_nil (hK _ ?_); clear hK K); (refine lex_one (by kernel_rfl) (by kernel_rfl) (by kernel_rfl) (fun K hK => ?_); go_big_quiet_step (fail); refine wpQuiet_nil (hK _ ?_); clear hK K); (refine lex_one (by kernel_rfl) (by kernel_rfl) (by kernel_rfl) (fun K hK => ?_); go_big_quiet_step (fail); refine wpQuiet_nil (hK _ ?_); clear hK K); (refine lex_one (by kernel_rfl) (by kernel_rfl) (by kernel_rfl) (fun K hK => ?_); go_big_quiet_step (fail); refine wpQuiet_nil (hK _ ?_); clear hK K); (refine lex_one (by kernel_rfl) (by kernel_rfl) (by kernel_rfl) (fun K hK => ?_); go_big_quiet_step (fail); refine wpQuiet_nil (hK _ ?_); clear hK K); (refine lex_one (by kernel_rfl) (by kernel_rfl) (by kernel_rfl) (fun K hK => ?_); go_big_quiet_step (fail); refine wpQuiet_nil (hK _ ?_); clear hK K); (refine lex_one (by kernel_rfl) (by kernel_rfl) (by kernel_rfl) (fun K hK => ?_); go_big_quiet_step (fail); refine wpQuiet_nil (hK _ ?_); clear hK K); (refine lex_one (by kernel_rfl) (by kernel_rfl) (by kernel_rfl) (fun K hK => ?_); go_big_quiet_step (fail); refine wpQuiet_nil (hK _ ?_); clear hK K); (refine lex_one (by kernel_rfl) (by kernel_rfl) (by kernel_rfl) (fun K hK => ?_); go_big_quiet_step (fail); refine wpQuiet_nil (hK _ ?_); clear hK K); (refine lex_one (by kernel_rfl) (by kernel_rfl) (by kernel_rfl) (fun K hK => ?_); go_big_quiet_step (fail); refine wpQuiet_nil (hK _ ?_); clear hK K); (refine lex_one (by kernel_rfl) (by kernel_rfl) (by kernel_rfl) (fun K hK => ?_); go_big_quiet_step (fail); refine wpQuiet_nil (hK _ ?_); clear hK K); (refine lex_one (by kernel_rfl) (by kernel_rfl) (by kernel_rfl) (fun K hK => ?_); go_big_quiet_step (fail); refine wpQuiet_nil (hK _ ?_); clear hK K); (refine lex_one (by kernel_rfl) (by kernel_rfl) (by kernel_rfl) (fun K hK => ?_); go_big_quiet_step (fail); refine wpQuiet_nil (hK _ ?_); clear hK K); (refine lex_one (by kernel_rfl) (by kernel_rfl) (by kernel_rfl) (fun K hK => ?_); go_big_quiet_step (fail); refine wpQuiet_nil (hK _ ?_); clear hK K); (refine lex_one (by kernel_rfl) (by kernel_rfl) (by kernel_rfl) (fun K hK => ?_); go_big_quiet_step (fail); refine wpQuiet_nil (hK _ ?_); clear hK K); (refine lex_one (by kernel_rfl) (by kernel_rfl) (by kernel_rfl) (fun K hK => ?_); go_big_quiet_step (fail); refine wpQuiet_nil (hK _ ?_); clear hK K); (refine lex_one (by kernel_rfl) (by kernel_rfl) (by kernel_rfl) (fun K hK => ?_); go_big_quiet_step (fail); refine wpQuiet_nil (hK _ ?_); clear hK K); (refine lex_one (by kernel_rfl) (by kernel_rfl) (by kernel_rfl) (fun K hK => ?_); go_big_quiet_step (fail); refine wpQuiet_nil (hK _ ?_); clear hK K); (refine lex_one (by kernel_rfl) (by kernel_rfl) (by kernel_rfl) (fun K hK => ?_); go_big_quiet_step (fail); refine wpQuiet_nil (hK _ ?_); clear hK K); (refine lex_one (by kernel_rfl) (by kernel_rfl) (by kernel_rfl) (fun K hK => ?_); go_big_quiet_step (fail); refine wpQuiet_nil (hK _ ?_); clear hK K); (refine lex_one (by kernel_rfl) (by kernel_rfl) (by kernel_rfl) (fun K hK => ?_); go_big_quiet_step (fail); refine wpQuiet_nil (hK _ ?_); clear hK K); (refine lex_one (by kernel_rfl) (by kernel_rfl) (by kernel_rfl) (fun K hK => ?_); go_big_quiet_step (fail); refine wpQuiet_nil (hK _ ?_); clear hK K); (refine lex_one (by kernel_rfl) (by kernel_rfl) (by kernel_rfl) (fun K hK => ?_); go_big_quiet_step (fail); refine wpQuiet_nil (hK _ ?_); clear hK K); (refine lex_one (by kernel_rfl) (by kernel_rfl) (by kernel_rfl) (fun K hK => ?_); go_big_quiet_step (fail); refine wpQuiet_nil (hK _ ?_); clear hK K); (refine lex_one (by kernel_rfl) (by kernel_rfl) (by kernel_rfl) (fun K hK => ?_); go_big_quiet_step (fail); refine wpQuiet_nil (hK _ ?_); clear hK K); (refine lex_one (by kernel_rfl) (by kernel_rfl) (by kernel_rfl) (fun K hK => ?_); go_big_quiet_step (fail); refine wpQuiet_nil (hK _ ?_); clear hK K)
        refine lex_nil (by kernel_rfl) (by kernel_rfl) (by kernel_rfl) ?_
        intro w6 hw6
        simp only [hideAll]
        go_wp2
        go_ret
        exact ⟨rfl, m.bel.trans (hw6.mono m.bel.size)⟩
      have t3' : (tmpB ++ z == x) = false := by simpa using t3
      have HQ := Lib.hid (HAP.out t1 t2 t3)
      go_wp2_with fail
      refine wp_region_at (R := GrowR) (by kernel_rfl) (by kernel_rfl) ?_
      (refine lex_one (by kernel_rfl) (by kernel_rfl) (by kernel_rfl) (fun K hK => ?_); go_big_quiet_step (fail); refine wpQuiet_nil (hK _ ?_); clear hK K); (refine lex_one (by kernel_rfl) (by kernel_rfl) (by kernel_rfl) (fun K hK => ?_); go_big_quiet_step (fail); refine wpQuiet_nil (hK _ ?_); clear hK K); (refine lex_one (by kernel_rfl) (by kernel_rfl) (by kernel_rfl) (fun K hK => ?_); go_big_quiet_step (fail); refine wpQuiet_nil (hK _ ?_); clear hK K); (refine lex_one (by kernel_rfl) (by kernel_rfl) (by kernel_rfl) (fun K hK => ?_); go_big_quiet_step (fail); refine wpQuiet_nil (hK _ ?_); clear hK K); (refine lex_one (by kernel_rfl) (by kernel_rfl) (by kernel_rfl) (fun K hK => ?_); go_big_quiet_step (fail); refine wpQuiet_nil (hK _ ?_); clear hK K); (refine lex_one (by kernel_rfl) (by kernel_rfl) (by kernel_rfl) (fun K hK => ?_); go_big_quiet_step (fail); refine wpQuiet_nil (hK _ ?_); clear hK K); (refine lex_one (by kernel_rfl) (by kernel_rfl) (by kernel_rfl) (fun K hK => ?_); go_big_quiet_step (fail); refine wpQuiet_nil (hK _ ?_); clear hK K); (refine lex_one (by kernel_rfl) (by kernel_rfl) (by kernel_rfl) (fun K hK => ?_); go_big_quiet_step (fail); refine wpQuiet_nil (hK _ ?_); clear hK K); (refine lex_one (by kernel_rfl) (by kernel_rfl) (by kernel_rfl) (fun K hK => ?_); go_big_quiet_step (fail); refine wpQuiet_nil (hK _ ?_); clear hK K); (refine lex_one (by kernel_rfl) (by kernel_rfl) (by kernel_rfl) (fun K hK => ?_); go_big_quiet_step (fail); refine wpQuiet_nil (hK _ ?_); clear hK K); (refine lex_one (by kernel_rfl) (by kernel_rfl) (by kernel_rfl) (fun K hK => ?_); go_big_quiet_step (fail); refine wpQuiet_nil (hK _ ?_); clear hK K); (refine lex_one (by kernel_rfl) (by kernel_rfl) (by kernel_rfl) (fun K hK => ?_); go_big_quiet_step (fail); refine wpQuiet_nil (hK _ ?_); clear hK K); (refine lex_one (by kernel_rfl) (by kernel_rfl) (by kernel_rfl) (fun K hK => ?_); go_big_quiet_step (fail); refine wpQuiet_nil (hK _ ?_); clear hK K); (refine lex_one (by kernel_rfl) (by kernel_rfl) (by kernel_rfl) (fun K hK => ?_); go_big_quiet_step (fail); refine wpQuiet_nil (hK _ ?_); clear hK K); (refine lex_one (by kernel_rfl) (by kernel_rfl) (by kernel_rfl) (fun K hK => ?_); go_big_quiet_step (fail); refine wpQuiet_nil (hK _ ?_); clear hK K); (refine lex_one (by kernel_rfl) (by kernel_rfl) (by kernel_rfl) (fun K hK => ?_); go_big_quiet_step (fail); refine wpQuiet_nil (hK _ ?_); clear hK K); (refine lex_one (by kernel_rfl) (by kernel_rfl) (by kernel_rfl) (fun K hK => ?_); go_big_quiet_step (fail); refine wpQuiet_nil (hK _ ?_); clear hK K); (refine lex_one (by kernel_rfl) (by kernel_rfl) (by kernel_rfl) (fun K hK => ?_); go_big_quiet_step (fail); refine wpQuiet_nil (hK _ ?_); clear hK K); (refine lex_one (by kernel_rfl) (by kernel_rfl) (by kernel_rfl) (fun K hK => ?_); go_big_quiet_step (fail); refine wpQuiet_nil (hK _ ?_); clear hK K); (refine lex_one (by kernel_rfl) (by kernel_rfl) (by kernel_rfl) (fun K hK => ?_); go_big_quiet_step (fail); refine wpQuiet_nil (hK _ ?_); clear hK K); (refine lex_one (by kernel_rfl) (by kernel_rfl) (by kernel_rfl) (fun K hK => ?_); go_big_quiet_step (fail); refine wpQuiet_nil (hK _ ?_); clear hK K); (refine lex_one (by kernel_rfl) (by kernel_rfl) (by kernel_rfl) (fun K hK => ?_); go_big_quiet_step (fail); refine wpQuiet_nil (hK _ ?_); clear hK K); (refine lex_one (by kernel_rfl) (by kernel_rfl) (by kernel_rfl) (fun K hK => ?_); go_big_quiet_step (fail); refine wpQuiet_nil (hK _ ?_); clear hK K); (refine lex_one (by kernel_rfl) (by kernel_rfl) (by kernel_rfl) (fun K hK => ?_); go_big_quiet_step (fail); refine wpQuiet_nil (hK _ ?_); clear hK K); (refine lex_one (by kernel_rfl) (by kernel_rfl) (by kernel_rfl) (fun K hK => ?_); go_big_quiet_step (fail); refine wpQuiet_nil (hK _ ?_); clear hK K); (refine lex_one (by kernel_rfl) (by kernel_rfl) (by kernel_rfl) (fun K hK => ?_); go_big_quiet_step (fail); refine wpQuiet_nil (hK _ ?_); clear hK K); (refine lex_one (by kernel_rfl) (by kernel_rfl) (by kernel_rfl) (fun K hK => ?_); go_big_quiet_step (fail); refine wpQuiet_nil (hK _ ?_); clear hK K); (refine lex_one (by kernel_rfl) (by kernel_rfl) (by kernel_rfl) (fun K hK => ?_); go_big_quiet_step (fail); refine wpQuiet_nil (hK _ ?_); clear hK K); (refine lex_one (by kernel_rfl) (by kernel_rfl) (by kernel_rfl) (fun K hK => ?_); go_big_quiet_step (fail); refine wpQuiet_nil (hK _ ?_); clear hK K); (refine lex_one (by kernel_rfl) (by kernel_rfl) (by kernel_rfl) (fun K hK => ?_); go_big_quiet_step (fail); refine wpQuiet_nil (hK _ ?_); clear hK K); (refine lex_one (by kernel_rfl) (by kernel_rfl) (by kernel_rfl) (fun K hK => ?_); go_big_quiet_step (fail); refine wpQuiet_nil (hK _ ?_); clear hK K); (refine lex_one (by kernel_rfl) (by kernel_rfl) (by kernel_rfl) (fun K hK => ?_); go_big_quiet_step (fail); refine wpQuiet_nil (hK _ ?_); clear hK K); (refine lex_one (by kernel_rfl) (by kernel_rfl) (by kernel_rfl) (fun K hK => ?_); go_big_quiet_step (fail); refine wpQuiet_nil (hK _ ?_); clear hK K)
      refine lex_nil (by kernel_rfl) (by kernel_rfl) (by kernel_rfl) ?_
      intro w6 hw6
      simp only [hideAll]
      have m6 := m.below hw6
      clear m g1 g3 k1 k3
      go_wp2_with fail
      go_roundw
      case rel => exact ⟨c + 1, by omega, by go_num, m6, HQ.out⟩
      case measure => simp [intOf]; omega
    · have HAP := Lib.hid hap
      clear hap
      have hlen := hI.len
      have hsz := hI.size
      have htmp := hI.tmp HAP.out
      have g2 := (Below.cell m.bel (World.block_lt_of_cell? _ _ HD2.out)).trans HD2.out
      have k2 := grow_cell g2
      by_cases c3 : x = []
      · subst c3
        go_wp2_with fail
        refine wp_region_led2 (R := GrowR) (by kernel_rfl) (by kernel_rfl) rfl rfl (by kernel_rfl) ?_
        (refine lex_one (by kernel_rfl) (by kernel_rfl) (by kernel_rfl) (fun K hK => ?_); go_big_quiet_step (fail); refine wpQuiet_nil (hK _ ?_); clear hK K); (refine lex_one (by kernel_rfl) (by kernel_rfl) (by kernel_rfl) (fun K hK => ?_); go_big_quiet_step (fail); refine wpQuiet_nil (hK _ ?_); clear hK K); (refine lex_one (by kernel_rfl) (by kernel_rfl) (by kernel_rfl) (fun K hK => ?_); go_big_quiet_step (fail); refine wpQuiet_nil (hK _ ?_); clear hK K); (refine lex_one (by kernel_rfl) (by kernel_rfl) (by kernel_rfl) (fun K hK => ?_); go_big_quiet_step (fail); refine wpQuiet_nil (hK _ ?_); clear hK K); (refine lex_one (by kernel_rfl) (by kernel_rfl) (by kernel_rfl) (fun K hK => ?_); go_big_quiet_step (fail); refine wpQuiet_nil (hK _ ?_); clear hK K); (refine lex_one (by kernel_rfl) (by kernel_rfl) (by kernel_rfl) (fun K hK => ?_); go_big_quiet_step (fail); refine wpQuiet_nil (hK _ ?_); clear hK K); (refine lex_one (by kernel_rfl) (by kernel_rfl) (by kernel_rfl) (fun K hK => ?_); go_big_quiet_step (fail); refine wpQuiet_nil (hK _ ?_); clear hK K); (refine lex_one (by kernel_rfl) (by kernel_rfl) (by kernel_rfl) (fun K hK => ?_); go_big_quiet_step (fail); refine wpQuiet_nil (hK _ ?_); clear hK K); (refine lex_one (by kernel_rfl) (by kernel_rfl) (by kernel_rfl) (fun K hK => ?_); go_big_quiet_step (fail); refine wpQuiet_nil (hK _ ?_); clear hK K)
        refine lex_nil (by kernel_rfl) (by kernel_rfl) (by kernel_rfl) ?_
        intro w6 hw6
        simp only [hideAll]
        have m6 := m.below hw6
        clear m k1 k2
        have q := Lib.hid (m6.nosave y (by omega) (by omega) htmp (by omega) (by omega))
        go_wp2_with fail
        refine q.out.mono ?_
        rintro e w2 ⟨rfl, hb2⟩
        have g5 := (Below.cell hb2 (World.block_lt_of_cell? _ _ HD1.out)).trans HD1.out
        clear q m6
        go_wp2
        go_ret
        exact ⟨rfl, hb2⟩
      have hr : rightN x = true := by
        unfold rightN
        simp [c3]
        omega
      have hok := m.ok.names
      go_wp2_with fail
      refine wp_region_led2 (R := GrowR) (by kernel_rfl) (by kernel_rfl) rfl rfl (by kernel_rfl) ?_
      (refine lex_one (by kernel_rfl) (by kernel_rfl) (by kernel_rfl) (fun K hK => ?_); go_big_quiet_step (fail); refine wpQuiet_nil (hK _ ?_); clear hK K); (refine lex_one (by kernel_rfl) (by kernel_rfl) (by kernel_rfl) (fun K hK => ?_); go_big_quiet_step (fail); refine wpQuiet_nil (hK _ ?_); clear hK K); (refine lex_one (by kernel_rfl) (by kernel_rfl) (by kernel_rfl) (fun K hK => ?_); go_big_quiet_step (fail); refine wpQuiet_nil (hK _ ?_); clear hK K); (refine lex_one (by kernel_rfl) (by kernel_rfl) (by kernel_rfl) (fun K hK => ?_); go_big_quiet_step (fail); refine wpQuiet_nil (hK _ ?_); clear hK K); (refine lex_one (by kernel_rfl) (by kernel_rfl) (by kernel_rfl) (fun K hK => ?_); go_big_quiet_step (fail); refine wpQuiet_nil (hK _ ?_); clear hK K); (refine lex_one (by kernel_rfl) (by kernel_rfl) (by kernel_rfl) (fun K hK => ?_); go_big_quiet_step (fail); refine wpQuiet_nil (hK _ ?_); clear hK K); (refine lex_one (by kernel_rfl) (by kernel_rfl) (by kernel_rfl) (fun K hK => ?_); go_big_quiet_step (fail); refine wpQuiet_nil (hK _ ?_); clear hK K); (refine lex_one (by kernel_rfl) (by kernel_rfl) (by kernel_rfl) (fun K hK => ?_); go_big_quiet_step (fail); refine wpQuiet_nil (hK _ ?_); clear hK K); (refine lex_one (by kernel_rfl) (by kernel_rfl) (by kernel_rfl) (fun K hK => ?_); go_big_quiet_step (fail); refine wpQuiet_nil (hK _ ?_); clear hK K)
      refine lex_nil (by kernel_rfl) (by kernel_rfl) (by kernel_rfl) ?_
      intro w6 hw6
      simp only [hideAll]
      have m6 := m.below hw6
      clear m k1 k2
      have q := Lib.hid (m6.saved x y (by omega) (by omega) hr (by omega) htmp (by omega) (by omega))
      go_wp2_with fail
      refine q.out.mono ?_
      rintro e w2 ⟨g, F2, _, hgi, rfl, m2, _⟩
      have hI2 := WholeI.next hx'.out hy'.out hI hok HAP.out hgi (by omega) hr (by omega)
      clear q m6 hI
      go_wp2
      go_roundw
      case rel => exact ⟨c + 1, _, _, F2, by omega, by go_num, m2, hI2⟩
      case measure => simp [intOf]; omega
  · obtain ⟨b1, o1, rfl, d1, e1⟩ := HL.out 0 (l.getD 0 []) (by rw [List.getD_eq_getElem?_getD, List.getElem?_eq_getElem (by rw [HN.out]; omega)]; rfl)
    obtain ⟨b2, o2, rfl, d2, e2⟩ := HBX.out 0 (o.getD 0 []) (by rw [List.getD_eq_getElem?_getD, List.getElem?_eq_getElem (by rw [HN2.out]; omega)]; rfl)
    rw [Nat.add_zero] at d1 d2
    clear e1 e2
    obtain ⟨g0, hat0, hfl0⟩ := hI.has 0 (by omega)
    obtain ⟨hr0, hl0⟩ := hI.right 0 (by omega)
    have htmp := hI.tmp0
    have HR := Lib.hid hI.rest
    have hlen := hI.len
    have hsz := hI.size
    have hst := hI.still
    clear hI
    generalize l.getD 0 [] = x at *
    generalize o.getD 0 [] = y at *
    have HD1 := Lib.hid d1
    have HD2 := Lib.hid d2
    clear d1 d2
    have q := Lib.hid (m.fuse fuse)
    go_wp2_with fail
    refine q.out.mono ?_
    rintro e w2 ⟨rfl, m2⟩
    have m2 : Mach W w2 G ⟨N, N, [], fl, 5000, 5 * j, min (max fuse (-1)) 1073741824, false⟩ F := m2
    generalize min (max fuse (-1)) 1073741824 = f at *
    clear q m
    have g1 := (Below.cell m2.bel (World.block_lt_of_cell? _ _ HD1.out)).trans HD1.out
    have q := m2.wholly (b := b) (by omega) (by omega) hr0 hl0 htmp (by omega) hst (by omega) hat0
    rw [hfl0] at q
    have Q := Lib.hid q
    clear q hst hfl0 htmp hr0
    go_wp2_with fail
    refine Q.out.mono ?_
    rintro e w3 ⟨r, T, F3, rfl, m3, hst3, hW⟩
    clear Q m2 g1
    have q := Lib.hid (Fs_Dead_mem m3.mem)
    go_wp2_with fail
    refine q.out.mono ?_
    rintro e w4 ⟨rfl, rfl⟩
    clear q
    have q := Lib.hid (m3.crash (by omega) fun w' F' ht => HK.out.below (m3.reach ht))
    go_wp2_with fail
    refine q.out.mono ?_
    rintro e w4 ⟨F4, rfl, m4, _⟩
    clear q m3
    obtain ⟨s, hs, hsb⟩ := hW.this ks m4.ok.names
    have ho := hW.others ks m4.ok.names
    have HA := Lib.hid (hW.again ks m4.ok.names)
    have hdd := hW.dead
    have hst4 : (T.crash ks).steps ≤ 5 * j + 10 := hst3
    clear hW hst3
    generalize T.crash ks = T2 at *
    generalize T.dead = dd at *
    have HO := Lib.hid (fun i (h0 : 0 < i) (hi : i < j) => by
      obtain ⟨a1, a2, a3, k, a4, a5⟩ := HR.out i h0 hi
      exact (⟨by rw [ho _ k a1 a2 a4, a5], a3⟩ : T2.read (l.getD i []) = (o.getD i [], 0) ∧ (l.getD i []).length ≤ 36))
    clear ho HR
    have q := m4.read x (by omega)
    rw [hs] at q
    have Q := Lib.hid q
    clear q hs hat0
    have g1 := (Below.cell m4.bel (World.block_lt_of_cell? _ _ HD1.out)).trans HD1.out
    have g2 := (Below.cell m4.bel (World.block_lt_of_cell? _ _ HD2.out)).trans HD2.out
    go_wp2_with fail
    refine Q.out.mono ?_
    rintro e w5 ⟨rfl, rfl⟩
    clear Q
    have hcase : (r = 13 ∧ dd = true ∧ b = s) ∨ (r = 13 ∧ dd = true ∧ (s == b) = false ∧ y = s) ∨ (r = 0 ∧ dd = false ∧ b = s) := by
      by_cases hb : s = b
      · rcases hdd with ⟨h1, h2⟩ | ⟨h1, h2⟩
        · exact .inl ⟨h1, h2, hb.symm⟩
        · exact .inr (.inr ⟨h1, h2, hb.symm⟩)
      · rcases hsb with h | ⟨h1, h2⟩
        · exact absurd h hb
        · rcases hdd with ⟨h3, _⟩ | ⟨_, h3⟩
          · exact .inr (.inl ⟨h3, h2, by simpa using hb, h1.symm⟩)
          · rw [h2] at h3
            cases h3
    clear hdd hsb
    rcases hcase with ⟨rfl, rfl, rfl⟩ | ⟨rfl, rfl, hsb, rfl⟩ | ⟨rfl, rfl, rfl⟩
    all_goals
      go_wp2_with fail
      go_loopw [19] (fun i wr => ∃ k : Nat, 1 ≤ k ∧ k ≤ j ∧ i = .int .i64 (k : Int) ∧ Mach W wr G T2 F4) (fun i _ => j - (intOf i).toNat)
      case atStart => exact ⟨1, by omega, by omega, rfl, m4⟩
      clear m4 g1 g2
      obtain ⟨k, hk1, hk, rfl, m⟩ := hrel
      have g1 := (Below.cell m.bel (World.block_lt_of_cell? _ _ HD1.out)).trans HD1.out
      rcases (show k < j ∨ k = j by omega) with hkj | rfl
      · obtain ⟨b3, o3, hp3, d3, e3⟩ := HL.out k (l.getD k []) (by rw [List.getD_eq_getElem?_getD, List.getElem?_eq_getElem (by rw [HN.out]; omega)]; rfl)
        obtain ⟨b4, o4, hp4, d4, e4⟩ := HBX.out k (o.getD k []) (by rw [List.getD_eq_getElem?_getD, List.getElem?_eq_getElem (by rw [HN2.out]; omega)]; rfl)
        cases hp3
        cases hp4
        have g3 := (Below.cell m.bel (World.block_lt_of_cell? _ _ d3)).trans d3
        have g4 := (Below.cell m.bel (World.block_lt_of_cell? _ _ d4)).trans d4
        obtain ⟨hrd, hzl⟩ := HO.out k (by omega) hkj
        have q := m.read (l.getD k []) (by omega)
        rw [hrd] at q
        clear d3 d4 e3 e4 hrd
        generalize l.getD k [] = z at *
        generalize o.getD k [] = v at *
        have Q := Lib.hid q
        clear q
        go_wp2_with fail
        refine Q.out.mono ?_
        rintro e w6 ⟨rfl, rfl⟩
        clear Q
        go_wp2_with fail
        go_roundw
        case rel => exact ⟨k + 1, by omega, by omega, by go_num, m⟩
        case measure => simp [intOf]; omega
      · have q := Lib.hid (m.again (by omega) hl0 (by omega) HA.out)
        go_wp2_with fail
        refine q.out.mono ?_
        rintro e w6 ⟨T3, F6, rfl, m6, hrd⟩
        clear q m g1
        have q := m6.read x (by omega)
        rw [hrd] at q
        have Q := Lib.hid q
        clear q
        have g1 := (Below.cell m6.bel (World.block_lt_of_cell? _ _ HD1.out)).trans HD1.out
        go_wp2_with fail
        refine Q.out.mono ?_
        rintro e w7 ⟨rfl, rfl⟩
        clear Q
        go_wp2
        go_ret
        exact ⟨rfl, m6.bel⟩

theorem DiskWhole_walk {H : Type} {enc : TypeId × Value → H} {d0 d1 d4 : DataW H} {p0 p1 p4 : List MemPlace} (sa0 : Option Addr) (sl0 sc0 : Nat) (sa1 : Option Addr) (sl1 sc1 : Nat) (b : List UInt8) (fuse : Int) (sa4 : Option Addr) (sl4 sc4 : Nat) (W : World)
    (k0 : DataW.Trod enc Try.prog W 0 (fun _ => true) true 22 (.slice sa0 sl0 sc0) d0 p0) (k1 : DataW.Trod enc Try.prog W 0 (fun _ => true) true 22 (.slice sa1 sl1 sc1) d1 p1) (hb : b.length ≤ maxLen) (_h1 : -9223372036854775808 ≤ fuse) (_h2 : fuse ≤ 9223372036854775807) (k4 : DataW.Trod enc Try.prog W 0 (fun _ => true) true 35 (.slice sa4 sl4 sc4) d4 p4) :
    Calls Try.prog 7 #[.slice sa0 sl0 sc0, .slice sa1 sl1 sc1, .string (bs b), .int .i64 fuse, .slice sa4 sl4 sc4] W fun e w' => e = .returned (.bool true) ∧ Below W.heap.size W w' := by
  obtain ⟨_, k0⟩ := k0
  obtain ⟨_, k1⟩ := k1
  obtain ⟨_, k4⟩ := k4
  obtain ⟨l, h0⟩ := strs_of_trod k0 ⟨_, _, _, rfl⟩
  obtain ⟨o, h1⟩ := strs_of_trod k1 ⟨_, _, _, rfl⟩
  obtain ⟨ks, h⟩ := keep_of_trod k4 ⟨_, _, _, rfl⟩
  exact DiskWhole_lists h0 h1 hb h
end Go.Proofs.Ytocfaffiifhggaa
