/- Files on a machine: Crash. -/
import Derived.Test.YtocfaffiifhggaaSimS
namespace Go.Proofs.Ytocfaffiifhggaa
open Go.RowKit Go.Maps Go.WideMaps
attribute [local go_sem] bs_toList bs_size

theorem owned_cell {w : World} {base c cap n : Nat} {xs : List Value} {e : TypeId} (h : w.ownsRow base e 1 (.slice (some ⟨c, 0, none⟩) n cap) n xs) (j : Nat) {u : Value} (hj : xs[j]? = some u) : w.cell? ⟨c, j, none⟩ = some u := by
  have := h.cells (g := c) rfl j u hj
  have hadd : (⟨c, 0, none⟩ : Addr).add j = ⟨c, j, none⟩ := by unfold Addr.add; split <;> simp_all
  rwa [hadd] at this

section
variable {w : World} {G : Nat} {S : FsS} {F : Nat → Prop}

theorem crashed_ok (hok : S.ok) (ks : List Int) (i : Nat) : (S.crashed ks i).ok where
  room := hok.room
  fuse1 := by show -1 ≤ -1; omega
  fuse2 := by show -1 ≤ 1073741824; omega
  moves := Nat.zero_le _
  dirs := fun N hN => by
    simp only [FsS.crashed, FsS.dirs, List.mem_cons, List.not_mem_nil, or_false, or_self] at hN
    subst hN
    exact hok.dirs _ (crashDir_mem S ks)
  files := crashFl_ok ks _ 0 S.fl hok.files

/-- The texts of a list in memory are there while a machine turns. -/
theorem TextsAt.turn {w' : World} {base : Nat} {v : Value} {l : List (List UInt8)} {F' : Nat → Prop} (h : TextsAt w base v l) (ht : Turn w w' F F') (hv : ∀ k, v.ownBlock = some k → ¬ F k) : TextsAt w' base v l :=
  ⟨ownsRow_kept h.1 ht.kept hv, h.2⟩

/-- The loop's end. -/
theorem crashed_all (ks : List Int) : S.crashed ks (S.crashDir ks).length = S.crash ks := by
  unfold FsS.crashed FsS.crash
  rw [List.take_length]

theorem TextsAt.form {w : World} {base : Nat} {v : Value} {l : List (List UInt8)} (h : TextsAt w base v l) : ∃ la lc, v = .slice la l.length lc ∧ (∀ k, v.ownBlock = some k → base ≤ k) ∧ l.length ≤ maxLen ∧
    ∀ j x, l[j]? = some x → ∃ g, la = some ⟨g, 0, none⟩ ∧ w.cell? ⟨g, j, none⟩ = some (.string (bs x)) := by
  have h1 := h.1
  rcases h1.2 with ⟨e1, e2⟩ | ⟨g, cap, cur, e1, e2, e3, e4, e5, e6⟩
  · exact ⟨none, 0, by rw [e1, e2], (fun k hk => by rw [e1] at hk; cases hk), by rw [e2]; exact Nat.zero_le _, fun n b hn => by rw [List.length_eq_zero_iff.1 e2] at hn; simp at hn⟩
  · subst e1
    refine ⟨_, _, rfl, fun k hk => ?_, ?_, fun n b hn => ⟨g, rfl, ?_⟩⟩
    · obtain rfl : g = k := Option.some.inj hk
      exact e2
    · omega
    · refine owned_cell h1 n ?_
      rw [List.getElem?_map, hn]; rfl

def CrashPost (w : World) (G : Nat) (S : FsS) (F : Nat → Prop) (ks : List Int) : Ending → World → Prop := fun e w' => e = .returned (.tuple #[]) ∧ ∃ F', FsMem w' G (S.crash ks) F' ∧ Turn w w' F F'

set_option maxRecDepth 100000 in
set_option maxHeartbeats 2000000 in
theorem Fs_Crash_mem {v : Value} {ks : List Int} (h : FsMem w G S F) (hok : S.ok) (hs : S.steps ≤ 500000) (hk : ∀ w' F', Turn w w' F F' → KeepAt w' v ks) :
    Calls Try.prog 16 #[.pointer (some ⟨G, 0, none⟩), v] w fun e w' => CrashPost w G S F ks e w' := by
  obtain ⟨nb, sb, mv, hF, mbs, hmr, hml, cb, hc1, hc0, hset⟩ := crash_sets (ks := ks) h
  obtain ⟨c0, c1, c2, c3, c4, c5, c6⟩ := hF.c
  have hK0 := hk w F (Turn.refl w F)
  have hm : ((keptN ks 0 : Nat) : Int).tmod ((mbs.length : Int) + 1) = ((keptN ks 0 % (S.moves.length + 1) : Nat) : Int) := by rw [Int.tmod_eq_emod_of_nonneg (by omega), hml]; rfl
  have hm2 : ((keptN ks 0 : Nat) : Int) % ((mbs.length : Int) + 1) = ((keptN ks 0 % (S.moves.length + 1) : Nat) : Int) := by rw [hml]; rfl
  have hlt : keptN ks 0 % (S.moves.length + 1) < S.moves.length + 1 := Nat.mod_lt _ (by omega)
  have hmv := hok.moves
  have hk0 : keptN ks 0 ≤ 9223372036854775807 := hK0.le 0
  have hmb : mbs.length ≤ 500000 := by omega
  have mvl : ∃ sa sc, mv = .slice sa mbs.length sc ∧ ∀ n b, mbs[n]? = some b → ∃ g, sa = some ⟨g, 0, none⟩ ∧ w.cell? ⟨g, n, none⟩ = some (.map (some b)) := by
    rcases hmr.2 with ⟨e1, e2⟩ | ⟨g, cap, cur, e1, e2⟩
    · exact ⟨none, 0, by rw [e1, e2], fun n b hn => by rw [List.length_eq_zero_iff.1 e2] at hn; simp at hn⟩
    · subst e1
      exact ⟨_, _, rfl, fun n b hn => ⟨g, rfl, row_cell hmr n (by rw [List.getElem?_map, hn]; rfl)⟩⟩
  obtain ⟨sa, sc, rfl, hmc⟩ := mvl
  generalize hkz : keptN ks 0 % (S.moves.length + 1) = z at *
  have q0 : ∀ W, GrowR w W → Calls Try.prog 45 #[v, .int .i64 0] W fun e w' => e = .returned (.int .i64 (keptN ks 0 : Nat)) ∧ GrowR W w' := fun W hW => by
    refine (kept_any v ks 0 W (hk W F (Turn.of_below hW)) (by omega)).mono ?_
    rintro e w' ⟨rfl, rfl⟩
    exact ⟨rfl, Turns.refl _⟩
  have Q0 := Lib.hid q0
  clear q0
  have g0 := grow_cell c2
  clear hml
  have hpre : ∀ W0, GrowR w W0 → FsAt W0 G nb sb (.slice sa mbs.length sc) S.room S.steps S.fuse S.dead := fun W0 hW0 => Blk.below hF hW0 (Blk.lt hF)
  have hset' : ∀ W0, GrowR w W0 → ∀ W1, W0.grownBy W1 (some G) → FsAt W1 G cb cb (.slice none 0 0) S.room S.steps (-1) false → FsMem W1 G (S.crashed ks 0) F ∧ Turn w W1 F F := fun W0 hW0 W1 h1 h2 => by
    have hg : w.grownBy W1 (some G) := grown_trans' ⟨hW0.os, hW0.tape, hW0.output, hW0.size, fun k hk _ => hW0.block k hk⟩ h1
    exact ⟨(hset W1 hg h2).1, Turn.of_kept (Kept.of_grown hg fun k hk => Option.some.inj hk ▸ h.gG)⟩
  clear hset
  cases z
  case' zero =>
    obtain rfl := hc0 rfl
    clear c0 c1 c2 c3 c4 c5 c6
    go_enter Try.func16, Try.ntmps16
    go_wp2_with fail
    refine wp_region_at (R := GrowR) (by kernel_rfl) (by kernel_rfl) ?_
    (refine lex_one (by kernel_rfl) (by kernel_rfl) (by kernel_rfl) (fun K hK => ?_); go_big_quiet_step (fail); refine wpQuiet_nil (hK _ ?_); clear hK K)
    refine lex_call (f := 45) (args := #[v, .int .i64 0]) (v := .int .i64 (keptN ks 0 : Nat)) (by kernel_rfl) (fun _ _ h => by cases h) (by kernel_rfl) (by kernel_rfl) (fun _ => by go_simp) (fun W hW => Q0.out W hW) (lex_put (type := 0) (pos := "") (fun K hK => ?_)); go_big_quiet_step (fail); refine wpQuiet_nil (hK _ ?_); clear hK K
    (refine lex_one (by kernel_rfl) (by kernel_rfl) (by kernel_rfl) (fun K hK => ?_); go_big_quiet_step (fail); refine wpQuiet_nil (hK _ ?_); clear hK K)
    (refine lex_one (by kernel_rfl) (by kernel_rfl) (by kernel_rfl) (fun K hK => ?_); go_big_quiet_step (fail); refine wpQuiet_nil (hK _ ?_); clear hK K)
    (refine lex_one (by kernel_rfl) (by kernel_rfl) (by kernel_rfl) (fun K hK => ?_); go_big_quiet_step (fail); refine wpQuiet_nil (hK _ ?_); clear hK K)
    (refine lex_one (by kernel_rfl) (by kernel_rfl) (by kernel_rfl) (fun K hK => ?_); go_big_quiet_step (fail); refine wpQuiet_nil (hK _ ?_); clear hK K)
    refine lex_val (v := .int .i64 (mbs.length : Int)) (by kernel_rfl) (fun _ _ h => by cases h) (by kernel_rfl) (by kernel_rfl) (fun _ _ => by go_simp) (lex_put (type := 0) (pos := "") (fun K hK => ?_)); go_big_quiet_step (fail); refine wpQuiet_nil (hK _ ?_); clear hK K
    (repeat (refine lex_one (by kernel_rfl) (by kernel_rfl) (by kernel_rfl) (fun K hK => ?_); go_big_quiet_step (fail); refine wpQuiet_nil (hK _ ?_); clear hK K))
    refine lex_nil (by kernel_rfl) (by kernel_rfl) (by kernel_rfl) ?_
    intro W0 hW0
    simp only [hideAll]
    have hF0 := hpre W0 hW0
    obtain ⟨c0, c1, c2, c3, c4, c5, c6⟩ := hF0.c
    have f0 := hF0.f 0
    have f2 := hF0.f 2
    have f5 := hF0.f 5
    have f6 := hF0.f 6
    have hP := (((Blk.set_ hF0 0 (.map (some cb))).set_ 2 (.slice none 0 0)).set_ 6 (.bool false)).set_ 5 (.int .i64 (-1))
    obtain ⟨hM1, hT1⟩ := hset' W0 hW0 _ (grown_trans' (grown_trans' (grown_trans' (grown_set _ _ _ _) (grown_set _ _ _ _)) (grown_set _ _ _ _)) (grown_set _ _ _ _)) hP
    go_wp2_with fail
    generalize (((W0.setCell ⟨G, 0, none⟩ (.map (some cb))).setCell ⟨G, 2, none⟩ (.slice none 0 0)).setCell ⟨G, 6, none⟩ (.bool false)).setCell ⟨G, 5, none⟩ (.int .i64 (-1)) = W1 at hM1 hT1 ⊢
  case' succ n =>
    obtain ⟨mg, rfl, hmc1⟩ := hmc n cb (hc1 n rfl)
    have hn : n < mbs.length := (List.getElem?_eq_some_iff.1 (hc1 n rfl)).1
    clear c0 c1 c2 c3 c4 c5 c6
    go_enter Try.func16, Try.ntmps16
    go_wp2_with fail
    refine wp_region_at (R := GrowR) (by kernel_rfl) (by kernel_rfl) ?_
    (refine lex_one (by kernel_rfl) (by kernel_rfl) (by kernel_rfl) (fun K hK => ?_); go_big_quiet_step (fail); refine wpQuiet_nil (hK _ ?_); clear hK K)
    refine lex_call (f := 45) (args := #[v, .int .i64 0]) (v := .int .i64 (keptN ks 0 : Nat)) (by kernel_rfl) (fun _ _ h => by cases h) (by kernel_rfl) (by kernel_rfl) (fun _ => by go_simp) (fun W hW => Q0.out W hW) (lex_put (type := 0) (pos := "") (fun K hK => ?_)); go_big_quiet_step (fail); refine wpQuiet_nil (hK _ ?_); clear hK K
    (refine lex_one (by kernel_rfl) (by kernel_rfl) (by kernel_rfl) (fun K hK => ?_); go_big_quiet_step (fail); refine wpQuiet_nil (hK _ ?_); clear hK K)
    (refine lex_one (by kernel_rfl) (by kernel_rfl) (by kernel_rfl) (fun K hK => ?_); go_big_quiet_step (fail); refine wpQuiet_nil (hK _ ?_); clear hK K)
    (refine lex_one (by kernel_rfl) (by kernel_rfl) (by kernel_rfl) (fun K hK => ?_); go_big_quiet_step (fail); refine wpQuiet_nil (hK _ ?_); clear hK K)
    (refine lex_one (by kernel_rfl) (by kernel_rfl) (by kernel_rfl) (fun K hK => ?_); go_big_quiet_step (fail); refine wpQuiet_nil (hK _ ?_); clear hK K)
    refine lex_val (v := .int .i64 (mbs.length : Int)) (by kernel_rfl) (fun _ _ h => by cases h) (by kernel_rfl) (by kernel_rfl) (fun _ _ => by go_simp) (lex_put (type := 0) (pos := "") (fun K hK => ?_)); go_big_quiet_step (fail); refine wpQuiet_nil (hK _ ?_); clear hK K
    (repeat (refine lex_one (by kernel_rfl) (by kernel_rfl) (by kernel_rfl) (fun K hK => ?_); go_big_quiet_step (fail); refine wpQuiet_nil (hK _ ?_); clear hK K))
    refine lex_nil (by kernel_rfl) (by kernel_rfl) (by kernel_rfl) ?_
    intro W0 hW0
    simp only [hideAll]
    have hF0 := hpre W0 hW0
    obtain ⟨c0, c1, c2, c3, c4, c5, c6⟩ := hF0.c
    have f0 := hF0.f 0
    have f1 := hF0.f 1
    have f2 := hF0.f 2
    have f5 := hF0.f 5
    have f6 := hF0.f 6
    have cm : W0.cell? ⟨mg, n, none⟩ = some (.map (some cb)) := (Below.cell (show Below w.heap.size w W0 from hW0) (World.block_lt_of_cell? _ _ hmc1)).trans hmc1
    have hP := ((((Blk.set_ hF0 1 (.map (some cb))).set_ 0 (.map (some cb))).set_ 2 (.slice none 0 0)).set_ 6 (.bool false)).set_ 5 (.int .i64 (-1))
    obtain ⟨hM1, hT1⟩ := hset' W0 hW0 _ (grown_trans' (grown_trans' (grown_trans' (grown_trans' (grown_set _ _ _ _) (grown_set _ _ _ _)) (grown_set _ _ _ _)) (grown_set _ _ _ _)) (grown_set _ _ _ _)) hP
    go_wp2_with fail
    generalize ((((W0.setCell ⟨G, 1, none⟩ (.map (some cb))).setCell ⟨G, 0, none⟩ (.map (some cb))).setCell ⟨G, 2, none⟩ (.slice none 0 0)).setCell ⟨G, 6, none⟩ (.bool false)).setCell ⟨G, 5, none⟩ (.int .i64 (-1)) = W1 at hM1 hT1 ⊢
  all_goals
    have QL := Lib.hid (Fs_List_mem hM1 (crashed_ok hok ks 0))
    refine QL.out.mono ?_
    rintro e W2 ⟨⟨lv, rfl, hT⟩, hB2⟩
    have hM2 := hM1.below hB2
    obtain ⟨la, lc, rfl, hbase, _, hcell⟩ := hT.form
    have hnotF : ∀ k, (Value.slice la (S.crashed ks 0).names.keys.length lc).ownBlock = some k → ¬ F k := fun k hk hf => by
      have := hM1.lt k hf
      have := hbase k hk
      omega
    have hD64 := (hok.dirs _ (crashDir_mem S ks)).2
    have hDok := (hok.dirs _ (crashDir_mem S ks)).1
    have hkl : (S.crashed ks 0).names.keys.length = (S.crashDir ks).length := by
      show ((S.crashDir ks).map (·.1)).length = _
      simp
    rw [hkl] at hT hnotF ⊢
    have hlen : (S.crashDir ks).length ≤ 64 := hD64
    have hall := crashed_all (S := S) ks
    have hT2 : Turn w W2 F F := hT1.trans (Turn.of_below hB2)
    have HC := Lib.hid hcell
    have HN := Lib.hid hnotF
    have HK := Lib.hid hk
    have HALL := Lib.hid hall
    have HT := Lib.hid hT
    have HKL := Lib.hid hkl
    have HOK := Lib.hid hDok
    clear hcell hnotF hk hall hT hkl hDok QL hset' hpre Q0 hbase hmc hc1 hD64
    generalize hq : (S.crashDir ks).length = q at *
    have HQ := Lib.hid hq
    clear hq
    go_wp2_with fail
    go_loopw [48] (fun i wr => ∃ (j : Nat) (Fi : Nat → Prop), j ≤ q ∧ i = .int .i64 (j : Int) ∧ FsMem wr G (S.crashed ks j) Fi ∧ Turn W2 wr F Fi) (fun i _ => q - (intOf i).toNat)
    case atStart => exact ⟨0, F, Nat.zero_le _, rfl, hM2, Turn.refl _ _⟩
    case round =>
      obtain ⟨j, Fi, hj, rfl, hMj, hTj⟩ := hrel
      by_cases hjq : j < q
      · obtain ⟨p, hp⟩ : ∃ p, (S.crashDir ks)[j]? = some p := ⟨(S.crashDir ks)[j]'(by rw [HQ.out]; exact hjq), List.getElem?_eq_getElem (by rw [HQ.out]; exact hjq)⟩
        have hpk : (S.crashed ks 0).names.keys[j]? = some p.1 := by
          show ((S.crashDir ks).map (·.1))[j]? = _
          rw [List.getElem?_map, hp]
          rfl
        have hTr := HT.out.turn hTj HN.out
        obtain ⟨lb, lcell⟩ : ∃ lb, la = some ⟨lb, 0, none⟩ ∧ wr.cell? ⟨lb, j, none⟩ = some (.string (bs p.1)) := by
          obtain ⟨g, e1, _⟩ := HC.out j p.1 hpk
          subst e1
          obtain ⟨_, _, e2, _, _, e3⟩ := hTr.form
          obtain ⟨g', e4, e5⟩ := e3 j p.1 hpk
          cases e2
          obtain rfl : g = g' := by cases e4; rfl
          exact ⟨g, rfl, e5⟩
        obtain ⟨rfl, lcell⟩ := lcell
        have hat : (S.crashDir ks).at p.1 = some p.2 := Nm.at_of_mem HOK.out (List.mem_of_getElem? hp)
        have hpl : p.1.length ≤ 40 := HOK.out.3 p (List.mem_of_getElem? hp)
        have hround : ∀ W, GrowR wr W → Calls Try.prog 46 #[.pointer (some ⟨p.2, 0, none⟩), .int .i64 (keptN ks (1 + 2 * j) : Nat), .int .i64 (keptN ks (2 + 2 * j) : Nat)] W fun e w' => e = .returned (.tuple #[]) ∧ ∃ F', FsMem w' G (S.crashed ks (j + 1)) F' ∧ Turn W w' Fi F' := fun W hW =>
          crash_round (hMj.below hW) hok hs hp (HK.out W Fi ((hT2.trans hTj).trans (Turn.of_below hW)))
        have hkeep : ∀ (i : Nat) (x : Int), x = (i : Int) → i ≤ 1000 → ∀ W, GrowR wr W → Calls Try.prog 45 #[v, .int .i64 x] W fun e w' => e = .returned (.int .i64 (keptN ks i : Nat)) ∧ GrowR W w' := fun i x hx hi W hW => by
          subst hx
          refine (kept_any v ks i W (HK.out W Fi ((hT2.trans hTj).trans (Turn.of_below hW))) (by omega)).mono ?_
          rintro e w' ⟨rfl, rfl⟩
          exact ⟨rfl, Turns.refl _⟩
        have HK1 := Lib.hid (hkeep (1 + 2 * j) (1 + 2 * (j : Int)) (by omega) (by omega))
        have HK2 := Lib.hid (hkeep (2 + 2 * j) (2 + 2 * (j : Int)) (by omega) (by omega))
        have HR := Lib.hid hround
        have HT3 := Lib.hid hTj
        obtain ⟨nbj, sbj, mvj, mbsj, chvj, hI⟩ := hMj
        have hlook : ∀ W, GrowR wr W → (Instr.lookup 46 (.map (some nbj)) (.string (bs p.1)) false).run Try.prog W = .ok (.pointer (some ⟨p.2, 0, none⟩)) W := fun W hW =>
          lookup_run (by unfold maxLen; omega) (hI.nm.kept (Kept.of_below (S := fun _ => False) hW) (fun e => e)) hat
        have HLK := Lib.hid hlook
        have cG := hI.fs.c.1
        have gG := grow_cell cG
        clear hround hkeep hlook hp hpk hat hTr hTj hI hpl
        generalize p.1 = pn at *
        generalize p.2 = pg at *
        go_wp2_with fail
        refine wp_region_led (R := GrowR) (by kernel_rfl) (by kernel_rfl) rfl (by kernel_rfl) ?_
        (refine lex_one (by kernel_rfl) (by kernel_rfl) (by kernel_rfl) (fun K hK => ?_); go_big_quiet_step (fail); refine wpQuiet_nil (hK _ ?_); clear hK K)
        (refine lex_one (by kernel_rfl) (by kernel_rfl) (by kernel_rfl) (fun K hK => ?_); go_big_quiet_step (fail); refine wpQuiet_nil (hK _ ?_); clear hK K)
        (refine lex_one (by kernel_rfl) (by kernel_rfl) (by kernel_rfl) (fun K hK => ?_); go_big_quiet_step (fail); refine wpQuiet_nil (hK _ ?_); clear hK K)
        (refine lex_one (by kernel_rfl) (by kernel_rfl) (by kernel_rfl) (fun K hK => ?_); go_big_quiet_step (fail); refine wpQuiet_nil (hK _ ?_); clear hK K)
        (refine lex_one (by kernel_rfl) (by kernel_rfl) (by kernel_rfl) (fun K hK => ?_); go_big_quiet_step (fail); refine wpQuiet_nil (hK _ ?_); clear hK K)
        refine lex_val (v := .pointer (some ⟨pg, 0, none⟩)) (by kernel_rfl) (fun _ _ h => by cases h) (by kernel_rfl) (by kernel_rfl) (fun W hW => by have hl := HLK.out W hW; go_simp) (lex_put (type := 0) (pos := "") (fun K hK => ?_)); go_big_quiet_step (fail); refine wpQuiet_nil (hK _ ?_); clear hK K
        (refine lex_one (by kernel_rfl) (by kernel_rfl) (by kernel_rfl) (fun K hK => ?_); go_big_quiet_step (fail); refine wpQuiet_nil (hK _ ?_); clear hK K)
        (refine lex_one (by kernel_rfl) (by kernel_rfl) (by kernel_rfl) (fun K hK => ?_); go_big_quiet_step (fail); refine wpQuiet_nil (hK _ ?_); clear hK K)
        (refine lex_one (by kernel_rfl) (by kernel_rfl) (by kernel_rfl) (fun K hK => ?_); go_big_quiet_step (fail); refine wpQuiet_nil (hK _ ?_); clear hK K)
        (refine lex_one (by kernel_rfl) (by kernel_rfl) (by kernel_rfl) (fun K hK => ?_); go_big_quiet_step (fail); refine wpQuiet_nil (hK _ ?_); clear hK K)
        refine lex_call (f := 45) (args := #[v, .int .i64 (1 + 2 * (j : Int))]) (v := .int .i64 (keptN ks (1 + 2 * j) : Nat)) (by kernel_rfl) (fun _ _ h => by cases h) (by kernel_rfl) (by kernel_rfl) (fun _ => by go_simp) (fun W hW => HK1.out W hW) (lex_put (type := 0) (pos := "") (fun K hK => ?_)); go_big_quiet_step (fail); refine wpQuiet_nil (hK _ ?_); clear hK K
        (refine lex_one (by kernel_rfl) (by kernel_rfl) (by kernel_rfl) (fun K hK => ?_); go_big_quiet_step (fail); refine wpQuiet_nil (hK _ ?_); clear hK K)
        (refine lex_one (by kernel_rfl) (by kernel_rfl) (by kernel_rfl) (fun K hK => ?_); go_big_quiet_step (fail); refine wpQuiet_nil (hK _ ?_); clear hK K)
        (refine lex_one (by kernel_rfl) (by kernel_rfl) (by kernel_rfl) (fun K hK => ?_); go_big_quiet_step (fail); refine wpQuiet_nil (hK _ ?_); clear hK K)
        (refine lex_one (by kernel_rfl) (by kernel_rfl) (by kernel_rfl) (fun K hK => ?_); go_big_quiet_step (fail); refine wpQuiet_nil (hK _ ?_); clear hK K)
        refine lex_call (f := 45) (args := #[v, .int .i64 (2 + 2 * (j : Int))]) (v := .int .i64 (keptN ks (2 + 2 * j) : Nat)) (by kernel_rfl) (fun _ _ h => by cases h) (by kernel_rfl) (by kernel_rfl) (fun _ => by go_simp) (fun W hW => HK2.out W hW) (lex_put (type := 0) (pos := "") (fun K hK => ?_)); go_big_quiet_step (fail); refine wpQuiet_nil (hK _ ?_); clear hK K
        refine lex_nil (by kernel_rfl) (by kernel_rfl) (by kernel_rfl) ?_
        intro W3 hW3
        simp only [hideAll]
        have QR := Lib.hid (HR.out W3 hW3)
        go_wp2_with fail
        refine QR.out.mono ?_
        rintro e W4 ⟨rfl, F4, hM4, hT4⟩
        have R := Lib.hid (And.intro hM4 ((HT3.out.trans (Turn.of_below hW3)).trans hT4))
        clear hM4 hT4
        go_wp2
        go_roundw
        case rel => exact ⟨j + 1, F4, by omega, by go_num, R.out.1, R.out.2⟩
        case measure => simp [intOf]; omega
      · obtain rfl : j = q := by omega
        go_wp2
        go_end0
        rw [HALL.out] at hMj
        exact ⟨rfl, Fi, hMj, hT2.trans hTj⟩
end
end Go.Proofs.Ytocfaffiifhggaa
