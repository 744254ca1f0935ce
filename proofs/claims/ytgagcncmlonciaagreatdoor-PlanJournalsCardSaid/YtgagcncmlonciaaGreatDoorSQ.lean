/- Files on a machine: Cut. Files on a machine: what survives of a file. Files on a machine: a crash. Files on a machine: Crash. Files on a machine: New. Files on a machine, in plain words: what the calls keep. -/
import Derived.Test.YtgagcncmlonciaaGreatDoorSN
import Derived.Deep.QuietTactic
import Derived.BigQuiet
namespace Go.Proofs.YtgagcncmlonciaaGreatDoor
open Go.RowKit Go.Maps Go.WideMaps
attribute [local go_sem] bs_toList bs_size

theorem below_drewN (w : World) (n : Nat) : Below w.heap.size w (w.drewN n) := ⟨rfl, rfl, rfl, Nat.le_refl _, fun _ _ => rfl⟩

section
variable {w : World} {G : Nat} {S : FsS} {F : Nat → Prop}

theorem Cut_step (h : FsMem w G S F) (hok : S.ok) (hs : S.steps ≤ 500000) (l : List UInt8) (n : Nat) {g : Nat} (hg : S.names.at l = some g) (hn : n ≤ (S.fl g).nw.length) {w0 : World} (hbw : Below w0.heap.size w0 w) {p1 p2 : Nat}
    (hp1 : w.cell? ⟨p1, 0, none⟩ = some (.pointer (some ⟨g, 0, none⟩))) (hp2 : w.cell? ⟨p2, 0, none⟩ = some (.int .i64 (n : Int))) (n1 : p1 ≠ G) (n2 : p2 ≠ G) :
    Calls Tryz.prog 97 #[.pointer (some ⟨G, 0, none⟩), .func (.func 98) #[] #[.pointer (some ⟨p1, 0, none⟩), .pointer (some ⟨p2, 0, none⟩)]] w fun e w' =>
      Did w0 w' G F e (S.step fun T => T.setFl g ((T.fl g).do (.cut n))) := by
  refine (Fs_step_mem 98 #[] _ _ Array.empty_append (fun T => T = (fun T : FsS => T.setFl g ((T.fl g).do (.cut n))) S.tick) (fun W => by go_simp) h hok hs ?_).mono fun e w' h => (Stepped.did h).before hbw
  intro w1 h1 hk
  have hf := hok.files g
  have hl := hf.nw_le
  have hc := hf.count
  unfold bytesMost at hl
  have hlive : S.tick.live g := ⟨S.names, by simp [FsS.dirs, FsS.tick], Nm.at_ids hg⟩
  refine (Cut_do_mem n h1 hlive (by show (S.fl g).ch.length ≤ _; omega) ⟨hn, by show (S.fl g).nw.length ≤ _; omega⟩ (hk.cell hp1 n1) (hk.cell hp2 n2)).mono ?_
  rintro e w' ⟨rfl, F', h2, h3⟩
  exact ⟨rfl, _, F', rfl, h2, h3⟩

set_option maxRecDepth 100000 in
set_option maxHeartbeats 1000000 in
theorem Fs_Cut_mem (h : FsMem w G S F) (hok : S.ok) (hs : S.steps ≤ 500000) (l : List UInt8) (n : Int) (hl : l.length ≤ 1048576) :
    Calls Tryz.prog 48 #[.pointer (some ⟨G, 0, none⟩), .string (bs l), .int .i64 n] w fun e w' => Did w w' G F e (S.cut l n) := by
  have hG := h.lt _ h.gG
  have hb1 := one_step w (.cells #[.int .i64 n] 3)
  have q := Fs_of_mem (h.below hb1) l hl
  have B2 := fun v => (boxes2 w (.int .i64 n) v 3 79)
  have stay : ∀ v r W, Below ((w.alloc (.cells #[.int .i64 n] 3)).alloc (.cells #[v] 79)).heap.size ((w.alloc (.cells #[.int .i64 n] 3)).alloc (.cells #[v] 79)) W → Did w W G F (.returned (.int .i64 r)) (S, r) := fun v r W hW =>
    did_none (h.below ((B2 v).1.trans (hW.mono (by simp; omega)))) ((B2 v).1.trans (hW.mono (by simp; omega))) r
  have N0 := Lib.hid stay
  unfold FsS.cut
  rcases S.of_cases l with ⟨h1, h2⟩ | ⟨h1, h2, h3⟩ | ⟨g, h1, h2, h3⟩
  · rw [h1] at q ⊢
    simp only [ofVal] at q ⊢
    have Q := Lib.hid q
    clear q stay B2
    go_enter Tryz.func48, Tryz.ntmps48
    go_wp2_with fail
    refine Q.out.mono ?_
    rintro e w' ⟨rfl, rfl⟩
    go_wp2
    go_ret
    exact N0.out _ _ _ (Below.refl _ _)
  · rw [h1] at q ⊢
    simp only [ofVal] at q ⊢
    have Q := Lib.hid q
    clear q stay B2
    go_enter Tryz.func48, Tryz.ntmps48
    go_wp2_with fail
    refine Q.out.mono ?_
    rintro e w' ⟨rfl, rfl⟩
    go_wp2
    go_ret
    exact N0.out _ _ _ (Below.refl _ _)
  · rw [h1] at q ⊢
    simp only [ofVal] at q ⊢
    have Q := Lib.hid q
    obtain ⟨e1, e2, e3⟩ := B2 (.pointer (some ⟨g, 0, none⟩))
    have hM2 := h.below e1
    have QA : ¬ (n < 0 ∨ ((S.fl g).nw.length : Int) < n) → ∀ W, Below ((w.alloc (.cells #[.int .i64 n] 3)).alloc (.cells #[.pointer (some ⟨g, 0, none⟩)] 79)).heap.size ((w.alloc (.cells #[.int .i64 n] 3)).alloc (.cells #[.pointer (some ⟨g, 0, none⟩)] 79)) W →
        Calls Tryz.prog 97 #[.pointer (some ⟨G, 0, none⟩), .func (.func 98) #[] #[.pointer (some ⟨w.heap.size + 1, 0, none⟩), .pointer (some ⟨w.heap.size, 0, none⟩)]] W fun e w' =>
          Did w w' G F e (S.step fun T => T.setFl g ((T.fl g).do (.cut n.toNat))) := fun hn W hW =>
      Cut_step (h.below (e1.trans (hW.mono (by simp; omega)))) hok hs l n.toNat h3 (by omega) (e1.trans (hW.mono (by simp; omega))) ((Below.cell hW (World.block_lt_of_cell? _ _ e3)).trans e3) ((Below.cell hW (World.block_lt_of_cell? _ _ e2)).trans (by rw [e2, Int.toNat_of_nonneg (by omega)])) (by omega) (by omega)
    obtain ⟨cs, hF⟩ : ∃ ch, FileAt ((w.alloc (.cells #[.int .i64 n] 3)).alloc (.cells #[.pointer (some ⟨g, 0, none⟩)] 79)) g (S.fl g).sy (S.fl g).nw ch := by
      obtain ⟨nb, sb, mv, mbs, chv, h⟩ := hM2
      exact ⟨_, (h.fl g (h.liveN h3)).1⟩
    have c1 := hF.c.2.1
    have hlen : (S.fl g).nw.length ≤ 1099511627776 := by
      have := (hok.files g).nw_le
      unfold bytesMost at this
      omega
    generalize (S.fl g).nw = nw at *
    rcases (show n < 0 ∨ (0 ≤ n ∧ (nw.length : Int) < n) ∨ (0 ≤ n ∧ n ≤ (nw.length : Int)) by omega) with hc | ⟨hc0, hc⟩ | ⟨hc0, hc⟩
    · rw [if_pos (.inl hc)]
      have d1 : decide (n < 0) = true := by simpa using hc
      clear q stay B2 e1 QA hM2 hF
      go_enter Tryz.func48, Tryz.ntmps48
      go_wp2_with fail
      refine Q.out.mono ?_
      rintro e w' ⟨rfl, rfl⟩
      go_wp2_with fail
      go_quiet (fail)
      go_wp2
      go_ret
      exact N0.out (.pointer (some ⟨g, 0, none⟩)) _ _ (below_drewN _ _)
    · rw [if_pos (.inr hc)]
      have d1 : decide (n < 0) = false := by simp; omega
      clear q stay B2 e1 QA hM2 hF
      go_enter Tryz.func48, Tryz.ntmps48
      go_wp2_with fail
      refine Q.out.mono ?_
      rintro e w' ⟨rfl, rfl⟩
      go_wp2_with fail
      go_quiet (fail)
      go_wp2
      go_ret
      exact N0.out (.pointer (some ⟨g, 0, none⟩)) _ _ (below_drewN _ _)
    · rw [if_neg (by omega)]
      have HQ := Lib.hid (QA (by omega))
      have d1 : decide (n < 0) = false := by simp; omega
      clear q stay B2 e1 QA hM2 hF
      go_enter Tryz.func48, Tryz.ntmps48
      go_wp2_with fail
      refine Q.out.mono ?_
      rintro e w' ⟨rfl, rfl⟩
      go_wp2_with fail
      go_quiet (fail)
      go_wp2_with fail
      refine (HQ.out _ (below_drewN _ _)).mono ?_
      intro e w' hd
      have hR := Lib.hid hd
      obtain rfl := hd.form
      clear hd
      go_wp2
      go_ret
      exact hR.out
end
end Go.Proofs.YtgagcncmlonciaaGreatDoor
namespace Go.Proofs.YtgagcncmlonciaaGreatDoor
open Go.RowKit Go.Maps Go.WideMaps
attribute [local go_sem] bs_toList bs_size

theorem Fits.at {B : Nat} : ∀ {cs : List Chg} {s : List UInt8} {j : Nat} {c : Chg}, Fits B cs s → cs[j]? = some c → (∀ n, c = .cut n → n ≤ (replay (cs.take j) s).length) ∧ (replay (cs.take j) s).length ≤ B ∧ (c.to (replay (cs.take j) s)).length ≤ B
  | [], _, _, _, _, h => by simp at h
  | d :: cs, s, 0, c, h, e => by
    obtain rfl : d = c := by simpa using e
    exact ⟨h.2.1, h.1, h.2.2.head⟩
  | d :: cs, s, j + 1, c, h, e => by
    have := Fits.at (cs := cs) (j := j) (c := c) h.2.2 (by simpa using e)
    exact this
theorem Fits.fitsAt {B : Nat} (hB : B ≤ 1099511627776) {cs : List Chg} {s : List UInt8} {j : Nat} {c : Chg} (h : Fits B cs s) (e : cs[j]? = some c) : c.fits (replay (cs.take j) s) := by
  obtain ⟨h1, h2, h3⟩ := h.at e
  cases c with
  | app a =>
    have h4 : (replay (cs.take j) s ++ a).length ≤ B := h3
    simp only [List.length_append] at h4
    show _ + _ ≤ _
    omega
  | cut n => exact ⟨h1 n rfl, by omega⟩

section
variable {w : World} {g : Nat} {x : Fl} {ch : Value}

theorem row_cell {w : World} {c cap n : Nat} {xs : List Value} {e : TypeId} (h : w.ownsRow 0 e 1 (.slice (some ⟨c, 0, none⟩) n cap) n xs) (j : Nat) {u : Value} (hj : xs[j]? = some u) : w.cell? ⟨c, j, none⟩ = some u := by
  have := h.cells (g := c) rfl j u hj
  have hadd : (⟨c, 0, none⟩ : Addr).add j = ⟨c, j, none⟩ := by unfold Addr.add; split <;> simp_all
  rwa [hadd] at this

end
end Go.Proofs.YtgagcncmlonciaaGreatDoor
namespace Go.Proofs.YtgagcncmlonciaaGreatDoor
open Go.RowKit Go.Maps Go.WideMaps
attribute [local go_sem] bs_toList bs_size

theorem crashFl_snoc (ks : List Int) (p : List UInt8 × Nat) : ∀ (N : Nm) (i : Nat) (fl : Nat → Fl), crashFl ks i (N ++ [p]) fl =
    fun k => if k = p.2 then (crashFl ks i N fl p.2).survive (keptN ks (1 + 2 * (i + N.length))) (keptN ks (2 + 2 * (i + N.length))) else crashFl ks i N fl k
  | [], i, fl => rfl
  | q :: N, i, fl => by
    show crashFl ks (i + 1) (N ++ [p]) _ = _
    rw [crashFl_snoc ks p N (i + 1)]
    simp only [List.length_cons, show i + 1 + N.length = i + (N.length + 1) by omega]
    rfl
theorem crashFl_ok (ks : List Int) {B n : Nat} : ∀ (N : Nm) (i : Nat) (fl : Nat → Fl), (∀ k, (fl k).ok B n) → ∀ k, (crashFl ks i N fl k).ok B n
  | [], _, _, h => h
  | p :: N, i, fl, h => crashFl_ok ks N (i + 1) _ fun k => by
    split
    · exact (h p.2).survive _ _
    · exact h k

section
variable {w : World} {G : Nat} {S : FsS} {F : Nat → Prop}

theorem lookup_run {N : Nm} {b n g : Nat} {l : List UInt8} (hl : l.length ≤ maxLen) (hD : Dir w b n N.data) (hg : N.at l = some g) :
    (Instr.lookup 47 (.map (some b)) (.string (bs l)) false).run Tryz.prog w = .ok (.pointer (some ⟨g, 0, none⟩)) w := by
  obtain ⟨v, ps, h1, h2⟩ := World.ownsMap.lookup (t := 47) (e := 79) hD (string_keyed Tryz.underlying9) Tryz.underlying47 (z := .pointer none) (by kernel_rfl) (zd := .nil) (zp := []) rfl (nameKey l hl)
  rw [Nm.atKey_data, hg] at h2
  obtain ⟨g', e1, rfl⟩ := ptrR_lit h2
  obtain rfl : g = g' := by omega
  exact h1

def FsS.crashed (S : FsS) (ks : List Int) (i : Nat) : FsS := { S with names := S.crashDir ks, synced := S.crashDir ks, moves := [], dead := false, fuse := -1, fl := crashFl ks 0 ((S.crashDir ks).take i) S.fl }

theorem crashDir_mem (S : FsS) (ks : List Int) : S.crashDir ks ∈ S.dirs := by
  unfold FsS.crashDir
  have hlt : keptN ks 0 % (S.moves.length + 1) < S.moves.length + 1 := Nat.mod_lt _ (by omega)
  cases hm : keptN ks 0 % (S.moves.length + 1) with
  | zero => simp [FsS.dirs]
  | succ n =>
    have : n < S.moves.length := by omega
    simp only [FsS.dirs]
    rw [List.getD_eq_getElem?_getD, List.getElem?_eq_getElem this]
    simp

theorem crashed_succ (S : FsS) (ks : List Int) (i : Nat) {p : List UInt8 × Nat} (hp : (S.crashDir ks)[i]? = some p) :
    S.crashed ks (i + 1) = (S.crashed ks i).setFl p.2 (((S.crashed ks i).fl p.2).survive (keptN ks (1 + 2 * i)) (keptN ks (2 + 2 * i))) := by
  have hi : i < (S.crashDir ks).length := (List.getElem?_eq_some_iff.1 hp).1
  unfold FsS.crashed FsS.setFl
  rw [List.take_add_one, hp]
  simp only [Option.toList]
  rw [crashFl_snoc, List.length_take, Nat.min_eq_left (by omega), Nat.zero_add]

set_option maxRecDepth 100000 in
set_option maxHeartbeats 2000000 in
/-- What stands behind the names' being set. -/
theorem crash_sets {ks : List Int} (h : FsMem w G S F) : ∃ nb sb mv, FsAt w G nb sb mv S.room S.steps S.fuse S.dead ∧
    (∃ mbs : List Nat, w.ownsRow 0 47 1 mv mbs.length (mbs.map fun b => .map (some b)) ∧ mbs.length = S.moves.length ∧
      ∃ cb, (∀ n, keptN ks 0 % (S.moves.length + 1) = n + 1 → mbs[n]? = some cb) ∧ (keptN ks 0 % (S.moves.length + 1) = 0 → cb = sb) ∧
        ∀ w', w.grownBy w' (some G) → FsAt w' G cb cb (.slice none 0 0) S.room S.steps (-1) false → FsMem w' G (S.crashed ks 0) F ∧ Dir w' cb (S.crashDir ks).length (S.crashDir ks).data) := by
  obtain ⟨nb, sb, mv, mbs, chv, h⟩ := h
  have hlt : keptN ks 0 % (S.moves.length + 1) < S.moves.length + 1 := Nat.mod_lt _ (by omega)
  have key : ∀ cb, F cb → Dir w cb (S.crashDir ks).length (S.crashDir ks).data → ∀ w', w.grownBy w' (some G) → FsAt w' G cb cb (.slice none 0 0) S.room S.steps (-1) false → FsMem w' G (S.crashed ks 0) F ∧ Dir w' cb (S.crashDir ks).length (S.crashDir ks).data := fun cb hc hD w' hg hF => by
    refine ⟨⟨_, _, _, _, _, h.settle hg hF (crashDir_mem S ks) (crashDir_mem S ks) hc hc hD hD⟩, hD.kept (Kept.of_grown (S := fun k => k = G) hg fun k hk => (Option.some.inj hk).symm) fun e => ?_⟩
    subst e
    exact absurd ((tag_dir hD).symm.trans h.tagG) (by simp)
  refine ⟨nb, sb, mv, h.fs, mbs, h.mr, h.ml, ?_⟩
  cases hm : keptN ks 0 % (S.moves.length + 1) with
  | zero =>
    have hd : S.crashDir ks = S.synced := by unfold FsS.crashDir; rw [hm]
    exact ⟨sb, fun n hn => by omega, fun _ => rfl, key sb h.oS (by rw [hd]; exact h.sy)⟩
  | succ n =>
    have hn : n < mbs.length := by rw [h.ml]; omega
    obtain ⟨N, e1, e2⟩ := h.md n mbs[n] (List.getElem?_eq_getElem hn)
    have hd : S.crashDir ks = N := by
      unfold FsS.crashDir
      rw [hm]
      simp only []
      rw [List.getD_eq_getElem?_getD, e1]
      rfl
    exact ⟨mbs[n], fun m hm => by
      obtain rfl : n = m := by omega
      exact List.getElem?_eq_getElem hn, fun e => by omega, key _ (h.oM _ (List.getElem_mem hn)) (by rw [hd]; exact e2)⟩
end
end Go.Proofs.YtgagcncmlonciaaGreatDoor
namespace Go.Proofs.YtgagcncmlonciaaGreatDoor
open Go.RowKit Go.Maps Go.WideMaps
attribute [local go_sem] bs_toList bs_size

theorem owned_cell {w : World} {base c cap n : Nat} {xs : List Value} {e : TypeId} (h : w.ownsRow base e 1 (.slice (some ⟨c, 0, none⟩) n cap) n xs) (j : Nat) {u : Value} (hj : xs[j]? = some u) : w.cell? ⟨c, j, none⟩ = some u := by
  have := h.cells (g := c) rfl j u hj
  have hadd : (⟨c, 0, none⟩ : Addr).add j = ⟨c, j, none⟩ := by unfold Addr.add; split <;> simp_all
  rwa [hadd] at this

section
variable {w : World} {G : Nat} {S : FsS} {F : Nat → Prop}

theorem crashed_ok (hok : S.ok) (ks : List Int) (i : Nat) : (S.crashed ks i).ok where
  room := hok.room
  fuse1 := by show -1 ≤ -1; omega
  fuse2 := by show -1 ≤ 1073741824; omega
  moves := Nat.zero_le _
  dirs := fun N hN => by
    simp only [FsS.crashed, FsS.dirs, List.mem_cons, List.not_mem_nil, or_false, or_self] at hN
    subst hN
    exact hok.dirs _ (crashDir_mem S ks)
  files := crashFl_ok ks _ 0 S.fl hok.files

/-- The texts of a list in memory are there while a machine turns. -/
theorem TextsAt.turn {w' : World} {base : Nat} {v : Value} {l : List (List UInt8)} {F' : Nat → Prop} (h : TextsAt w base v l) (ht : Turn w w' F F') (hv : ∀ k, v.ownBlock = some k → ¬ F k) : TextsAt w' base v l :=
  ⟨ownsRow_kept h.1 ht.kept hv, h.2⟩

/-- The loop's end. -/
theorem crashed_all (ks : List Int) : S.crashed ks (S.crashDir ks).length = S.crash ks := by
  unfold FsS.crashed FsS.crash
  rw [List.take_length]

theorem TextsAt.form {w : World} {base : Nat} {v : Value} {l : List (List UInt8)} (h : TextsAt w base v l) : ∃ la lc, v = .slice la l.length lc ∧ (∀ k, v.ownBlock = some k → base ≤ k) ∧ l.length ≤ maxLen ∧
    ∀ j x, l[j]? = some x → ∃ g, la = some ⟨g, 0, none⟩ ∧ w.cell? ⟨g, j, none⟩ = some (.string (bs x)) := by
  have h1 := h.1
  rcases h1.2 with ⟨e1, e2⟩ | ⟨g, cap, cur, e1, e2, e3, e4, e5, e6⟩
  · exact ⟨none, 0, by rw [e1, e2], (fun k hk => by rw [e1] at hk; cases hk), by rw [e2]; exact Nat.zero_le _, fun n b hn => by rw [List.length_eq_zero_iff.1 e2] at hn; simp at hn⟩
  · subst e1
    refine ⟨_, _, rfl, fun k hk => ?_, ?_, fun n b hn => ⟨g, rfl, ?_⟩⟩
    · obtain rfl : g = k := Option.some.inj hk
      exact e2
    · omega
    · refine owned_cell h1 n ?_
      rw [List.getElem?_map, hn]; rfl

def CrashPost (w : World) (G : Nat) (S : FsS) (F : Nat → Prop) (ks : List Int) : Ending → World → Prop := fun e w' => e = .returned (.tuple #[]) ∧ ∃ F', FsMem w' G (S.crash ks) F' ∧ Turn w w' F F'

end
end Go.Proofs.YtgagcncmlonciaaGreatDoor
namespace Go.Proofs.YtgagcncmlonciaaGreatDoor
open Go.RowKit Go.Maps Go.WideMaps

theorem new_ok (room : Int) : (FsS.new room).ok where
  room := by show 0 ≤ max room 0; omega
  fuse1 := by show -1 ≤ -1; omega
  fuse2 := by show -1 ≤ 1073741824; omega
  moves := Nat.le_refl _
  dirs := fun N hN => by
    simp only [FsS.new, FsS.dirs, List.mem_cons, List.not_mem_nil, or_false, or_self] at hN
    subst hN
    exact ⟨Nm.ok_nil, by simp⟩
  files := fun _ => Fl.ok_new _ _

theorem new_live {room : Int} {g : Nat} (h : (FsS.new room).live g) : False := by
  obtain ⟨N, hN, hg⟩ := h
  simp only [FsS.new, FsS.dirs, List.mem_cons, List.not_mem_nil, or_false, or_self] at hN
  subst hN
  cases hg

/-- A machine made of new blocks. -/
theorem new_mem {w w' : World} {G nb sb : Nat} {room : Int} (hb : Below w.heap.size w w') (hF : FsAt w' G nb sb (.slice none 0 0) (max room 0) 0 (-1) false) (hn : Dir w' nb 0 (.map [])) (hs : Dir w' sb 0 (.map [])) (h1 : w.heap.size ≤ G) (h2 : w.heap.size ≤ nb) (h3 : w.heap.size ≤ sb) :
    ∃ F, FsMem w' G (FsS.new room) F ∧ Turn w w' (fun _ => False) F ∧ ∀ k, F k → w.heap.size ≤ k := by
  refine ⟨fun k => w.heap.size ≤ k ∧ k < w'.heap.size, ⟨nb, sb, .slice none 0 0, [], fun _ => .slice none 0 0, ?_⟩, ⟨Kept.of_below hb, fun k hk => .inr hk.1⟩, fun k hk => hk.1⟩
  exact {
    fs := hF
    nm := hn
    sy := hs
    mr := World.ownsRow_nil _ _ _ _
    ml := rfl
    md := fun i b h => by simp at h
    fl := fun g hg => (new_live hg).elim
    apart := fun g g' k hg => (new_live hg).elim
    new := fun _ _ => rfl
    oG := ⟨h1, Blk.lt hF⟩
    oN := ⟨h2, World.ownsMap.lt hn⟩
    oS := ⟨h3, World.ownsMap.lt hs⟩
    oM := fun b hb => by cases hb
    oR := fun k hk => by cases hk
    oF := fun g hg => (new_live hg).elim
    oC := fun g k hg => (new_live hg).elim
    lt := fun k hk => hk.2 }

set_option maxRecDepth 100000 in
theorem New_any (w : World) (room : Int) : Calls Tryz.prog 7 #[.int .i64 room] w fun e w' => ∃ G F, e = .returned (.pointer (some ⟨G, 0, none⟩)) ∧ FsMem w' G (FsS.new room) F ∧ Turn w w' (fun _ => False) F ∧ ∀ k, F k → w.heap.size ≤ k := by
  have hmm := @run_makeMap Tryz.prog
  have h0 : Dir (w.alloc (.map #[] 0)) w.heap.size 0 (.map []) := World.ownsMap_made _ _ _ _
  have h1 : Dir ((w.alloc (.map #[] 0)).alloc (.map #[] 0)) (w.heap.size + 1) 0 (.map []) := by
    have := World.ownsMap_made (w.alloc (.map #[] 0)) Tryz.prog 9 ptrR
    rwa [World.size_alloc] at this
  have hs : ((w.alloc (.map #[] 0)).alloc (.map #[] 0)).heap.size = w.heap.size + 1 + 1 := by simp
  have hF : FsAt (((w.alloc (.map #[] 0)).alloc (.map #[] 0)).alloc (.cells #[.map (some w.heap.size), .map (some (w.heap.size + 1)), .slice none 0 0, .int .i64 (max room 0), .int .i64 0, .int .i64 (-1), .bool false] 50)) (w.heap.size + 1 + 1) w.heap.size (w.heap.size + 1) (.slice none 0 0) (max room 0) 0 (-1) false := by
    have := Blk.new ((w.alloc (.map #[] 0)).alloc (.map #[] 0)) 50 #[.map (some w.heap.size), .map (some (w.heap.size + 1)), .slice none 0 0, .int .i64 (max room 0), .int .i64 0, .int .i64 (-1), .bool false]
    rwa [hs] at this
  have R := Lib.hid (new_mem (w := w) ((((Below.refl _ w).alloc (Nat.le_refl _) _).alloc (by simp) _).alloc (by simp; omega) _) hF ((World.ownsMap.alloc (World.ownsMap.alloc h0 _)) _) (World.ownsMap.alloc h1 _) (by omega) (by omega) (by omega))
  clear h0 h1 hs hF
  go_enter Tryz.func7, Tryz.ntmps7
  go_wp2
  all_goals
    go_ret
    obtain ⟨F, r⟩ := R.out
    exact ⟨_, F, rfl, r⟩
end Go.Proofs.YtgagcncmlonciaaGreatDoor
namespace Go.Proofs.YtgagcncmlonciaaGreatDoor
open Go.RowKit Go.Maps Go.WideMaps

section
variable {S : FsS}

theorem bytesMost_mono {a b : Nat} (h : a ≤ b) : bytesMost a ≤ bytesMost b := Nat.mul_le_mul_right _ h

theorem FsS.ok.die (h : S.ok) : S.die.ok := ⟨h.room, h.fuse1, h.fuse2, h.moves, h.dirs, h.files⟩
theorem FsS.ok.tick (h : S.ok) : S.tick.ok where
  room := h.room
  fuse1 := by have := h.fuse1; show -1 ≤ max (S.fuse - 1) (-1); omega
  fuse2 := by have := h.fuse2; show max (S.fuse - 1) (-1) ≤ _; omega
  moves := Nat.le_succ_of_le h.moves
  dirs := h.dirs
  files := fun g => (h.files g).mono (bytesMost_mono (Nat.le_succ _)) (Nat.le_succ _)
theorem FsS.ok.step (h : S.ok) {f : FsS → FsS} (hf : (f S.tick).ok) : (S.step f).1.ok := by
  unfold FsS.step
  split
  · exact h.die
  · exact hf
theorem FsS.ok.moved (h : S.ok) {N : Nm} (hN : N.ok) (hl : N.length ≤ 64) : (S.tick.moved N).ok where
  room := h.room
  fuse1 := h.tick.fuse1
  fuse2 := h.tick.fuse2
  moves := by
    have := h.moves
    show (S.moves ++ [N]).length ≤ S.steps + 1
    simp
    omega
  dirs := fun M hM => by
    simp only [FsS.dirs, FsS.moved, List.mem_cons, List.mem_append, List.not_mem_nil, or_false] at hM
    rcases hM with rfl | rfl | hM | rfl
    · exact ⟨hN, hl⟩
    · exact h.dirs _ (by simp [FsS.dirs, FsS.tick])
    · exact h.dirs _ (by simp only [FsS.dirs, List.mem_cons]; exact .inr (.inr hM))
    · exact ⟨hN, hl⟩
  files := h.tick.files
theorem FsS.ok.setFl {T : FsS} (h : T.ok) (g : Nat) {x : Fl} (hx : x.ok (bytesMost T.steps) T.steps) : (T.setFl g x).ok where
  room := h.room
  fuse1 := h.fuse1
  fuse2 := h.fuse2
  moves := h.moves
  dirs := h.dirs
  files := fun k => by
    show (if k = g then x else T.fl k).ok _ _
    split
    · exact hx
    · exact h.files k

theorem FsS.ok.names (h : S.ok) : Nm.ok S.names := (h.dirs _ (by simp [FsS.dirs])).1
theorem FsS.ok.names_le (h : S.ok) : S.names.length ≤ 64 := (h.dirs _ (by simp [FsS.dirs])).2
theorem right_le {l : List UInt8} (h : rightN l = true) : l.length ≤ 40 := by
  unfold rightN at h
  simp at h
  exact h.2

theorem FsS.ok.create (h : S.ok) (l : List UInt8) {g : Nat} (hg : S.fresh g) : (S.create l g).1.ok := by
  unfold FsS.create
  split
  · exact h
  split
  · exact h
  rename_i hr
  split
  · exact h
  rename_i hn
  split
  · exact h
  refine h.step (h.moved (h.names.put l g (right_le (by simpa using hr)) fun p hp _ e => hg.1 ⟨S.names, by simp [FsS.dirs], List.mem_map.2 ⟨p, hp, e⟩⟩) ?_)
  have := Nm.length_put_le S.names l g
  show (S.names.put l g).length ≤ 64
  omega
theorem FsS.ok.append (h : S.ok) (l b : List UInt8) (hb : b.length ≤ 1048576) : (S.append l b).1.ok := by
  unfold FsS.append
  split
  · exact h
  split
  · exact h
  rename_i g _ _
  refine h.step (h.tick.setFl g ((h.files g).do _ (bytesMost_mono (Nat.le_succ _)) (fun n e => by cases e) ?_))
  have := (h.files g).nw_le
  show ((S.fl g).nw ++ b).length ≤ bytesMost (S.steps + 1)
  rw [List.length_append]
  unfold bytesMost at *
  omega
theorem FsS.ok.cut (h : S.ok) (l : List UInt8) (n : Int) : (S.cut l n).1.ok := by
  unfold FsS.cut
  split
  · exact h
  split
  · exact h
  rename_i g _ hn
  refine h.step (h.tick.setFl g ((h.files g).do _ (bytesMost_mono (Nat.le_succ _)) (fun m e => by cases e; show n.toNat ≤ (S.fl g).nw.length; omega) ?_))
  have := (h.files g).nw_le
  show ((S.fl g).nw.take n.toNat).length ≤ bytesMost (S.steps + 1)
  have := bytesMost_mono (Nat.le_add_right S.steps 1)
  rw [List.length_take]
  omega
theorem FsS.ok.sync (h : S.ok) (l : List UInt8) : (S.sync l).1.ok := by
  unfold FsS.sync
  split
  · exact h
  · exact h.step (h.tick.setFl _ (h.tick.files _).sync)
theorem FsS.ok.syncDir (h : S.ok) : S.syncDir.1.ok := by
  unfold FsS.syncDir
  split
  · exact h
  refine h.step ⟨h.room, h.tick.fuse1, h.tick.fuse2, Nat.zero_le _, fun N hN => ?_, h.tick.files⟩
  simp only [FsS.dirs, List.mem_cons, List.not_mem_nil, or_false, or_self] at hN
  subst hN
  exact ⟨h.names, h.names_le⟩
theorem FsS.of_at {l : List UInt8} {g : Nat} (h : S.of l = .inl g) : S.dead = false ∧ S.names.at l = some g := by
  rcases S.of_cases l with ⟨h1, _⟩ | ⟨h1, _⟩ | ⟨g', h1, h2, h3⟩
  · rw [h1] at h; cases h
  · rw [h1] at h; cases h
  · rw [h1] at h
    cases h
    exact ⟨h2, h3⟩
theorem FsS.ok.rename (h : S.ok) (a b : List UInt8) : (S.rename a b).1.ok := by
  unfold FsS.rename
  split
  · exact h
  rename_i g hg
  split
  · exact h
  rename_i hr
  obtain ⟨_, hat⟩ := FsS.of_at hg
  have hm := Nm.mem_at hat
  refine h.step (h.moved ((h.names.del a).put b g (right_le (by simpa using hr)) fun p hp _ e => ?_) ?_)
  · obtain ⟨h1, h2⟩ := Nm.mem_del.1 hp
    have hap := h.names.2
    have : p = (a, g) := by
      have key : ∀ {N : Nm}, (N.Pairwise fun p q => p.2 ≠ q.2) → ∀ {p q : List UInt8 × Nat}, p ∈ N → q ∈ N → p.2 = q.2 → p = q := by
        intro N hN
        induction N with
        | nil => intro p q hp; cases hp
        | cons x N ih =>
          obtain ⟨k1, k2⟩ := List.pairwise_cons.1 hN
          intro p q hp hq e
          rcases List.mem_cons.1 hp with e1 | hp2 <;> rcases List.mem_cons.1 hq with e2 | hq2
          · rw [e1, e2]
          · exact absurd (by rw [← e1]; exact e) (k1 _ hq2)
          · exact absurd (by rw [← e2]; exact e.symm) (k1 _ hp2)
          · exact ih k2 hp2 hq2 e
      exact key hap h1 hm e
    exact h2 (by rw [this])
  · have h1 := Nm.length_put_le (S.names.del a) b g
    have h2 := Nm.length_del (N := S.names) (l := a) (by rw [hat]; simp)
    have := h.names_le
    show ((S.names.del a).put b g).length ≤ 64
    omega
theorem FsS.ok.remove (h : S.ok) (l : List UInt8) : (S.remove l).1.ok := by
  unfold FsS.remove
  split
  · exact h
  refine h.step (h.moved (h.names.del l) ?_)
  have := Nm.length_del_le S.names l
  have := h.names_le
  show (S.names.del l).length ≤ 64
  omega
theorem FsS.ok.setRoom (h : S.ok) (n : Int) : (S.setRoom n).ok := ⟨by show 0 ≤ max n 0; omega, h.fuse1, h.fuse2, h.moves, h.dirs, h.files⟩
theorem FsS.ok.setFuse (h : S.ok) (n : Int) : (S.setFuse n).ok := ⟨h.room, by show -1 ≤ min (max n (-1)) 1073741824; omega, by show min (max n (-1)) 1073741824 ≤ _; omega, h.moves, h.dirs, h.files⟩
theorem FsS.ok.crash (h : S.ok) (ks : List Int) : (S.crash ks).ok := by
  rw [← crashed_all ks]
  exact crashed_ok h ks _

/-! ### an act -/
structure ActD where
  K : Int
  A : List UInt8
  B : List UInt8
  N : Int
  Keep : List Int
def ActD.small (a : ActD) : Prop := a.A.length ≤ 60 ∧ a.B.length ≤ 300 ∧ a.Keep.length ≤ 20

/-- What an act makes of a machine. -/
def ActStep (S : FsS) (a : ActD) (x : FsS × Int) : Prop :=
  (a.K = 0 ∧ ∃ g, S.fresh g ∧ x = S.create a.A g) ∨ (a.K = 1 ∧ x = S.append a.A a.B) ∨ (a.K = 2 ∧ x = S.cut a.A a.N) ∨ (a.K = 3 ∧ x = S.sync a.A) ∨ (a.K = 4 ∧ x = S.syncDir) ∨
  (a.K = 5 ∧ x = S.rename a.A a.B) ∨ (a.K = 6 ∧ x = S.remove a.A) ∨ (a.K = 7 ∧ x = (S.setRoom a.N, 0)) ∨ (a.K = 8 ∧ x = (S.setFuse a.N, 0)) ∨ (a.K = 9 ∧ x = (S.crash a.Keep, 0)) ∨ ((a.K < 0 ∨ 9 < a.K) ∧ x = (S, 0))

theorem ActStep.ok {a : ActD} {x : FsS × Int} (h : ActStep S a x) (hok : S.ok) (ha : a.small) : x.1.ok := by
  rcases h with ⟨_, g, hg, rfl⟩ | ⟨_, rfl⟩ | ⟨_, rfl⟩ | ⟨_, rfl⟩ | ⟨_, rfl⟩ | ⟨_, rfl⟩ | ⟨_, rfl⟩ | ⟨_, rfl⟩ | ⟨_, rfl⟩ | ⟨_, rfl⟩ | ⟨_, rfl⟩
  · exact hok.create _ hg
  · exact hok.append _ _ (by have := ha.2.1; omega)
  · exact hok.cut _ _
  · exact hok.sync _
  · exact hok.syncDir
  · exact hok.rename _ _
  · exact hok.remove _
  · exact hok.setRoom _
  · exact hok.setFuse _
  · exact hok.crash _
  · exact hok

theorem step_steps (f : FsS → FsS) (hf : (f S.tick).steps = S.tick.steps) : (S.step f).1.steps ≤ S.steps + 1 := by
  unfold FsS.step
  split
  · exact Nat.le_succ _
  · show (f S.tick).steps ≤ _
    rw [hf]
    exact Nat.le_refl _
theorem ActStep.steps {a : ActD} {x : FsS × Int} (h : ActStep S a x) : x.1.steps ≤ S.steps + 1 := by
  rcases h with ⟨_, g, hg, rfl⟩ | ⟨_, rfl⟩ | ⟨_, rfl⟩ | ⟨_, rfl⟩ | ⟨_, rfl⟩ | ⟨_, rfl⟩ | ⟨_, rfl⟩ | ⟨_, rfl⟩ | ⟨_, rfl⟩ | ⟨_, rfl⟩ | ⟨_, rfl⟩
  · unfold FsS.create
    repeat' split
    all_goals first | exact Nat.le_succ _ | exact step_steps _ rfl
  · unfold FsS.append
    repeat' split
    all_goals first | exact Nat.le_succ _ | exact step_steps _ rfl
  · unfold FsS.cut
    repeat' split
    all_goals first | exact Nat.le_succ _ | exact step_steps _ rfl
  · unfold FsS.sync
    repeat' split
    all_goals first | exact Nat.le_succ _ | exact step_steps _ rfl
  · unfold FsS.syncDir
    repeat' split
    all_goals first | exact Nat.le_succ _ | exact step_steps _ rfl
  · unfold FsS.rename
    repeat' split
    all_goals first | exact Nat.le_succ _ | exact step_steps _ rfl
  · unfold FsS.remove
    repeat' split
    all_goals first | exact Nat.le_succ _ | exact step_steps _ rfl
  · exact Nat.le_succ _
  · exact Nat.le_succ _
  · exact Nat.le_succ _
  · exact Nat.le_succ _
end
end Go.Proofs.YtgagcncmlonciaaGreatDoor
