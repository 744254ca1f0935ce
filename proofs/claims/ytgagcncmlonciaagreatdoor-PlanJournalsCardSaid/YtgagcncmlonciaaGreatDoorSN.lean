/- Files on a machine: Append, Cut, SyncDir. Files on a machine: Append, Cut. -/
import Derived.Test.YtgagcncmlonciaaGreatDoorSK
import Derived.RegionTactic
import Derived.ChangeAlike
namespace Go.Proofs.YtgagcncmlonciaaGreatDoor
open Go.RowKit Go.Maps Go.WideMaps
attribute [local go_sem] bs_toList bs_size

section
variable {w : World} {G : Nat} {S : FsS} {F : Nat → Prop}

theorem file_do_mem {g : Nat} (c : Chg) (h : FsMem w G S F) (hg : S.live g) (hn : (S.fl g).ch.length ≤ 1000000) (hf : c.fits (S.fl g).nw) :
    Calls Tryz.prog 99 #[.pointer (some ⟨g, 0, none⟩), c.val] w fun e w' => e = .returned (.tuple #[]) ∧ ∃ F', FsMem w' G (S.setFl g ((S.fl g).do c)) F' ∧ Turn w w' F F' := by
  obtain ⟨nb, sb, mv, mbs, chv, h⟩ := h
  obtain ⟨h1, h2⟩ := h.fl g hg
  refine (file_do_any c h1 h2 (fun e => ?_) (Nat.zero_le _) hn hf).mono ?_
  · exact absurd ((h.tagC hg e).symm.trans (h.tagF hg)) (by simp)
  · rintro e w' ⟨rfl, ch', e1, e2, e3, e4⟩
    obtain ⟨F', r1, r2⟩ := h.file (x := (S.fl g).do c) hg e1 e2 (fun k hk => by
      rcases e3 with e3 | ⟨j, e3, e5⟩
      · exact .inl (e3 ▸ hk)
      · rw [e3] at hk
        obtain rfl := Option.some.inj hk
        exact .inr e5) e4
    exact ⟨rfl, F', ⟨_, _, _, _, _, r1⟩, r2⟩

set_option maxRecDepth 100000 in
theorem Append_do_mem {g p1 p2 : Nat} (b : List UInt8) (h : FsMem w G S F) (hg : S.live g) (hn : (S.fl g).ch.length ≤ 1000000) (hf : (S.fl g).nw.length + b.length ≤ 1099511627776)
    (hp1 : w.cell? ⟨p1, 0, none⟩ = some (.pointer (some ⟨g, 0, none⟩))) (hp2 : w.cell? ⟨p2, 0, none⟩ = some (.string (bs b))) :
    Calls Tryz.prog 157 #[.pointer (some ⟨p1, 0, none⟩), .pointer (some ⟨p2, 0, none⟩)] w fun e w' => e = .returned (.tuple #[]) ∧ ∃ F', FsMem w' G (S.setFl g ((S.fl g).do (.app b))) F' ∧ Turn w w' F F' := by
  have q := Lib.hid (file_do_mem (.app b) h hg hn hf)
  go_enter Tryz.func157, Tryz.ntmps157
  go_wp2_with fail
  refine q.out.mono ?_
  rintro e w' ⟨rfl, hr⟩
  have hR := Lib.hid hr
  clear hr
  go_wp2
  go_end0
  exact ⟨rfl, hR.out⟩

set_option maxRecDepth 100000 in
theorem Cut_do_mem {g p1 p2 : Nat} (n : Nat) (h : FsMem w G S F) (hg : S.live g) (hn : (S.fl g).ch.length ≤ 1000000) (hf : n ≤ (S.fl g).nw.length ∧ (S.fl g).nw.length ≤ 1099511627776)
    (hp1 : w.cell? ⟨p1, 0, none⟩ = some (.pointer (some ⟨g, 0, none⟩))) (hp2 : w.cell? ⟨p2, 0, none⟩ = some (.int .i64 (n : Int))) :
    Calls Tryz.prog 98 #[.pointer (some ⟨p1, 0, none⟩), .pointer (some ⟨p2, 0, none⟩)] w fun e w' => e = .returned (.tuple #[]) ∧ ∃ F', FsMem w' G (S.setFl g ((S.fl g).do (.cut n))) F' ∧ Turn w w' F F' := by
  have q := Lib.hid (file_do_mem (.cut n) h hg hn hf)
  go_enter Tryz.func98, Tryz.ntmps98
  go_wp2_with fail
  refine q.out.mono ?_
  rintro e w' ⟨rfl, hr⟩
  have hR := Lib.hid hr
  clear hr
  go_wp2
  go_end0
  exact ⟨rfl, hR.out⟩

set_option maxRecDepth 100000 in
theorem SyncDir_do_mem {p : Nat} (h : FsMem w G S F) (hp : w.cell? ⟨p, 0, none⟩ = some (.pointer (some ⟨G, 0, none⟩))) :
    Calls Tryz.prog 159 #[.pointer (some ⟨p, 0, none⟩)] w fun e w' => e = .returned (.tuple #[]) ∧ FsMem w' G { S with synced := S.names, moves := [] } F ∧ Kept w w' (fun k => k = G) := by
  obtain ⟨nb, sb, mv, mbs, chv, h⟩ := h
  obtain ⟨c0, c1, c2, c3, c4, c5, c6⟩ := h.fs.c
  have f1 := h.fs.f 1
  have f2 := h.fs.f 2
  have hP : FsAt ((w.setCell ⟨G, 1, none⟩ (.map (some nb))).setCell ⟨G, 2, none⟩ (.slice none 0 0)).drew G nb nb (.slice none 0 0) S.room S.steps S.fuse S.dead := (Blk.set_ (Blk.set_ h.fs 1 (.map (some nb))) 2 (.slice none 0 0))
  have hg0 : w.grownBy ((w.setCell ⟨G, 1, none⟩ (.map (some nb))).setCell ⟨G, 2, none⟩ (.slice none 0 0)) (some G) := grown_trans' (grown_set _ _ _ _) (grown_set _ _ _ _)
  have hg : w.grownBy ((w.setCell ⟨G, 1, none⟩ (.map (some nb))).setCell ⟨G, 2, none⟩ (.slice none 0 0)).drew (some G) := ⟨hg0.os, hg0.tape, hg0.output, hg0.size, hg0.block⟩
  have hS := h.settle (N := S.names) (M := S.names) hg hP (by simp [FsS.dirs]) (by simp [FsS.dirs]) h.oN h.oN h.nm h.nm
  have R := Lib.hid (And.intro hS hg)
  clear hP hg0 hg hS
  go_enter Tryz.func159, Tryz.ntmps159
  go_wp2
  go_region
  all_goals
    go_end0
    exact ⟨rfl, ⟨_, _, _, _, _, R.out.1⟩, Kept.of_grown R.out.2 fun k hk => (Option.some.inj hk).symm⟩

set_option maxRecDepth 100000 in
theorem Fs_SyncDir_mem (h : FsMem w G S F) (hok : S.ok) (hs : S.steps ≤ 500000) :
    Calls Tryz.prog 96 #[.pointer (some ⟨G, 0, none⟩)] w fun e w' => Did w w' G F e S.syncDir := by
  have hlt := h.lt _ h.gG
  have hb := one_step w (.cells #[.pointer (some ⟨G, 0, none⟩)] 28)
  have hM := h.below hb
  have hp := new_cell w (.pointer (some ⟨G, 0, none⟩)) 28
  unfold FsS.syncDir
  have c6 : (w.alloc (.cells #[.pointer (some ⟨G, 0, none⟩)] 28)).cell? ⟨G, 6, none⟩ = some (.bool S.dead) := by
    obtain ⟨nb, sb, mv, mbs, chv, h⟩ := hM
    exact h.fs.c.2.2.2.2.2.2
  cases hd : S.dead with
  | true =>
    rw [hd] at c6
    go_enter Tryz.func96, Tryz.ntmps96
    go_wp2
    go_ret
    exact did_none hM hb _
  | false =>
    rw [hd] at c6
    have q : Calls Tryz.prog 97 #[.pointer (some ⟨G, 0, none⟩), .func (.func 159) #[] #[.pointer (some ⟨w.heap.size, 0, none⟩)]] (w.alloc (.cells #[.pointer (some ⟨G, 0, none⟩)] 28)) fun e w' =>
        Did w w' G F e (S.step fun T => { T with synced := T.names, moves := [] }) := by
      refine (Fs_step_mem 159 #[] _ _ Array.empty_append (fun T => T = (fun T : FsS => { T with synced := T.names, moves := [] }) S.tick) (fun W => by go_simp) hM hok hs ?_).mono fun e w' h => (Stepped.did h).before hb
      intro w1 h1 hk
      refine (SyncDir_do_mem h1 (hk.cell hp (by show ¬ w.heap.size = G; omega))).mono ?_
      rintro e w' ⟨rfl, h2, h3⟩
      exact ⟨rfl, _, F, rfl, h2, Turn.of_kept (h3.weaken fun k hk => hk ▸ h1.gG)⟩
    have Q := Lib.hid q
    clear q
    go_enter Tryz.func96, Tryz.ntmps96
    go_wp2_with fail
    refine Q.out.mono ?_
    intro e w' hd
    have hR := Lib.hid hd
    obtain rfl := hd.form
    clear hd
    go_wp2
    go_ret
    exact hR.out
end
end Go.Proofs.YtgagcncmlonciaaGreatDoor
namespace Go.Proofs.YtgagcncmlonciaaGreatDoor
open Go.RowKit Go.Maps Go.WideMaps
attribute [local go_sem] bs_toList bs_size

section
variable {w : World} {G : Nat} {S : FsS} {F : Nat → Prop}

theorem Append_step (h : FsMem w G S F) (hok : S.ok) (hs : S.steps ≤ 500000) (l b : List UInt8) (hb : b.length ≤ 1048576) {g : Nat} (hg : S.names.at l = some g) {w0 : World} (hbw : Below w0.heap.size w0 w) {p1 p2 : Nat}
    (hp1 : w.cell? ⟨p1, 0, none⟩ = some (.pointer (some ⟨g, 0, none⟩))) (hp2 : w.cell? ⟨p2, 0, none⟩ = some (.string (bs b))) (n1 : p1 ≠ G) (n2 : p2 ≠ G) :
    Calls Tryz.prog 97 #[.pointer (some ⟨G, 0, none⟩), .func (.func 157) #[] #[.pointer (some ⟨p1, 0, none⟩), .pointer (some ⟨p2, 0, none⟩)]] w fun e w' =>
      Did w0 w' G F e (S.step fun T => T.setFl g ((T.fl g).do (.app b))) := by
  refine (Fs_step_mem 157 #[] _ _ Array.empty_append (fun T => T = (fun T : FsS => T.setFl g ((T.fl g).do (.app b))) S.tick) (fun W => by go_simp) h hok hs ?_).mono fun e w' h => (Stepped.did h).before hbw
  intro w1 h1 hk
  have hf := hok.files g
  have hl := hf.nw_le
  have hc := hf.count
  unfold bytesMost at hl
  have hlive : S.tick.live g := ⟨S.names, by simp [FsS.dirs, FsS.tick], Nm.at_ids hg⟩
  refine (Append_do_mem b h1 hlive (by show (S.fl g).ch.length ≤ _; omega) (by show (S.fl g).nw.length + _ ≤ _; omega) (hk.cell hp1 n1) (hk.cell hp2 n2)).mono ?_
  rintro e w' ⟨rfl, F', h2, h3⟩
  exact ⟨rfl, _, F', rfl, h2, h3⟩

set_option maxRecDepth 100000 in
set_option maxHeartbeats 1000000 in
theorem Fs_Append_mem (h : FsMem w G S F) (hok : S.ok) (hs : S.steps ≤ 500000) (l b : List UInt8) (hl : l.length ≤ 1048576) (hb : b.length ≤ 1048576) :
    Calls Tryz.prog 92 #[.pointer (some ⟨G, 0, none⟩), .string (bs l), .string (bs b)] w fun e w' => Did w w' G F e (S.append l b) := by
  have hG := h.lt _ h.gG
  have hb1 := one_step w (.cells #[.string (bs b)] 9)
  have q := Fs_of_mem (h.below hb1) l hl
  have B2 := fun v => (boxes2 w (.string (bs b)) v 9 79)
  have stay : ∀ v r W, Below ((w.alloc (.cells #[.string (bs b)] 9)).alloc (.cells #[v] 79)).heap.size ((w.alloc (.cells #[.string (bs b)] 9)).alloc (.cells #[v] 79)) W → Did w W G F (.returned (.int .i64 r)) (S, r) := fun v r W hW =>
    did_none (h.below ((B2 v).1.trans (hW.mono (by simp; omega)))) ((B2 v).1.trans (hW.mono (by simp; omega))) r
  have N0 := Lib.hid stay
  unfold FsS.append
  rcases S.of_cases l with ⟨h1, h2⟩ | ⟨h1, h2, h3⟩ | ⟨g, h1, h2, h3⟩
  · rw [h1] at q ⊢
    simp only [ofVal] at q ⊢
    have Q := Lib.hid q
    clear q stay B2
    go_enter Tryz.func92, Tryz.ntmps92
    go_wp2_with fail
    refine Q.out.mono ?_
    rintro e w' ⟨rfl, rfl⟩
    go_wp2
    go_ret
    exact N0.out _ _ _ (Below.refl _ _)
  · rw [h1] at q ⊢
    simp only [ofVal] at q ⊢
    have Q := Lib.hid q
    clear q stay B2
    go_enter Tryz.func92, Tryz.ntmps92
    go_wp2_with fail
    refine Q.out.mono ?_
    rintro e w' ⟨rfl, rfl⟩
    go_wp2
    go_ret
    exact N0.out _ _ _ (Below.refl _ _)
  · rw [h1] at q ⊢
    simp only [ofVal] at q ⊢
    have Q := Lib.hid q
    obtain ⟨e1, e2, e3⟩ := B2 (.pointer (some ⟨g, 0, none⟩))
    have hM2 := h.below e1
    have QA : ∀ W, Below ((w.alloc (.cells #[.string (bs b)] 9)).alloc (.cells #[.pointer (some ⟨g, 0, none⟩)] 79)).heap.size ((w.alloc (.cells #[.string (bs b)] 9)).alloc (.cells #[.pointer (some ⟨g, 0, none⟩)] 79)) W →
        Calls Tryz.prog 97 #[.pointer (some ⟨G, 0, none⟩), .func (.func 157) #[] #[.pointer (some ⟨w.heap.size + 1, 0, none⟩), .pointer (some ⟨w.heap.size, 0, none⟩)]] W fun e w' =>
          Did w w' G F e (S.step fun T => T.setFl g ((T.fl g).do (.app b))) := fun W hW =>
      Append_step (h.below (e1.trans (hW.mono (by simp; omega)))) hok hs l b hb h3 (e1.trans (hW.mono (by simp; omega))) ((Below.cell hW (World.block_lt_of_cell? _ _ e3)).trans e3) ((Below.cell hW (World.block_lt_of_cell? _ _ e2)).trans e2) (by omega) (by omega)
    have HQ := Lib.hid QA
    have c3 : ((w.alloc (.cells #[.string (bs b)] 9)).alloc (.cells #[.pointer (some ⟨g, 0, none⟩)] 79)).cell? ⟨G, 3, none⟩ = some (.int .i64 S.room) := by
      obtain ⟨nb, sb, mv, mbs, chv, h⟩ := hM2
      exact h.fs.c.2.2.2.1
    have hz : S.size ≤ 35184372088832 := by
      have := size_bound hok hs (fun _ => false)
      rwa [sumDone_end _ _ _ (fun _ => rfl)] at this
    have qS := Lib.hid (fun W (hW : Below ((w.alloc (.cells #[.string (bs b)] 9)).alloc (.cells #[.pointer (some ⟨g, 0, none⟩)] 79)).heap.size ((w.alloc (.cells #[.string (bs b)] 9)).alloc (.cells #[.pointer (some ⟨g, 0, none⟩)] 79)) W) => Fs_Size_mem (hM2.below hW) hok hs)
    have k3 := Lib.hid (grow_cell c3)
    have kb := Lib.hid (grow_cell e2)
    generalize S.size = z at *
    clear q stay B2 e1 e2 e3 c3 QA hM2
    by_cases hgt : S.room < (z : Int) + b.length
    case' neg => have hle : (z : Int) + b.length ≤ S.room := by omega
    case' neg => rw [if_neg hgt]
    case' pos => rw [if_pos hgt]
    all_goals
      go_enter Tryz.func92, Tryz.ntmps92
      go_wp2_with fail
      refine Q.out.mono ?_
      rintro e w' ⟨rfl, rfl⟩
      go_wp2_with fail
      have k3' := k3.out
      have kb' := kb.out
      refine wp_region_at (R := GrowR) (by kernel_rfl) (by kernel_rfl) ?_
      (refine lx1 fun K hK => ?_; go_big_quiet_step (fail); refine wpQuiet_nil (hK _ ?_); clear hK K)
      refine lex_call (f := 156) (args := #[.pointer (some ⟨G, 0, none⟩)]) (v := .int .i64 (z : Int)) (by kernel_rfl) (fun _ _ h => by cases h) (by kernel_rfl) (by kernel_rfl) (fun _ => by go_simp) (fun W hW => (qS.out W hW).mono fun _ _ ⟨h1, h2⟩ => ⟨h1, (Turns.trans (R := GrowR) (Turns.refl _) h2)⟩) (lex_put (type := 0) (pos := "") (fun K hK => ?_)); go_big_quiet_step (fail); refine wpQuiet_nil (hK _ ?_); clear hK K
      (refine lx1 fun K hK => ?_; go_big_quiet_step (fail); refine wpQuiet_nil (hK _ ?_); clear hK K)
      refine lex_val (v := .int .i64 (b.length : Int)) (by kernel_rfl) (fun _ _ h => by cases h) (by kernel_rfl) (by kernel_rfl) (fun _ _ => by go_simp) (lex_put (type := 0) (pos := "") (fun K hK => ?_)); go_big_quiet_step (fail); refine wpQuiet_nil (hK _ ?_); clear hK K
      (repeat (refine lx1 fun K hK => ?_); go_big_quiet_step (fail); refine wpQuiet_nil (hK _ ?_); clear hK K)
      refine lxn ?_
      intro W3 hW3
      simp only [hideAll]
    · go_wp2
      go_ret
      exact N0.out _ _ _ hW3
    · go_wp2_with fail
      refine (HQ.out W3 hW3).mono ?_
      intro e w' hd
      have hR := Lib.hid hd
      obtain rfl := hd.form
      clear hd
      go_wp2
      go_ret
      exact hR.out
end
end Go.Proofs.YtgagcncmlonciaaGreatDoor
