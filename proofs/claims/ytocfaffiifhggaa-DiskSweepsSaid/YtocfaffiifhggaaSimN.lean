/- Files on a machine: Append, Cut, SyncDir. -/
import Derived.Test.YtocfaffiifhggaaSimM
import Derived.RegionTactic
import Derived.ChangeAlike
namespace Go.Proofs.Ytocfaffiifhggaa
open Go.RowKit Go.Maps Go.WideMaps
attribute [local go_sem] bs_toList bs_size

section
variable {w : World} {G : Nat} {S : FsS} {F : Nat → Prop}

theorem file_do_mem {g : Nat} (c : Chg) (h : FsMem w G S F) (hg : S.live g) (hn : (S.fl g).ch.length ≤ 1000000) (hf : c.fits (S.fl g).nw) :
    Calls Try.prog 30 #[.pointer (some ⟨g, 0, none⟩), c.val] w fun e w' => e = .returned (.tuple #[]) ∧ ∃ F', FsMem w' G (S.setFl g ((S.fl g).do c)) F' ∧ Turn w w' F F' := by
  obtain ⟨nb, sb, mv, mbs, chv, h⟩ := h
  obtain ⟨h1, h2⟩ := h.fl g hg
  refine (file_do_any c h1 h2 (fun e => ?_) (Nat.zero_le _) hn hf).mono ?_
  · exact absurd ((h.tagC hg e).symm.trans (h.tagF hg)) (by simp)
  · rintro e w' ⟨rfl, ch', e1, e2, e3, e4⟩
    obtain ⟨F', r1, r2⟩ := h.file (x := (S.fl g).do c) hg e1 e2 (fun k hk => by
      rcases e3 with e3 | ⟨j, e3, e5⟩
      · exact .inl (e3 ▸ hk)
      · rw [e3] at hk
        obtain rfl := Option.some.inj hk
        exact .inr e5) e4
    exact ⟨rfl, F', ⟨_, _, _, _, _, r1⟩, r2⟩

set_option maxRecDepth 100000 in
theorem Append_do_mem {g p1 p2 : Nat} (b : List UInt8) (h : FsMem w G S F) (hg : S.live g) (hn : (S.fl g).ch.length ≤ 1000000) (hf : (S.fl g).nw.length + b.length ≤ 1099511627776)
    (hp1 : w.cell? ⟨p1, 0, none⟩ = some (.pointer (some ⟨g, 0, none⟩))) (hp2 : w.cell? ⟨p2, 0, none⟩ = some (.string (bs b))) :
    Calls Try.prog 29 #[.pointer (some ⟨p1, 0, none⟩), .pointer (some ⟨p2, 0, none⟩)] w fun e w' => e = .returned (.tuple #[]) ∧ ∃ F', FsMem w' G (S.setFl g ((S.fl g).do (.app b))) F' ∧ Turn w w' F F' := by
  have q := Lib.hid (file_do_mem (.app b) h hg hn hf)
  go_enter Try.func29, Try.ntmps29
  go_wp2_with fail
  refine q.out.mono ?_
  rintro e w' ⟨rfl, hr⟩
  have hR := Lib.hid hr
  clear hr
  go_wp2
  go_end0
  exact ⟨rfl, hR.out⟩

set_option maxRecDepth 100000 in
theorem Cut_do_mem {g p1 p2 : Nat} (n : Nat) (h : FsMem w G S F) (hg : S.live g) (hn : (S.fl g).ch.length ≤ 1000000) (hf : n ≤ (S.fl g).nw.length ∧ (S.fl g).nw.length ≤ 1099511627776)
    (hp1 : w.cell? ⟨p1, 0, none⟩ = some (.pointer (some ⟨g, 0, none⟩))) (hp2 : w.cell? ⟨p2, 0, none⟩ = some (.int .i64 (n : Int))) :
    Calls Try.prog 60 #[.pointer (some ⟨p1, 0, none⟩), .pointer (some ⟨p2, 0, none⟩)] w fun e w' => e = .returned (.tuple #[]) ∧ ∃ F', FsMem w' G (S.setFl g ((S.fl g).do (.cut n))) F' ∧ Turn w w' F F' := by
  have q := Lib.hid (file_do_mem (.cut n) h hg hn hf)
  go_enter Try.func60, Try.ntmps60
  go_wp2_with fail
  refine q.out.mono ?_
  rintro e w' ⟨rfl, hr⟩
  have hR := Lib.hid hr
  clear hr
  go_wp2
  go_end0
  exact ⟨rfl, hR.out⟩

set_option maxRecDepth 100000 in
theorem SyncDir_do_mem {p : Nat} (h : FsMem w G S F) (hp : w.cell? ⟨p, 0, none⟩ = some (.pointer (some ⟨G, 0, none⟩))) :
    Calls Try.prog 57 #[.pointer (some ⟨p, 0, none⟩)] w fun e w' => e = .returned (.tuple #[]) ∧ FsMem w' G { S with synced := S.names, moves := [] } F ∧ Kept w w' (fun k => k = G) := by
  obtain ⟨nb, sb, mv, mbs, chv, h⟩ := h
  obtain ⟨c0, c1, c2, c3, c4, c5, c6⟩ := h.fs.c
  have f1 := h.fs.f 1
  have f2 := h.fs.f 2
  have hP : FsAt ((w.setCell ⟨G, 1, none⟩ (.map (some nb))).setCell ⟨G, 2, none⟩ (.slice none 0 0)).drew G nb nb (.slice none 0 0) S.room S.steps S.fuse S.dead := (Blk.set_ (Blk.set_ h.fs 1 (.map (some nb))) 2 (.slice none 0 0))
  have hg0 : w.grownBy ((w.setCell ⟨G, 1, none⟩ (.map (some nb))).setCell ⟨G, 2, none⟩ (.slice none 0 0)) (some G) := grown_trans' (grown_set _ _ _ _) (grown_set _ _ _ _)
  have hg : w.grownBy ((w.setCell ⟨G, 1, none⟩ (.map (some nb))).setCell ⟨G, 2, none⟩ (.slice none 0 0)).drew (some G) := ⟨hg0.os, hg0.tape, hg0.output, hg0.size, hg0.block⟩
  have hS := h.settle (N := S.names) (M := S.names) hg hP (by simp [FsS.dirs]) (by simp [FsS.dirs]) h.oN h.oN h.nm h.nm
  have R := Lib.hid (And.intro hS hg)
  clear hP hg0 hg hS
  go_enter Try.func57, Try.ntmps57
  go_wp2
  go_region
  all_goals
    go_end0
    exact ⟨rfl, ⟨_, _, _, _, _, R.out.1⟩, Kept.of_grown R.out.2 fun k hk => (Option.some.inj hk).symm⟩

set_option maxRecDepth 100000 in
theorem Fs_SyncDir_mem (h : FsMem w G S F) (hok : S.ok) (hs : S.steps ≤ 500000) :
    Calls Try.prog 35 #[.pointer (some ⟨G, 0, none⟩)] w fun e w' => Did w w' G F e S.syncDir := by
  have hlt := h.lt _ h.gG
  have hb := one_step w (.cells #[.pointer (some ⟨G, 0, none⟩)] 24)
  have hM := h.below hb
  have hp := new_cell w (.pointer (some ⟨G, 0, none⟩)) 24
  unfold FsS.syncDir
  have c6 : (w.alloc (.cells #[.pointer (some ⟨G, 0, none⟩)] 24)).cell? ⟨G, 6, none⟩ = some (.bool S.dead) := by
    obtain ⟨nb, sb, mv, mbs, chv, h⟩ := hM
    exact h.fs.c.2.2.2.2.2.2
  cases hd : S.dead with
  | true =>
    rw [hd] at c6
    go_enter Try.func35, Try.ntmps35
    go_wp2
    go_ret
    exact did_none hM hb _
  | false =>
    rw [hd] at c6
    have q : Calls Try.prog 28 #[.pointer (some ⟨G, 0, none⟩), .func (.func 57) #[] #[.pointer (some ⟨w.heap.size, 0, none⟩)]] (w.alloc (.cells #[.pointer (some ⟨G, 0, none⟩)] 24)) fun e w' =>
        Did w w' G F e (S.step fun T => { T with synced := T.names, moves := [] }) := by
      refine (Fs_step_mem 57 #[] _ _ Array.empty_append (fun T => T = (fun T : FsS => { T with synced := T.names, moves := [] }) S.tick) (fun W => by go_simp) hM hok hs ?_).mono fun e w' h => (Stepped.did h).before hb
      intro w1 h1 hk
      refine (SyncDir_do_mem h1 (hk.cell hp (by show ¬ w.heap.size = G; omega))).mono ?_
      rintro e w' ⟨rfl, h2, h3⟩
      exact ⟨rfl, _, F, rfl, h2, Turn.of_kept (h3.weaken fun k hk => hk ▸ h1.gG)⟩
    have Q := Lib.hid q
    clear q
    go_enter Try.func35, Try.ntmps35
    go_wp2_with fail
    refine Q.out.mono ?_
    intro e w' hd
    have hR := Lib.hid hd
    obtain rfl := hd.form
    clear hd
    go_wp2
    go_ret
    exact hR.out
end
end Go.Proofs.Ytocfaffiifhggaa
