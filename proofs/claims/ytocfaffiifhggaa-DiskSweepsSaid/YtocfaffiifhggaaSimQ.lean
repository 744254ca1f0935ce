/- Files on a machine: Cut. -/
import Derived.Test.YtocfaffiifhggaaSimO
import Derived.Deep.QuietTactic
import Derived.BigQuiet
namespace Go.Proofs.Ytocfaffiifhggaa
open Go.RowKit Go.Maps Go.WideMaps
attribute [local go_sem] bs_toList bs_size

theorem below_drewN (w : World) (n : Nat) : Below w.heap.size w (w.drewN n) := ⟨rfl, rfl, rfl, Nat.le_refl _, fun _ _ => rfl⟩

section
variable {w : World} {G : Nat} {S : FsS} {F : Nat → Prop}

theorem Cut_step (h : FsMem w G S F) (hok : S.ok) (hs : S.steps ≤ 500000) (l : List UInt8) (n : Nat) {g : Nat} (hg : S.names.at l = some g) (hn : n ≤ (S.fl g).nw.length) {w0 : World} (hbw : Below w0.heap.size w0 w) {p1 p2 : Nat}
    (hp1 : w.cell? ⟨p1, 0, none⟩ = some (.pointer (some ⟨g, 0, none⟩))) (hp2 : w.cell? ⟨p2, 0, none⟩ = some (.int .i64 (n : Int))) (n1 : p1 ≠ G) (n2 : p2 ≠ G) :
    Calls Try.prog 28 #[.pointer (some ⟨G, 0, none⟩), .func (.func 60) #[] #[.pointer (some ⟨p1, 0, none⟩), .pointer (some ⟨p2, 0, none⟩)]] w fun e w' =>
      Did w0 w' G F e (S.step fun T => T.setFl g ((T.fl g).do (.cut n))) := by
  refine (Fs_step_mem 60 #[] _ _ Array.empty_append (fun T => T = (fun T : FsS => T.setFl g ((T.fl g).do (.cut n))) S.tick) (fun W => by go_simp) h hok hs ?_).mono fun e w' h => (Stepped.did h).before hbw
  intro w1 h1 hk
  have hf := hok.files g
  have hl := hf.nw_le
  have hc := hf.count
  unfold bytesMost at hl
  have hlive : S.tick.live g := ⟨S.names, by simp [FsS.dirs, FsS.tick], Nm.at_ids hg⟩
  refine (Cut_do_mem n h1 hlive (by show (S.fl g).ch.length ≤ _; omega) ⟨hn, by show (S.fl g).nw.length ≤ _; omega⟩ (hk.cell hp1 n1) (hk.cell hp2 n2)).mono ?_
  rintro e w' ⟨rfl, F', h2, h3⟩
  exact ⟨rfl, _, F', rfl, h2, h3⟩

set_option maxRecDepth 100000 in
set_option maxHeartbeats 1000000 in
theorem Fs_Cut_mem (h : FsMem w G S F) (hok : S.ok) (hs : S.steps ≤ 500000) (l : List UInt8) (n : Int) (hl : l.length ≤ 1048576) :
    Calls Try.prog 48 #[.pointer (some ⟨G, 0, none⟩), .string (bs l), .int .i64 n] w fun e w' => Did w w' G F e (S.cut l n) := by
  have hG := h.lt _ h.gG
  have hb1 := one_step w (.cells #[.int .i64 n] 3)
  have q := Fs_of_mem (h.below hb1) l hl
  have B2 := fun v => (boxes2 w (.int .i64 n) v 3 50)
  have stay : ∀ v r W, Below ((w.alloc (.cells #[.int .i64 n] 3)).alloc (.cells #[v] 50)).heap.size ((w.alloc (.cells #[.int .i64 n] 3)).alloc (.cells #[v] 50)) W → Did w W G F (.returned (.int .i64 r)) (S, r) := fun v r W hW =>
    did_none (h.below ((B2 v).1.trans (hW.mono (by simp; omega)))) ((B2 v).1.trans (hW.mono (by simp; omega))) r
  have N0 := Lib.hid stay
  unfold FsS.cut
  rcases S.of_cases l with ⟨h1, h2⟩ | ⟨h1, h2, h3⟩ | ⟨g, h1, h2, h3⟩
  · rw [h1] at q ⊢
    simp only [ofVal] at q ⊢
    have Q := Lib.hid q
    clear q stay B2
    go_enter Try.func48, Try.ntmps48
    go_wp2_with fail
    refine Q.out.mono ?_
    rintro e w' ⟨rfl, rfl⟩
    go_wp2
    go_ret
    exact N0.out _ _ _ (Below.refl _ _)
  · rw [h1] at q ⊢
    simp only [ofVal] at q ⊢
    have Q := Lib.hid q
    clear q stay B2
    go_enter Try.func48, Try.ntmps48
    go_wp2_with fail
    refine Q.out.mono ?_
    rintro e w' ⟨rfl, rfl⟩
    go_wp2
    go_ret
    exact N0.out _ _ _ (Below.refl _ _)
  · rw [h1] at q ⊢
    simp only [ofVal] at q ⊢
    have Q := Lib.hid q
    obtain ⟨e1, e2, e3⟩ := B2 (.pointer (some ⟨g, 0, none⟩))
    have hM2 := h.below e1
    have QA : ¬ (n < 0 ∨ ((S.fl g).nw.length : Int) < n) → ∀ W, Below ((w.alloc (.cells #[.int .i64 n] 3)).alloc (.cells #[.pointer (some ⟨g, 0, none⟩)] 50)).heap.size ((w.alloc (.cells #[.int .i64 n] 3)).alloc (.cells #[.pointer (some ⟨g, 0, none⟩)] 50)) W →
        Calls Try.prog 28 #[.pointer (some ⟨G, 0, none⟩), .func (.func 60) #[] #[.pointer (some ⟨w.heap.size + 1, 0, none⟩), .pointer (some ⟨w.heap.size, 0, none⟩)]] W fun e w' =>
          Did w w' G F e (S.step fun T => T.setFl g ((T.fl g).do (.cut n.toNat))) := fun hn W hW =>
      Cut_step (h.below (e1.trans (hW.mono (by simp; omega)))) hok hs l n.toNat h3 (by omega) (e1.trans (hW.mono (by simp; omega))) ((Below.cell hW (World.block_lt_of_cell? _ _ e3)).trans e3) ((Below.cell hW (World.block_lt_of_cell? _ _ e2)).trans (by rw [e2, Int.toNat_of_nonneg (by omega)])) (by omega) (by omega)
    obtain ⟨cs, hF⟩ : ∃ ch, FileAt ((w.alloc (.cells #[.int .i64 n] 3)).alloc (.cells #[.pointer (some ⟨g, 0, none⟩)] 50)) g (S.fl g).sy (S.fl g).nw ch := by
      obtain ⟨nb, sb, mv, mbs, chv, h⟩ := hM2
      exact ⟨_, (h.fl g (h.liveN h3)).1⟩
    have c1 := hF.c.2.1
    have hlen : (S.fl g).nw.length ≤ 1099511627776 := by
      have := (hok.files g).nw_le
      unfold bytesMost at this
      omega
    generalize (S.fl g).nw = nw at *
    rcases (show n < 0 ∨ (0 ≤ n ∧ (nw.length : Int) < n) ∨ (0 ≤ n ∧ n ≤ (nw.length : Int)) by omega) with hc | ⟨hc0, hc⟩ | ⟨hc0, hc⟩
    · rw [if_pos (.inl hc)]
      have d1 : decide (n < 0) = true := by simpa using hc
      clear q stay B2 e1 QA hM2 hF
      go_enter Try.func48, Try.ntmps48
      go_wp2_with fail
      refine Q.out.mono ?_
      rintro e w' ⟨rfl, rfl⟩
      go_wp2_with fail
      go_quiet (fail)
      go_wp2
      go_ret
      exact N0.out (.pointer (some ⟨g, 0, none⟩)) _ _ (below_drewN _ _)
    · rw [if_pos (.inr hc)]
      have d1 : decide (n < 0) = false := by simp; omega
      clear q stay B2 e1 QA hM2 hF
      go_enter Try.func48, Try.ntmps48
      go_wp2_with fail
      refine Q.out.mono ?_
      rintro e w' ⟨rfl, rfl⟩
      go_wp2_with fail
      go_quiet (fail)
      go_wp2
      go_ret
      exact N0.out (.pointer (some ⟨g, 0, none⟩)) _ _ (below_drewN _ _)
    · rw [if_neg (by omega)]
      have HQ := Lib.hid (QA (by omega))
      have d1 : decide (n < 0) = false := by simp; omega
      clear q stay B2 e1 QA hM2 hF
      go_enter Try.func48, Try.ntmps48
      go_wp2_with fail
      refine Q.out.mono ?_
      rintro e w' ⟨rfl, rfl⟩
      go_wp2_with fail
      go_quiet (fail)
      go_wp2_with fail
      refine (HQ.out _ (below_drewN _ _)).mono ?_
      intro e w' hd
      have hR := Lib.hid hd
      obtain rfl := hd.form
      clear hd
      go_wp2
      go_ret
      exact hR.out
end
end Go.Proofs.Ytocfaffiifhggaa
