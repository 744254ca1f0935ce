/- Files on a machine: Append, Cut. -/
import Derived.Test.YtocfaffiifhggaaSimN
namespace Go.Proofs.Ytocfaffiifhggaa
open Go.RowKit Go.Maps Go.WideMaps
attribute [local go_sem] bs_toList bs_size

section
variable {w : World} {G : Nat} {S : FsS} {F : Nat → Prop}

theorem Append_step (h : FsMem w G S F) (hok : S.ok) (hs : S.steps ≤ 500000) (l b : List UInt8) (hb : b.length ≤ 1048576) {g : Nat} (hg : S.names.at l = some g) {w0 : World} (hbw : Below w0.heap.size w0 w) {p1 p2 : Nat}
    (hp1 : w.cell? ⟨p1, 0, none⟩ = some (.pointer (some ⟨g, 0, none⟩))) (hp2 : w.cell? ⟨p2, 0, none⟩ = some (.string (bs b))) (n1 : p1 ≠ G) (n2 : p2 ≠ G) :
    Calls Try.prog 28 #[.pointer (some ⟨G, 0, none⟩), .func (.func 29) #[] #[.pointer (some ⟨p1, 0, none⟩), .pointer (some ⟨p2, 0, none⟩)]] w fun e w' =>
      Did w0 w' G F e (S.step fun T => T.setFl g ((T.fl g).do (.app b))) := by
  refine (Fs_step_mem 29 #[] _ _ Array.empty_append (fun T => T = (fun T : FsS => T.setFl g ((T.fl g).do (.app b))) S.tick) (fun W => by go_simp) h hok hs ?_).mono fun e w' h => (Stepped.did h).before hbw
  intro w1 h1 hk
  have hf := hok.files g
  have hl := hf.nw_le
  have hc := hf.count
  unfold bytesMost at hl
  have hlive : S.tick.live g := ⟨S.names, by simp [FsS.dirs, FsS.tick], Nm.at_ids hg⟩
  refine (Append_do_mem b h1 hlive (by show (S.fl g).ch.length ≤ _; omega) (by show (S.fl g).nw.length + _ ≤ _; omega) (hk.cell hp1 n1) (hk.cell hp2 n2)).mono ?_
  rintro e w' ⟨rfl, F', h2, h3⟩
  exact ⟨rfl, _, F', rfl, h2, h3⟩

set_option maxRecDepth 100000 in
set_option maxHeartbeats 1000000 in
theorem Fs_Append_mem (h : FsMem w G S F) (hok : S.ok) (hs : S.steps ≤ 500000) (l b : List UInt8) (hl : l.length ≤ 1048576) (hb : b.length ≤ 1048576) :
    Calls Try.prog 11 #[.pointer (some ⟨G, 0, none⟩), .string (bs l), .string (bs b)] w fun e w' => Did w w' G F e (S.append l b) := by
  have hG := h.lt _ h.gG
  have hb1 := one_step w (.cells #[.string (bs b)] 9)
  have q := Fs_of_mem (h.below hb1) l hl
  have B2 := fun v => (boxes2 w (.string (bs b)) v 9 50)
  have stay : ∀ v r W, Below ((w.alloc (.cells #[.string (bs b)] 9)).alloc (.cells #[v] 50)).heap.size ((w.alloc (.cells #[.string (bs b)] 9)).alloc (.cells #[v] 50)) W → Did w W G F (.returned (.int .i64 r)) (S, r) := fun v r W hW =>
    did_none (h.below ((B2 v).1.trans (hW.mono (by simp; omega)))) ((B2 v).1.trans (hW.mono (by simp; omega))) r
  have N0 := Lib.hid stay
  unfold FsS.append
  rcases S.of_cases l with ⟨h1, h2⟩ | ⟨h1, h2, h3⟩ | ⟨g, h1, h2, h3⟩
  · rw [h1] at q ⊢
    simp only [ofVal] at q ⊢
    have Q := Lib.hid q
    clear q stay B2
    go_enter Try.func11, Try.ntmps11
    go_wp2_with fail
    refine Q.out.mono ?_
    rintro e w' ⟨rfl, rfl⟩
    go_wp2
    go_ret
    exact N0.out _ _ _ (Below.refl _ _)
  · rw [h1] at q ⊢
    simp only [ofVal] at q ⊢
    have Q := Lib.hid q
    clear q stay B2
    go_enter Try.func11, Try.ntmps11
    go_wp2_with fail
    refine Q.out.mono ?_
    rintro e w' ⟨rfl, rfl⟩
    go_wp2
    go_ret
    exact N0.out _ _ _ (Below.refl _ _)
  · rw [h1] at q ⊢
    simp only [ofVal] at q ⊢
    have Q := Lib.hid q
    obtain ⟨e1, e2, e3⟩ := B2 (.pointer (some ⟨g, 0, none⟩))
    have hM2 := h.below e1
    have QA : ∀ W, Below ((w.alloc (.cells #[.string (bs b)] 9)).alloc (.cells #[.pointer (some ⟨g, 0, none⟩)] 50)).heap.size ((w.alloc (.cells #[.string (bs b)] 9)).alloc (.cells #[.pointer (some ⟨g, 0, none⟩)] 50)) W →
        Calls Try.prog 28 #[.pointer (some ⟨G, 0, none⟩), .func (.func 29) #[] #[.pointer (some ⟨w.heap.size + 1, 0, none⟩), .pointer (some ⟨w.heap.size, 0, none⟩)]] W fun e w' =>
          Did w w' G F e (S.step fun T => T.setFl g ((T.fl g).do (.app b))) := fun W hW =>
      Append_step (h.below (e1.trans (hW.mono (by simp; omega)))) hok hs l b hb h3 (e1.trans (hW.mono (by simp; omega))) ((Below.cell hW (World.block_lt_of_cell? _ _ e3)).trans e3) ((Below.cell hW (World.block_lt_of_cell? _ _ e2)).trans e2) (by omega) (by omega)
    have HQ := Lib.hid QA
    have c3 : ((w.alloc (.cells #[.string (bs b)] 9)).alloc (.cells #[.pointer (some ⟨g, 0, none⟩)] 50)).cell? ⟨G, 3, none⟩ = some (.int .i64 S.room) := by
      obtain ⟨nb, sb, mv, mbs, chv, h⟩ := hM2
      exact h.fs.c.2.2.2.1
    have hz : S.size ≤ 35184372088832 := by
      have := size_bound hok hs (fun _ => false)
      rwa [sumDone_end _ _ _ (fun _ => rfl)] at this
    have qS := Lib.hid (fun W (hW : Below ((w.alloc (.cells #[.string (bs b)] 9)).alloc (.cells #[.pointer (some ⟨g, 0, none⟩)] 50)).heap.size ((w.alloc (.cells #[.string (bs b)] 9)).alloc (.cells #[.pointer (some ⟨g, 0, none⟩)] 50)) W) => Fs_Size_mem (hM2.below hW) hok hs)
    have k3 := Lib.hid (grow_cell c3)
    have kb := Lib.hid (grow_cell e2)
    generalize S.size = z at *
    clear q stay B2 e1 e2 e3 c3 QA hM2
    by_cases hgt : S.room < (z : Int) + b.length
    case' neg => have hle : (z : Int) + b.length ≤ S.room := by omega
    case' neg => rw [if_neg hgt]
    case' pos => rw [if_pos hgt]
    all_goals
      go_enter Try.func11, Try.ntmps11
      go_wp2_with fail
      refine Q.out.mono ?_
      rintro e w' ⟨rfl, rfl⟩
      go_wp2_with fail
      have k3' := k3.out
      have kb' := kb.out
      refine wp_region_at (R := GrowR) (by kernel_rfl) (by kernel_rfl) ?_
      (refine lex_one (by kernel_rfl) (by kernel_rfl) (by kernel_rfl) (fun K hK => ?_); go_big_quiet_step (fail); refine wpQuiet_nil (hK _ ?_); clear hK K)
      refine lex_call (f := 27) (args := #[.pointer (some ⟨G, 0, none⟩)]) (v := .int .i64 (z : Int)) (by kernel_rfl) (fun _ _ h => by cases h) (by kernel_rfl) (by kernel_rfl) (fun _ => by go_simp) (fun W hW => (qS.out W hW).mono fun _ _ ⟨h1, h2⟩ => ⟨h1, (Turns.trans (R := GrowR) (Turns.refl _) h2)⟩) (lex_put (type := 0) (pos := "") (fun K hK => ?_)); go_big_quiet_step (fail); refine wpQuiet_nil (hK _ ?_); clear hK K
      (refine lex_one (by kernel_rfl) (by kernel_rfl) (by kernel_rfl) (fun K hK => ?_); go_big_quiet_step (fail); refine wpQuiet_nil (hK _ ?_); clear hK K)
      refine lex_val (v := .int .i64 (b.length : Int)) (by kernel_rfl) (fun _ _ h => by cases h) (by kernel_rfl) (by kernel_rfl) (fun _ _ => by go_simp) (lex_put (type := 0) (pos := "") (fun K hK => ?_)); go_big_quiet_step (fail); refine wpQuiet_nil (hK _ ?_); clear hK K
      (repeat (refine lex_one (by kernel_rfl) (by kernel_rfl) (by kernel_rfl) (fun K hK => ?_); go_big_quiet_step (fail); refine wpQuiet_nil (hK _ ?_); clear hK K))
      refine lex_nil (by kernel_rfl) (by kernel_rfl) (by kernel_rfl) ?_
      intro W3 hW3
      simp only [hideAll]
    · go_wp2
      go_ret
      exact N0.out _ _ _ hW3
    · go_wp2_with fail
      refine (HQ.out W3 hW3).mono ?_
      intro e w' hd
      have hR := Lib.hid hd
      obtain rfl := hd.form
      clear hd
      go_wp2
      go_ret
      exact hR.out
end
end Go.Proofs.Ytocfaffiifhggaa
