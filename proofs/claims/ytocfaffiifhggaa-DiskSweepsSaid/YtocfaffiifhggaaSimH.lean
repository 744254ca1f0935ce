/- Files on a machine: names become others. -/
import Derived.Test.YtocfaffiifhggaaSimG
import Derived.Test.YtocfaffiifhggaaLexa
namespace Go.Proofs.Ytocfaffiifhggaa
open Go.RowKit Go.Maps Go.WideMaps

theorem grow_cell {w : World} {p : Addr} {v : Value} (h : w.cell? p = some v) : ∀ x : RW GrowR w, x.w.cell? p = some v := fun x => (Below.cell (show Below w.heap.size w x.w from x.is) (World.block_lt_of_cell? _ _ h)).trans h
theorem Kept.then_new {a b c : World} {S : Nat → Prop} {k : Nat} (h : Kept a b S) (g : b.grownBy c (some k)) (hk : a.heap.size ≤ k) : Kept a c S :=
  ⟨g.os.trans h.os, g.tape.trans h.tape, g.output.trans h.output, Nat.le_trans h.size g.size, fun i hi hn => (g.block i (Nat.lt_of_lt_of_le hi h.size) (fun e => by have := Option.some.inj e; omega)).trans (h.block i hi hn)⟩

section
variable {w : World} {G nb sb : Nat} {S : FsS} {F : Nat → Prop} {mv : Value} {mbs : List Nat} {chv : Nat → Value}

set_option maxRecDepth 100000 in
set_option maxHeartbeats 1000000 in
theorem Fs_move_do_any {p2 p3 : Nat} {cf : FuncId} {cc : Array Value} (RN : Nm → Prop) (h : FsIs w G S F nb sb mv mbs chv) (hm : S.moves.length ≤ 1000000) (hp2 : Blk w p2 24 #[.pointer (some ⟨G, 0, none⟩)]) (hp3 : Blk w p3 58 #[.func (.func cf) #[] cc])
    (hcf : ∀ b W, (callFunc cf (#[.map (some b)] ++ cc)).run Try.prog W = .ok (.enter cf (#[.map (some b)] ++ cc)) W)
    (hch : ∀ w1 b, Kept w w1 (fun k => k = G) → w.heap.size ≤ b → Dir w1 b S.names.length S.names.data → Calls Try.prog cf (#[.map (some b)] ++ cc) w1 fun e w' => e = .returned (.tuple #[]) ∧
      ∃ N : Nm, RN N ∧ Dir w' b N.length N.data ∧ w1.grownBy w' (some b) ∧ ∀ g ∈ N.ids, S.live g ∨ (w.heap.size ≤ g ∧ FileAt w' g [] [] (.slice none 0 0))) :
    Calls Try.prog 50 #[.pointer (some ⟨p2, 0, none⟩), .pointer (some ⟨p3, 0, none⟩)] w fun e w' => e = .returned (.tuple #[]) ∧
      ∃ N F', RN N ∧ FsMem w' G (S.moved N) F' ∧ Turn w w' F F' := by
  obtain ⟨c0, c1, c2, c3, c4, c5, c6⟩ := h.fs.c
  have e2 : w.cell? ⟨p2, 0, none⟩ = some (.pointer (some ⟨G, 0, none⟩)) := (Blk.cell hp2 0).trans rfl
  have e3 : w.cell? ⟨p3, 0, none⟩ = some (.func (.func cf) #[] cc) := (Blk.cell hp3 0).trans rfl
  have k0 := grow_cell c0
  have k2 := grow_cell e2
  go_enter Try.func50, Try.ntmps50
  go_wp2_with fail
  refine wp_region_led (R := GrowR) (by kernel_rfl) (by kernel_rfl) rfl (by kernel_rfl) ?_
  (refine lex_one (by kernel_rfl) (by kernel_rfl) (by kernel_rfl) (fun K hK => ?_); go_big_quiet_step (fail); refine wpQuiet_nil (hK _ ?_); clear hK K)
  (refine lex_one (by kernel_rfl) (by kernel_rfl) (by kernel_rfl) (fun K hK => ?_); go_big_quiet_step (fail); refine wpQuiet_nil (hK _ ?_); clear hK K)
  (refine lex_one (by kernel_rfl) (by kernel_rfl) (by kernel_rfl) (fun K hK => ?_); go_big_quiet_step (fail); refine wpQuiet_nil (hK _ ?_); clear hK K)
  (refine lex_one (by kernel_rfl) (by kernel_rfl) (by kernel_rfl) (fun K hK => ?_); go_big_quiet_step (fail); refine wpQuiet_nil (hK _ ?_); clear hK K)
  (refine lex_one (by kernel_rfl) (by kernel_rfl) (by kernel_rfl) (fun K hK => ?_); go_big_quiet_step (fail); refine wpQuiet_nil (hK _ ?_); clear hK K)
  refine lex_callh (f := 51) (args := #[.map (some nb)]) (r := fun x W => ∃ b, x = .map (some b) ∧ w.heap.size ≤ b ∧ Dir W b S.names.length S.names.data) ?_ (by kernel_rfl) (fun _ _ h => by cases h) (by kernel_rfl) rfl (fun _ => by go_simp) ?_ ?_
  · rintro x W W' ⟨b, rfl, hb, hD⟩ hR
    exact ⟨b, rfl, hb, hD.kept (Kept.of_below (S := fun _ => False) hR) (fun e => e)⟩
  · intro W hW
    refine (clone_any (h.nm.kept (Kept.of_below (S := fun _ => False) hW) (fun e => e))).mono ?_
    rintro e W' ⟨rfl, hD, hb⟩
    exact ⟨_, rfl, hb, _, rfl, hW.size, hD⟩
  (refine lex_one (by kernel_rfl) (by kernel_rfl) (by kernel_rfl) (fun K hK => ?_); go_big_quiet_step (fail); refine wpQuiet_nil (hK _ ?_); clear hK K)
  (refine lex_one (by kernel_rfl) (by kernel_rfl) (by kernel_rfl) (fun K hK => ?_); go_big_quiet_step (fail); refine wpQuiet_nil (hK _ ?_); clear hK K)
  refine lex_nil (by kernel_rfl) (by kernel_rfl) (by kernel_rfl) ?_
  intro W hW
  simp only [hideAll]
  rintro x ⟨b, rfl, hb, hD⟩
  have hFW : FsAt W G nb sb mv S.room S.steps S.fuse S.dead := Blk.below h.fs hW (Blk.lt h.fs)
  have f0 := Blk.frozen hFW 0
  have d0 : W.cell? ⟨G, 0, none⟩ = some (.map (some nb)) := (Blk.cell hFW 0).trans rfl
  have hP : FsAt (W.setCell ⟨G, 0, none⟩ (.map (some b))) G b sb mv S.room S.steps S.fuse S.dead := Blk.set_ hFW 0 (.map (some b))
  have n2 : p2 ≠ G := fun e => by
    subst e
    exact absurd ((tag_blk hp2).symm.trans h.tagG) (by simp)
  have n3 : p3 ≠ G := fun e => by
    subst e
    exact absurd ((tag_blk hp3).symm.trans h.tagG) (by simp)
  have nb : b ≠ G := fun e => by
    subst e
    exact absurd ((tag_dir hD).symm.trans (tag_blk hFW)) (by simp)
  have g2 := Blk.far (p := ⟨G, 0, none⟩) (Blk.below hp2 hW (Blk.lt hp2)) n2 (.map (some b))
  have g3 := Blk.far (p := ⟨G, 0, none⟩) (Blk.below hp3 hW (Blk.lt hp3)) n3 (.map (some b))
  have hK : Kept w (W.setCell ⟨G, 0, none⟩ (.map (some b))) (fun k => k = G) := (Kept.of_below hW).trans (Kept.of_grown (grown_set _ _ _ _) fun k hk => (Option.some.inj hk).symm)
  have hDW := hD.kept (w' := W.setCell ⟨G, 0, none⟩ (.map (some b))) (S := fun k => k = G) (Kept.of_grown (grown_set _ _ _ _) fun k hk => (Option.some.inj hk).symm) nb
  clear k0 k2 c0 c1 c2 c3 c4 c5 c6 e2 e3
  go_wp2_with fail
  generalize W.setCell ⟨G, 0, none⟩ (.map (some b)) = W1 at *
  have q0 := grow_cell ((Blk.cell hP 0).trans rfl : W1.cell? ⟨G, 0, none⟩ = some (.map (some b)))
  have q2 := grow_cell ((Blk.cell g2 0).trans rfl : W1.cell? ⟨p2, 0, none⟩ = some (.pointer (some ⟨G, 0, none⟩)))
  have q3 := grow_cell ((Blk.cell g3 0).trans rfl : W1.cell? ⟨p3, 0, none⟩ = some (.func (.func cf) #[] cc))
  refine wp_region_led (R := GrowR) (by kernel_rfl) (by kernel_rfl) rfl (by kernel_rfl) ?_
  (refine lex_one (by kernel_rfl) (by kernel_rfl) (by kernel_rfl) (fun K hK => ?_); go_big_quiet_step (fail); refine wpQuiet_nil (hK _ ?_); clear hK K)
  (refine lex_one (by kernel_rfl) (by kernel_rfl) (by kernel_rfl) (fun K hK => ?_); go_big_quiet_step (fail); refine wpQuiet_nil (hK _ ?_); clear hK K)
  (refine lex_one (by kernel_rfl) (by kernel_rfl) (by kernel_rfl) (fun K hK => ?_); go_big_quiet_step (fail); refine wpQuiet_nil (hK _ ?_); clear hK K)
  (refine lex_one (by kernel_rfl) (by kernel_rfl) (by kernel_rfl) (fun K hK => ?_); go_big_quiet_step (fail); refine wpQuiet_nil (hK _ ?_); clear hK K)
  (refine lex_one (by kernel_rfl) (by kernel_rfl) (by kernel_rfl) (fun K hK => ?_); go_big_quiet_step (fail); refine wpQuiet_nil (hK _ ?_); clear hK K)
  refine lex_nil (by kernel_rfl) (by kernel_rfl) (by kernel_rfl) ?_
  intro W2 hW2
  simp only [hideAll]
  have hcf' := hcf b
  have Hch := Lib.hid (hch W2 b (hK.trans (Kept.of_below hW2)) hb (hDW.kept (Kept.of_below (S := fun _ => False) hW2) (fun e => e)))
  clear hch q0 q2 q3
  go_wp2_with fail
  refine Hch.out.mono ?_
  rintro e W3 ⟨rfl, N, hN, hD3, hg3, hids⟩
  have hlt := h.lt _ h.oG
  have hF3 : FsAt W3 G b sb mv S.room S.steps S.fuse S.dead := Blk.grown (Blk.below hP hW2 (Blk.lt hP)) hg3 (fun e => nb (Option.some.inj e).symm)
  have z2 := Blk.grown (Blk.below g2 hW2 (Blk.lt g2)) hg3 (fun e => by have := Blk.lt hp2; have := Option.some.inj e; omega)
  have hK3 : Kept w W3 (fun k => k = G) := (hK.trans (Kept.of_below hW2)).then_new hg3 hb
  have hrow : W3.ownsRow 0 46 1 mv mbs.length (mbs.map fun b => .map (some b)) := ownsRow_kept h.mr hK3 fun k hk e => by
    subst e
    exact absurd ((tag_row h.mr hk).symm.trans h.tagG) (by simp)
  have tG : ∀ k, mv.ownBlock = some k → k ≠ G := fun k hk e => by
    subst e
    exact absurd ((tag_row h.mr hk).symm.trans h.tagG) (by simp)
  have t2 : ∀ k, mv.ownBlock = some k → k ≠ p2 := fun k hk e => by
    subst e
    exact absurd ((tag_row h.mr hk).symm.trans (tag_blk hp2)) (by simp)
  have q0 := app_cell (row := mv.ownBlock) (fin := appendedTo W3 mv 1 mbs.length [.map (some b)]) ((Blk.cell hF3 0).trans rfl : W3.cell? ⟨G, 0, none⟩ = some (.map (some b))) (fun e => tG _ e.symm rfl)
  have q1 := app_cell (row := mv.ownBlock) (fin := appendedTo W3 mv 1 mbs.length [.map (some b)]) ((Blk.cell hF3 2).trans rfl : W3.cell? ⟨G, 2, none⟩ = some mv) (fun e => tG _ e.symm rfl)
  have q2 := app_cell (row := mv.ownBlock) (fin := appendedTo W3 mv 1 mbs.length [.map (some b)]) ((Blk.cell z2 0).trans rfl : W3.cell? ⟨p2, 0, none⟩ = some (.pointer (some ⟨G, 0, none⟩))) (fun e => t2 _ e.symm rfl)
  obtain ⟨i0, hi, hz0, hz1, hz2⟩ : ∃ i : TypeInfo, Try.prog.info? 46 = some i ∧ i.zero = some (.map none) ∧ i.size = 1 ∧ i.bytes = 8 := info_parts (by kernel_rfl)
  go_wp2_with fail
  refine wp_region_led (R := AppR mv.ownBlock (appendedTo W3 mv 1 mbs.length [.map (some b)])) (by kernel_rfl) (by kernel_rfl) rfl (by kernel_rfl) ?_
  (repeat (refine lex_one (by kernel_rfl) (by kernel_rfl) (by kernel_rfl) (fun K hK => ?_); go_big_quiet_step (fail); refine wpQuiet_nil (hK _ ?_); clear hK K))
  refine lex_cells (m := 1) (news := [.map (some b)]) (fun g hg => tag_lt (tag_row hrow hg)) (by kernel_rfl) (fun _ _ h => by cases h) (by kernel_rfl) rfl 46 (fun W => by go_simp) ?_
  refine lex_app (s := 20) (x := 25) (t := 47) (e := 46) (i := i0) (z := .map none) (bytes := 8) rfl rfl rfl Try.underlying47 hi hz0 hz1 hz2 rfl (by decide) rfl rfl rfl hrow rfl (by simp [Value.oneCell']) ?_ ?_ (Nat.zero_le _) ?_
  · have := h.ml; unfold maxLen; omega
  · have := h.ml; omega
  (repeat (refine lex_one (by kernel_rfl) (by kernel_rfl) (by kernel_rfl) (fun K hK => ?_); go_big_quiet_step (fail); refine wpQuiet_nil (hK _ ?_); clear hK K))
  refine lex_nil (by kernel_rfl) (by kernel_rfl) (by kernel_rfl) ?_
  rintro W4 hW4
  simp only [hideAll]
  rintro mv' ⟨hmv, hloc⟩ x ⟨p, c, rfl, hp, _⟩
  have hF4 : FsAt W4 G b sb mv S.room S.steps S.fuse S.dead := Blk.grown hF3 hW4.1 (fun e => tG _ e.symm rfl)
  have f4 := Blk.frozen hF4 2
  have d4 : W4.cell? ⟨G, 2, none⟩ = some mv := (Blk.cell hF4 2).trans rfl
  have hP5 : FsAt (W4.setCell ⟨G, 2, none⟩ mv') G b sb mv' S.room S.steps S.fuse S.dead := Blk.set_ hF4 2 mv'
  have hG3 := Blk.lt hF3
  have hmG : ∀ k, mv'.ownBlock = some k → k ≠ G := fun k hk e => by
    rcases hloc with ⟨e1, _⟩ | ⟨j, e1, e2⟩
    · exact tG k (e1 ▸ hk) e
    · rw [e1] at hk
      have := Option.some.inj hk
      omega
  have hK4 : Kept w W4 (fun k => k = G ∨ mv.ownBlock = some k) := (hK3.weaken fun k e => .inl e).trans (Kept.of_grown hW4.1 fun k e => .inr e)
  have kS : Kept W4 (W4.setCell ⟨G, 2, none⟩ mv') (fun k => k = G) := Kept.of_grown (grown_set _ _ _ _) fun k hk => (Option.some.inj hk).symm
  have old : ∀ k, mv.ownBlock = some k → k < w.heap.size := fun k hk => tag_lt (tag_row h.mr hk)
  have fin := h.moved (w' := W4.setCell ⟨G, 2, none⟩ mv') (N := N) hb hP5 ((hD3.kept (Kept.of_grown (S := fun k => mv.ownBlock = some k) hW4.1 fun k e => e) (fun e => by have := old _ e; omega)).kept kS nb)
    (ownsRow_kept hmv kS hmG) (hloc.imp (fun e => e.1) fun ⟨k, e1, e2⟩ => ⟨k, e1, Nat.le_trans hK3.size e2⟩)
    (fun g hg => (hids g hg).imp id fun ⟨e1, e2⟩ => ⟨e1, Blk.keptK (Blk.grown e2 hW4.1 (fun e => by have := old _ e.symm; omega)) kS (fun e => by omega)⟩)
    (hK4.trans (kS.weaken fun k e => .inl e))
  obtain ⟨F', chv', r1, r2⟩ := fin
  have R := Lib.hid (And.intro r1 r2)
  obtain ⟨sa, sn, sc, rfl⟩ := own_slice hmv
  clear r1 r2 hmv hloc hW4
  go_wp2_with fail
  go_end0
  exact ⟨rfl, N, F', hN, ⟨_, _, _, _, _, R.out.1⟩, R.out.2⟩
end
end Go.Proofs.Ytocfaffiifhggaa
