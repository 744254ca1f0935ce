/- Files on a machine: a change is done. -/
import Derived.Test.YtgagcncmlonciaaGreatDoorGD
import Derived.Test.YtgagcncmlonciaaGreatDoorGC
import Derived.Test.YtgagcncmlonciaaGreatDoorSB
import Derived.Maps.AppendAt
import Derived.OwnWalk
namespace Go.Proofs.YtgagcncmlonciaaGreatDoor
open Go.RowKit Go.Maps Go.WideMaps
attribute [local go_sem] bs_toList bs_size

inductive Chg where
  | app (a : List UInt8)
  | cut (n : Nat)
def Chg.val : Chg → Value
  | .app a => .iface 256 (.string (bs a))
  | .cut n => .iface 179 (.int .i64 (n : Int))
def Chg.to : Chg → List UInt8 → List UInt8
  | .app a, s => s ++ a
  | .cut n, s => s.take n
def Chg.fits : Chg → List UInt8 → Prop
  | .app a, s => s.length + a.length ≤ 1099511627776
  | .cut n, s => n ≤ s.length ∧ s.length ≤ 1099511627776

/-- A value is a slice of the call's own that holds just these changes. -/
def ChRow (w : World) (base : Nat) (v : Value) (cs : List Chg) : Prop := w.ownsRow base 258 1 v cs.length (cs.map Chg.val)

theorem own_slice {w : World} {base : Nat} {e : TypeId} {size n : Nat} {v : Value} {xs : List Value} (h : w.ownsRow base e size v n xs) : ∃ a l c, v = .slice a l c := by
  rcases h.2 with ⟨rfl, _⟩ | ⟨_, _, _, rfl, _⟩
  · exact ⟨_, _, _, rfl⟩
  · exact ⟨_, _, _, rfl⟩

theorem do_post {w w1 w3 : World} {o : Obj} {g base : Nat} {synced now : List UInt8} {ch v' : Value} {cs : List Chg} {c : Chg} (hlt : g < w.heap.size) (hg : ch.ownBlock ≠ some g)
    (hown : w1.ownsRow base 258 1 v' (cs.length + 1) (cs.map Chg.val ++ [c.val])) (hgrow : (w.alloc o).grownBy w1 ch.ownBlock) (hloc : v'.ownBlock = ch.ownBlock ∨ v'.ownBlock = some (w.alloc o).heap.size)
    (hb3 : GrowR (w1.setCell ⟨g, 2, none⟩ v') w3) (hF3 : FileAt w3 g synced now v') (now' : List UInt8) :
    ∃ ch', FileAt (w3.setCell ⟨g, 1, none⟩ (.string (bs now'))) g synced now' ch' ∧ ChRow (w3.setCell ⟨g, 1, none⟩ (.string (bs now'))) base ch' (cs ++ [c]) ∧ (ch'.ownBlock = ch.ownBlock ∨ ∃ k, ch'.ownBlock = some k ∧ w.heap.size ≤ k) ∧
      Kept w (w3.setCell ⟨g, 1, none⟩ (.string (bs now'))) (fun k => k = g ∨ ch.ownBlock = some k) := by
  have hne : ∀ b, v'.ownBlock = some b → b ≠ g := fun b hb e => by
    subst e
    rcases hloc with h | h
    · exact hg (h ▸ hb)
    · rw [hb] at h
      have := Option.some.inj h
      rw [World.size_alloc] at this
      omega
  have k1 : Kept w (w.alloc o) (fun k => k = g ∨ ch.ownBlock = some k) := Kept.of_grown (World.grownBy_alloc w o none) (fun k hk => by cases hk)
  have k2 : Kept (w.alloc o) w1 (fun k => k = g ∨ ch.ownBlock = some k) := Kept.of_grown hgrow (fun k hk => .inr hk)
  have k3 : Kept w1 (w1.setCell ⟨g, 2, none⟩ v') (fun k => k = g) := Kept.of_grown (grown_set _ _ _ _) (fun k hk => (Option.some.inj hk).symm)
  have k4 : Kept (w1.setCell ⟨g, 2, none⟩ v') w3 (fun k => k = g) := ⟨hb3.os, hb3.tape, hb3.output, hb3.size, fun k hk _ => hb3.block k hk⟩
  have k5 : Kept w3 (w3.setCell ⟨g, 1, none⟩ (.string (bs now'))) (fun k => k = g) := Kept.of_grown (grown_set _ _ _ _) (fun k hk => (Option.some.inj hk).symm)
  have k35 := (k3.trans k4).trans k5
  refine ⟨v', Blk.set_ hF3 1 _, ?_, ?_, (k1.trans k2).trans ⟨k35.os, k35.tape, k35.output, k35.size, fun k hk hn => k35.block k hk (fun e => hn (.inl e))⟩⟩
  · have := ownsRow_kept hown k35 hne
    unfold ChRow
    rw [List.length_append, List.map_append]
    exact this
  · rcases hloc with h | h
    · exact .inl h
    · exact .inr ⟨_, h, by rw [World.size_alloc]; omega⟩

theorem info_change : ∃ i : TypeInfo, Tryz.prog.info? 258 = some i ∧ i.zero = some .nilIface ∧ i.size = 1 ∧ i.bytes = 16 := info_parts (by kernel_rfl)

set_option maxRecDepth 100000 in
set_option maxHeartbeats 1000000 in
theorem file_do_any {w : World} {g base : Nat} {synced now : List UInt8} {ch : Value} {cs : List Chg} (c : Chg) (h : FileAt w g synced now ch) (hr : ChRow w base ch cs) (hg : ch.ownBlock ≠ some g) (hb : base ≤ w.heap.size) (hn : cs.length ≤ 1000000) (hf : c.fits now) :
    Calls Tryz.prog 99 #[.pointer (some ⟨g, 0, none⟩), c.val] w fun e w' => e = .returned (.tuple #[]) ∧
      ∃ ch', FileAt w' g synced (c.to now) ch' ∧ ChRow w' base ch' (cs ++ [c]) ∧ (ch'.ownBlock = ch.ownBlock ∨ ∃ k, ch'.ownBlock = some k ∧ w.heap.size ≤ k) ∧ Kept w w' (fun k => k = g ∨ ch.ownBlock = some k) := by
  obtain ⟨c0, c1, c2⟩ := h.c
  obtain ⟨i0, hi, hz0, hz1, hz2⟩ := info_change
  have f2 := Blk.frozen h 2
  have hlt := Blk.lt h
  obtain ⟨ty, u, hval⟩ : ∃ ty u, c.val = .iface ty u := by cases c <;> exact ⟨_, _, rfl⟩
  have hone : (Value.iface ty u).oneCell' = true := rfl
  rw [hval]
  go_enter Tryz.func99, Tryz.ntmps99
  go_wp2_with (at_builtin; refine wpList_append_own_at _ rfl _ _ 82 rfl base 258 i0 .nilIface 1 16 Tryz.underlying82 hi hz0 hz1 hz2 rfl (by decide) _ _ _ rfl (World.ownsRow.alloc hr _) ⟨w.heap.size, 0, none⟩ 1 1 [.iface ty u] rfl rfl (cell_one_new _ _ _) (by simpa using hone) (by unfold maxLen; omega) (by omega) (by simp; omega) ?_; intro v' w1 hown' hgrow hnil hloc; obtain ⟨sa, sn, sc, rfl⟩ := own_slice hown'; have hF1 : FileAt w1 g synced now ch := Blk.grown (Blk.alloc h _) hgrow hg.symm; obtain ⟨d0, d1, d2⟩ := hF1.c; have g2 := Blk.frozen hF1 2; have hP := Blk.set_ hF1 2 (.slice sa sn sc); clear hnil c0 c1 c2)
  have hP2 := hP
  have e1 : (w1.setCell ⟨g, 2, none⟩ (.slice sa sn sc)).cell? ⟨g, 1, none⟩ = some (.string (bs now)) := (Blk.cell hP 1).trans rfl
  have hW : ∃ W2, W2 = w1.setCell ⟨g, 2, none⟩ (.slice sa sn sc) := ⟨_, rfl⟩
  obtain ⟨W2, hW2⟩ := hW
  rw [← hW2] at hP e1 ⊢
  have k1 : ∀ x : RW GrowR W2, x.w.cell? ⟨g, 1, none⟩ = some (.string (bs now)) := fun x => (Below.cell (show Below W2.heap.size W2 x.w from x.is) (World.block_lt_of_cell? _ _ e1)).trans e1
  cases c with
  | app a =>
    simp only [Chg.val, Value.iface.injEq] at hval
    obtain ⟨rfl, rfl⟩ := hval
    have hna : ∀ W, (nilAhead 586 256 (.string (bs a)) "alluvium/simfs.to").run Tryz.prog W = .ok (some false) W := fun _ => by kernel_rfl
    have hme : ∀ W, (method 586 256 (.string (bs a)) "alluvium/simfs.to").run Tryz.prog W = .ok (411, .string (bs a)) W := fun _ => by kernel_rfl
    refine wp_region_led (R := GrowR) (by kernel_rfl) (by kernel_rfl) rfl (by kernel_rfl) ?_
    repeat (refine lex_one (by kernel_rfl) (by kernel_rfl) (by kernel_rfl) (fun K hK => ?_); go_big_quiet_step (fail); refine wpQuiet_nil (hK _ ?_); clear hK K)
    refine lex_call (f := 411) (args := #[.string (bs a), .string (bs now)]) (v := .string (bs (now ++ a))) (by kernel_rfl) (fun _ _ h => by cases h) (by kernel_rfl) (by kernel_rfl) (fun _ => by go_simp) (fun W _ => (app_to_any a now W (by have : now.length + a.length ≤ 1099511627776 := hf; omega)).mono fun _ _ ⟨h1, h2⟩ => ⟨h1, h2 ▸ Below.refl _ _⟩) (lex_put (type := 0) (pos := "") (fun K hK => ?_)); go_big_quiet_step (fail); refine wpQuiet_nil (hK _ ?_); clear hK K
    repeat (refine lex_one (by kernel_rfl) (by kernel_rfl) (by kernel_rfl) (fun K hK => ?_); go_big_quiet_step (fail); refine wpQuiet_nil (hK _ ?_); clear hK K)
    refine lex_nil (by kernel_rfl) (by kernel_rfl) (by kernel_rfl) ?_
    intro w3 hb3
    have hF3 : FileAt w3 g synced now (.slice sa sn sc) := Blk.below hP hb3 (Blk.lt hP)
    obtain ⟨x0, x1, x2⟩ := hF3.c
    have x3 := Blk.frozen hF3 1
    simp only [hideAll]
    go_wp2
    go_end0
    rw [hW2] at hb3
    exact ⟨rfl, do_post hlt hg hown' hgrow hloc hb3 hF3 _⟩
  | cut n =>
    simp only [Chg.val, Value.iface.injEq] at hval
    obtain ⟨rfl, rfl⟩ := hval
    have hna : ∀ W, (nilAhead 586 179 (.int .i64 (n : Int)) "alluvium/simfs.to").run Tryz.prog W = .ok (some false) W := fun _ => by kernel_rfl
    have hme : ∀ W, (method 586 179 (.int .i64 (n : Int)) "alluvium/simfs.to").run Tryz.prog W = .ok (398, .int .i64 (n : Int)) W := fun _ => by kernel_rfl
    refine wp_region_led (R := GrowR) (by kernel_rfl) (by kernel_rfl) rfl (by kernel_rfl) ?_
    repeat (refine lex_one (by kernel_rfl) (by kernel_rfl) (by kernel_rfl) (fun K hK => ?_); go_big_quiet_step (fail); refine wpQuiet_nil (hK _ ?_); clear hK K)
    refine lex_call (f := 398) (args := #[.int .i64 (n : Int), .string (bs now)]) (v := .string (bs (now.take n))) (by kernel_rfl) (fun _ _ h => by cases h) (by kernel_rfl) (by kernel_rfl) (fun _ => by go_simp) (fun W _ => (cut_to_any n now W hf.1 hf.2).mono fun _ _ ⟨h1, h2⟩ => ⟨h1, h2 ▸ Below.refl _ _⟩) (lex_put (type := 0) (pos := "") (fun K hK => ?_)); go_big_quiet_step (fail); refine wpQuiet_nil (hK _ ?_); clear hK K
    repeat (refine lex_one (by kernel_rfl) (by kernel_rfl) (by kernel_rfl) (fun K hK => ?_); go_big_quiet_step (fail); refine wpQuiet_nil (hK _ ?_); clear hK K)
    refine lex_nil (by kernel_rfl) (by kernel_rfl) (by kernel_rfl) ?_
    intro w3 hb3
    have hF3 : FileAt w3 g synced now (.slice sa sn sc) := Blk.below hP hb3 (Blk.lt hP)
    obtain ⟨x0, x1, x2⟩ := hF3.c
    have x3 := Blk.frozen hF3 1
    simp only [hideAll]
    go_wp2
    go_end0
    rw [hW2] at hb3
    exact ⟨rfl, do_post hlt hg hown' hgrow hloc hb3 hF3 _⟩
end Go.Proofs.YtgagcncmlonciaaGreatDoor
