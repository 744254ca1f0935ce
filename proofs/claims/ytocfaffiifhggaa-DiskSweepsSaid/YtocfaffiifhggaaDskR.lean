/- A machine in the midst of a law: saved, swept, repaired. -/
import Derived.Test.YtocfaffiifhggaaDskQ
namespace Go.Proofs.Ytocfaffiifhggaa
open Go.RowKit Go.Maps Go.WideMaps

theorem preSave_ok {S : FsS} (h : S.ok) (tmp : List UInt8) : (preSave S tmp).1.ok := by
  unfold preSave
  split
  · exact h.remove _
  · exact h
theorem saveEnd_ok' {S : FsS} (h : S.ok) (tmp name b : List UInt8) (hb : b.length ≤ 1048576) : (saveEnd S tmp name b).1.ok := by
  unfold saveEnd
  split
  · exact (stg_ok h tmp name b hb 1).remove _
  split
  · exact (stg_ok h tmp name b hb 2).remove _
  split
  · exact (stg_ok h tmp name b hb 3).remove _
  · exact (stg_ok h tmp name b hb 3).syncDir
theorem save_ok {S : FsS} (h : S.ok) {name b : List UInt8} {g : Nat} (hg : (preSave S (tmpB ++ name)).1.fresh g) (hb : b.length ≤ 1048576) : (S.save name b g).1.ok := by
  unfold FsS.save
  split
  · exact preSave_ok h _
  split
  · exact (preSave_ok h _).create _ hg
  · exact saveEnd_ok' ((preSave_ok h _).create _ hg) _ _ _ hb
theorem sweepLoop_ok (keep : List (List UInt8)) : ∀ (l : List (List UInt8)) {S : FsS} (n : Nat), S.ok → (sweepLoop keep l S n).1.ok
  | [], _, _, h => h
  | x :: r, S, n, h => by
    rw [sweepLoop_cons]
    split
    · exact sweepLoop_ok keep r n h
    split
    · exact h.remove _
    · exact sweepLoop_ok keep r _ (h.remove _)
theorem sweep_ok {S : FsS} (h : S.ok) (keep : List (List UInt8)) : (S.sweep keep).1.ok := by
  rw [sweep_eq]
  have := sweepLoop_ok keep S.names.keys 0 h
  split
  · exact this
  split
  · exact this
  · exact this.syncDir
theorem repair_ok {S : FsS} (h : S.ok) (name : List UInt8) (n : Int) : (S.repair name n).1.ok := by
  unfold FsS.repair
  split
  · exact h
  split
  · exact h
  split
  · exact h.cut _ _
  · exact (h.cut _ _).sync _

section
variable {W w : World} {G : Nat} {S : FsS} {F : Nat → Prop} {N sy : Nm} {mv : List Nm} {fl : Nat → Fl} {room : Int} {st : Nat} {f : Int}

theorem Mach.reach {w' : World} {F' : Nat → Prop} (m : Mach W w G S F) (ht : Turn w w' F F') : Below W.heap.size W w' := m.bel.trans (ht.kept.below m.bel.size m.base)
theorem Mach.save (m : Mach W w G S F) (name b : List UInt8) (hs : S.steps + 20 ≤ 500000) (hn : name.length ≤ 1000000) (hb : b.length ≤ 1048576) :
    Calls Try.prog 15 #[.pointer (some ⟨G, 0, none⟩), .string (bs name), .string (bs b)] w fun e w' =>
      ∃ g F', (preSave S (tmpB ++ name)).1.fresh g ∧ e = .returned (.int .i64 (S.save name b g).2) ∧ Mach W w' G (S.save name b g).1 F' ∧ Turn w w' F F' := by
  refine (Save_any name b m.mem m.ok hs hn hb).mono ?_
  rintro e w' ⟨g, hg, F', h1, h2, h3⟩
  exact ⟨g, F', hg, h2, m.turn h3 h1 (save_ok m.ok hg hb), h1⟩
theorem fresh_ids {g : Nat} (h : FsS.fresh ⟨N, sy, mv, fl, room, st, f, false⟩ g) : g ∉ N.ids := fun e => h.1 ⟨N, List.mem_cons_self, e⟩
/-- Saved without a fuse. -/
theorem Mach.saved (m : Mach W w G ⟨N, sy, mv, fl, room, st, -1, false⟩ F) (name b : List UInt8) (hs : st + 20 ≤ 500000) (hb : b.length ≤ 1048576) (hr : rightN name = true) (hl : name.length ≤ 36) (ht : N.at (tmpB ++ name) = none) (hn : N.length < 64) (hroom : (sizeIn fl N : Int) + b.length ≤ room) :
    Calls Try.prog 15 #[.pointer (some ⟨G, 0, none⟩), .string (bs name), .string (bs b)] w fun e w' =>
      ∃ g F', fl g = Fl.new ∧ g ∉ N.ids ∧ e = .returned (.int .i64 0) ∧ Mach W w' G ⟨N.put name g, N.put name g, [], flSet fl g ⟨b, b, []⟩, room, st + 5, -1, false⟩ F' ∧ Turn w w' F F' := by
  refine (m.save name b hs (by omega) hb).mono ?_
  rintro e w' ⟨g, F', hg, rfl, m', hT⟩
  rw [pre_none ht] at hg
  have hN : N.ok := m.ok.names
  have h := save_done (sy := sy) (mv := mv) (st := st) hN hr hl ht hn hg.2 hroom
  rw [h] at m' ⊢
  exact ⟨g, F', hg.2, fresh_ids hg, rfl, m', hT⟩
theorem Mach.sweep {kv : Value} {keep : List (List UInt8)} (m : Mach W w G S F) (hs : S.steps + 100 ≤ 500000) (hk : ∀ w' F', Turn w w' F F' → StrsAt w' kv keep) :
    Calls Try.prog 13 #[.pointer (some ⟨G, 0, none⟩), kv] w fun e w' =>
      ∃ F', e = .returned (.tuple #[.int .i64 ((S.sweep keep).2.1 : Nat), .int .i64 (S.sweep keep).2.2]) ∧ Mach W w' G (S.sweep keep).1 F' ∧ Turn w w' F F' := by
  refine (Sweep_any m.mem m.ok hs hk).mono ?_
  rintro e w' ⟨F', rfl, h1, h2⟩
  exact ⟨F', rfl, m.turn h1 h2 (sweep_ok m.ok _), h2⟩
theorem Mach.repair (m : Mach W w G S F) (name : List UInt8) (n : Int) (hs : S.steps + 20 ≤ 500000) (hn : name.length ≤ 1000000) :
    Calls Try.prog 17 #[.pointer (some ⟨G, 0, none⟩), .string (bs name), .int .i64 n] w fun e w' =>
      ∃ F', e = .returned (.int .i64 (S.repair name n).2) ∧ Mach W w' G (S.repair name n).1 F' ∧ Turn w w' F F' := by
  refine (Repair_any name n m.mem m.ok hs hn).mono ?_
  rintro e w' ⟨F', h1, h2, h3⟩
  exact ⟨F', h2, m.turn h3 h1 (repair_ok m.ok _ _), h1⟩
theorem Mach.crash {v : Value} {ks : List Int} (m : Mach W w G S F) (hs : S.steps ≤ 500000) (hk : ∀ w' F', Turn w w' F F' → KeepAt w' v ks) :
    Calls Try.prog 16 #[.pointer (some ⟨G, 0, none⟩), v] w fun e w' => ∃ F', e = .returned (.tuple #[]) ∧ Mach W w' G (S.crash ks) F' ∧ Turn w w' F F' := by
  refine (Fs_Crash_mem m.mem m.ok hs hk).mono ?_
  rintro e w' ⟨rfl, F', h1, h2⟩
  exact ⟨F', rfl, m.turn h1 h2 (m.ok.crash ks), h2⟩
end
end Go.Proofs.Ytocfaffiifhggaa
