/- The law SimfsWhole: the walk. -/
import Derived.Test.YtphkmhajjnnbaaaLawGb
namespace Go.Proofs.Ytphkmhajjnnbaaa
open Go.RowKit Go.Maps Go.WideMaps Go.ChangeShapes Go.WideShapes
attribute [local go_sem] bs_toList bs_size

theorem nofuse (S : FsS) : (S.setFuse (-1)).fuse = -1 := by show min (max (-1) (-1)) 1073741824 = -1; omega

/-- Some files of a machine were synced; else it is as it was. -/
structure Synced (S T : FsS) (l : List (List UInt8)) : Prop where
  names : T.names = S.names
  dead : T.dead = S.dead
  fuse : T.fuse = -1
  now : ∀ g, (T.fl g).nw = (S.fl g).nw
  still : S.dead = false → ∀ x ∈ l, ∀ g, S.names.at x = some g → (T.fl g).still
theorem Synced.start {S : FsS} (h : S.fuse = -1) : Synced S S [] := ⟨rfl, rfl, h, fun _ => rfl, fun _ x hx => by cases hx⟩
theorem Synced.of {S T : FsS} {l : List (List UInt8)} (h : Synced S T l) (x : List UInt8) : T.of x = S.of x := by
  unfold FsS.of
  rw [h.names, h.dead]
theorem Synced.read {S T : FsS} {l : List (List UInt8)} (h : Synced S T l) (x : List UInt8) : T.read x = S.read x := by
  unfold FsS.read
  rw [h.of]
  split
  · rfl
  · rw [h.now]
theorem step_alive {T : FsS} {f : FsS → FsS} (h : T.fuse = -1) : T.step f = (f T.tick, 0) := by
  unfold FsS.step
  rw [if_neg (by omega)]
theorem Synced.sync {S T : FsS} {l : List (List UInt8)} (h : Synced S T l) (x : List UInt8) : Synced S (T.sync x).1 (l ++ [x]) := by
  unfold FsS.sync
  rcases T.of_cases x with ⟨h1, h2⟩ | ⟨h1, h2, h3⟩ | ⟨g, h1, h2, h3⟩
  · rw [h1]
    refine ⟨h.names, h.dead, h.fuse, h.now, fun hd => ?_⟩
    rw [h.dead, hd] at h2
    cases h2
  · rw [h1]
    refine ⟨h.names, h.dead, h.fuse, h.now, fun hd y hy g hg => ?_⟩
    rcases List.mem_append.1 hy with hy | hy
    · exact h.still hd y hy g hg
    · simp at hy
      subst hy
      rw [h.names] at h3
      rw [h3] at hg
      cases hg
  · rw [h1]
    simp only
    rw [step_alive h.fuse]
    have hfl : ∀ k, (T.tick.setFl g (T.tick.fl g).sync).fl k = if k = g then (T.fl g).sync else T.fl k := fun _ => rfl
    refine ⟨h.names, h.dead, by show max (T.fuse - 1) (-1) = -1; rw [h.fuse]; omega, fun k => ?_, fun hd y hy k hk => ?_⟩
    · rw [hfl]
      split
      · rename_i e
        rw [e]
        exact h.now g
      · exact h.now k
    · rw [hfl]
      split
      · exact ⟨rfl, rfl⟩
      · rename_i e
        rcases List.mem_append.1 hy with hy | hy
        · exact h.still hd y hy k hk
        · simp at hy
          subst hy
          rw [h.names] at h3
          rw [h3] at hk
          exact absurd (Option.some.inj hk).symm e
theorem Synced.steps {T : FsS} (x : List UInt8) : (T.sync x).1.steps ≤ T.steps + 1 := ActStep.steps (S := T) (a := ⟨3, x, [], 0, []⟩) (.inr (.inr (.inr (.inl ⟨rfl, rfl⟩))))

/-- All names synced: the machine is calm behind SyncDir. -/
theorem Synced.calm {S T : FsS} (h : Synced S T S.names.keys) (hN : S.names.ok) (hd : S.dead = false) : (T.syncDir).2 = 0 ∧ T.syncDir.1.calm ∧ T.syncDir.1.names = S.names ∧ T.syncDir.1.steps = T.steps + 1 ∧ ∀ x, T.syncDir.1.read x = S.read x := by
  have hTd : T.dead = false := h.dead.trans hd
  unfold FsS.syncDir
  rw [if_neg (by rw [hTd]; simp), step_alive h.fuse]
  refine ⟨rfl, ⟨hTd, rfl, rfl, fun g hg => ?_⟩, h.names, rfl, fun x => ?_⟩
  · have hg' : g ∈ Nm.ids S.names := by rw [← h.names]; exact hg
    obtain ⟨p, hp, rfl⟩ := List.mem_map.1 hg'
    exact h.still hd p.1 (List.mem_map.2 ⟨p, hp, rfl⟩) p.2 (Nm.at_of_mem hN hp)
  · exact h.read x
theorem Synced.dead_dir {S T : FsS} {l : List (List UInt8)} (h : Synced S T l) (hd : S.dead = true) : T.syncDir = (T, 13) := by
  unfold FsS.syncDir
  rw [if_pos (by rw [h.dead, hd])]
end Go.Proofs.Ytphkmhajjnnbaaa
