/- Files on a machine, in plain words: what the calls keep. -/
import Derived.Test.YtocfaffiifhggaaSimU
namespace Go.Proofs.Ytocfaffiifhggaa
open Go.RowKit Go.Maps Go.WideMaps

section
variable {S : FsS}

theorem bytesMost_mono {a b : Nat} (h : a ≤ b) : bytesMost a ≤ bytesMost b := Nat.mul_le_mul_right _ h

theorem FsS.ok.die (h : S.ok) : S.die.ok := ⟨h.room, h.fuse1, h.fuse2, h.moves, h.dirs, h.files⟩
theorem FsS.ok.tick (h : S.ok) : S.tick.ok where
  room := h.room
  fuse1 := by have := h.fuse1; show -1 ≤ max (S.fuse - 1) (-1); omega
  fuse2 := by have := h.fuse2; show max (S.fuse - 1) (-1) ≤ _; omega
  moves := Nat.le_succ_of_le h.moves
  dirs := h.dirs
  files := fun g => (h.files g).mono (bytesMost_mono (Nat.le_succ _)) (Nat.le_succ _)
theorem FsS.ok.step (h : S.ok) {f : FsS → FsS} (hf : (f S.tick).ok) : (S.step f).1.ok := by
  unfold FsS.step
  split
  · exact h.die
  · exact hf
theorem FsS.ok.moved (h : S.ok) {N : Nm} (hN : N.ok) (hl : N.length ≤ 64) : (S.tick.moved N).ok where
  room := h.room
  fuse1 := h.tick.fuse1
  fuse2 := h.tick.fuse2
  moves := by
    have := h.moves
    show (S.moves ++ [N]).length ≤ S.steps + 1
    simp
    omega
  dirs := fun M hM => by
    simp only [FsS.dirs, FsS.moved, List.mem_cons, List.mem_append, List.not_mem_nil, or_false] at hM
    rcases hM with rfl | rfl | hM | rfl
    · exact ⟨hN, hl⟩
    · exact h.dirs _ (by simp [FsS.dirs, FsS.tick])
    · exact h.dirs _ (by simp only [FsS.dirs, List.mem_cons]; exact .inr (.inr hM))
    · exact ⟨hN, hl⟩
  files := h.tick.files
theorem FsS.ok.setFl {T : FsS} (h : T.ok) (g : Nat) {x : Fl} (hx : x.ok (bytesMost T.steps) T.steps) : (T.setFl g x).ok where
  room := h.room
  fuse1 := h.fuse1
  fuse2 := h.fuse2
  moves := h.moves
  dirs := h.dirs
  files := fun k => by
    show (if k = g then x else T.fl k).ok _ _
    split
    · exact hx
    · exact h.files k

theorem FsS.ok.names (h : S.ok) : Nm.ok S.names := (h.dirs _ (by simp [FsS.dirs])).1
theorem FsS.ok.names_le (h : S.ok) : S.names.length ≤ 64 := (h.dirs _ (by simp [FsS.dirs])).2
theorem right_le {l : List UInt8} (h : rightN l = true) : l.length ≤ 40 := by
  unfold rightN at h
  simp at h
  exact h.2

theorem FsS.ok.create (h : S.ok) (l : List UInt8) {g : Nat} (hg : S.fresh g) : (S.create l g).1.ok := by
  unfold FsS.create
  split
  · exact h
  split
  · exact h
  rename_i hr
  split
  · exact h
  rename_i hn
  split
  · exact h
  refine h.step (h.moved (h.names.put l g (right_le (by simpa using hr)) fun p hp _ e => hg.1 ⟨S.names, by simp [FsS.dirs], List.mem_map.2 ⟨p, hp, e⟩⟩) ?_)
  have := Nm.length_put_le S.names l g
  show (S.names.put l g).length ≤ 64
  omega
theorem FsS.ok.append (h : S.ok) (l b : List UInt8) (hb : b.length ≤ 1048576) : (S.append l b).1.ok := by
  unfold FsS.append
  split
  · exact h
  split
  · exact h
  rename_i g _ _
  refine h.step (h.tick.setFl g ((h.files g).do _ (bytesMost_mono (Nat.le_succ _)) (fun n e => by cases e) ?_))
  have := (h.files g).nw_le
  show ((S.fl g).nw ++ b).length ≤ bytesMost (S.steps + 1)
  rw [List.length_append]
  unfold bytesMost at *
  omega
theorem FsS.ok.cut (h : S.ok) (l : List UInt8) (n : Int) : (S.cut l n).1.ok := by
  unfold FsS.cut
  split
  · exact h
  split
  · exact h
  rename_i g _ hn
  refine h.step (h.tick.setFl g ((h.files g).do _ (bytesMost_mono (Nat.le_succ _)) (fun m e => by cases e; show n.toNat ≤ (S.fl g).nw.length; omega) ?_))
  have := (h.files g).nw_le
  show ((S.fl g).nw.take n.toNat).length ≤ bytesMost (S.steps + 1)
  have := bytesMost_mono (Nat.le_add_right S.steps 1)
  rw [List.length_take]
  omega
theorem FsS.ok.sync (h : S.ok) (l : List UInt8) : (S.sync l).1.ok := by
  unfold FsS.sync
  split
  · exact h
  · exact h.step (h.tick.setFl _ (h.tick.files _).sync)
theorem FsS.ok.syncDir (h : S.ok) : S.syncDir.1.ok := by
  unfold FsS.syncDir
  split
  · exact h
  refine h.step ⟨h.room, h.tick.fuse1, h.tick.fuse2, Nat.zero_le _, fun N hN => ?_, h.tick.files⟩
  simp only [FsS.dirs, List.mem_cons, List.not_mem_nil, or_false, or_self] at hN
  subst hN
  exact ⟨h.names, h.names_le⟩
theorem FsS.of_at {l : List UInt8} {g : Nat} (h : S.of l = .inl g) : S.dead = false ∧ S.names.at l = some g := by
  rcases S.of_cases l with ⟨h1, _⟩ | ⟨h1, _⟩ | ⟨g', h1, h2, h3⟩
  · rw [h1] at h; cases h
  · rw [h1] at h; cases h
  · rw [h1] at h
    cases h
    exact ⟨h2, h3⟩
theorem FsS.ok.rename (h : S.ok) (a b : List UInt8) : (S.rename a b).1.ok := by
  unfold FsS.rename
  split
  · exact h
  rename_i g hg
  split
  · exact h
  rename_i hr
  obtain ⟨_, hat⟩ := FsS.of_at hg
  have hm := Nm.mem_at hat
  refine h.step (h.moved ((h.names.del a).put b g (right_le (by simpa using hr)) fun p hp _ e => ?_) ?_)
  · obtain ⟨h1, h2⟩ := Nm.mem_del.1 hp
    have hap := h.names.2
    have : p = (a, g) := by
      have key : ∀ {N : Nm}, (N.Pairwise fun p q => p.2 ≠ q.2) → ∀ {p q : List UInt8 × Nat}, p ∈ N → q ∈ N → p.2 = q.2 → p = q := by
        intro N hN
        induction N with
        | nil => intro p q hp; cases hp
        | cons x N ih =>
          obtain ⟨k1, k2⟩ := List.pairwise_cons.1 hN
          intro p q hp hq e
          rcases List.mem_cons.1 hp with e1 | hp2 <;> rcases List.mem_cons.1 hq with e2 | hq2
          · rw [e1, e2]
          · exact absurd (by rw [← e1]; exact e) (k1 _ hq2)
          · exact absurd (by rw [← e2]; exact e.symm) (k1 _ hp2)
          · exact ih k2 hp2 hq2 e
      exact key hap h1 hm e
    exact h2 (by rw [this])
  · have h1 := Nm.length_put_le (S.names.del a) b g
    have h2 := Nm.length_del (N := S.names) (l := a) (by rw [hat]; simp)
    have := h.names_le
    show ((S.names.del a).put b g).length ≤ 64
    omega
theorem FsS.ok.remove (h : S.ok) (l : List UInt8) : (S.remove l).1.ok := by
  unfold FsS.remove
  split
  · exact h
  refine h.step (h.moved (h.names.del l) ?_)
  have := Nm.length_del_le S.names l
  have := h.names_le
  show (S.names.del l).length ≤ 64
  omega
theorem FsS.ok.setRoom (h : S.ok) (n : Int) : (S.setRoom n).ok := ⟨by show 0 ≤ max n 0; omega, h.fuse1, h.fuse2, h.moves, h.dirs, h.files⟩
theorem FsS.ok.setFuse (h : S.ok) (n : Int) : (S.setFuse n).ok := ⟨h.room, by show -1 ≤ min (max n (-1)) 1073741824; omega, by show min (max n (-1)) 1073741824 ≤ _; omega, h.moves, h.dirs, h.files⟩
theorem FsS.ok.crash (h : S.ok) (ks : List Int) : (S.crash ks).ok := by
  rw [← crashed_all ks]
  exact crashed_ok h ks _

/-! ### an act -/
structure ActD where
  K : Int
  A : List UInt8
  B : List UInt8
  N : Int
  Keep : List Int
def ActD.small (a : ActD) : Prop := a.A.length ≤ 60 ∧ a.B.length ≤ 300 ∧ a.Keep.length ≤ 20

/-- What an act makes of a machine. -/
def ActStep (S : FsS) (a : ActD) (x : FsS × Int) : Prop :=
  (a.K = 0 ∧ ∃ g, S.fresh g ∧ x = S.create a.A g) ∨ (a.K = 1 ∧ x = S.append a.A a.B) ∨ (a.K = 2 ∧ x = S.cut a.A a.N) ∨ (a.K = 3 ∧ x = S.sync a.A) ∨ (a.K = 4 ∧ x = S.syncDir) ∨
  (a.K = 5 ∧ x = S.rename a.A a.B) ∨ (a.K = 6 ∧ x = S.remove a.A) ∨ (a.K = 7 ∧ x = (S.setRoom a.N, 0)) ∨ (a.K = 8 ∧ x = (S.setFuse a.N, 0)) ∨ (a.K = 9 ∧ x = (S.crash a.Keep, 0)) ∨ ((a.K < 0 ∨ 9 < a.K) ∧ x = (S, 0))

theorem ActStep.ok {a : ActD} {x : FsS × Int} (h : ActStep S a x) (hok : S.ok) (ha : a.small) : x.1.ok := by
  rcases h with ⟨_, g, hg, rfl⟩ | ⟨_, rfl⟩ | ⟨_, rfl⟩ | ⟨_, rfl⟩ | ⟨_, rfl⟩ | ⟨_, rfl⟩ | ⟨_, rfl⟩ | ⟨_, rfl⟩ | ⟨_, rfl⟩ | ⟨_, rfl⟩ | ⟨_, rfl⟩
  · exact hok.create _ hg
  · exact hok.append _ _ (by have := ha.2.1; omega)
  · exact hok.cut _ _
  · exact hok.sync _
  · exact hok.syncDir
  · exact hok.rename _ _
  · exact hok.remove _
  · exact hok.setRoom _
  · exact hok.setFuse _
  · exact hok.crash _
  · exact hok

theorem step_steps (f : FsS → FsS) (hf : (f S.tick).steps = S.tick.steps) : (S.step f).1.steps ≤ S.steps + 1 := by
  unfold FsS.step
  split
  · exact Nat.le_succ _
  · show (f S.tick).steps ≤ _
    rw [hf]
    exact Nat.le_refl _
theorem ActStep.steps {a : ActD} {x : FsS × Int} (h : ActStep S a x) : x.1.steps ≤ S.steps + 1 := by
  rcases h with ⟨_, g, hg, rfl⟩ | ⟨_, rfl⟩ | ⟨_, rfl⟩ | ⟨_, rfl⟩ | ⟨_, rfl⟩ | ⟨_, rfl⟩ | ⟨_, rfl⟩ | ⟨_, rfl⟩ | ⟨_, rfl⟩ | ⟨_, rfl⟩ | ⟨_, rfl⟩
  · unfold FsS.create
    repeat' split
    all_goals first | exact Nat.le_succ _ | exact step_steps _ rfl
  · unfold FsS.append
    repeat' split
    all_goals first | exact Nat.le_succ _ | exact step_steps _ rfl
  · unfold FsS.cut
    repeat' split
    all_goals first | exact Nat.le_succ _ | exact step_steps _ rfl
  · unfold FsS.sync
    repeat' split
    all_goals first | exact Nat.le_succ _ | exact step_steps _ rfl
  · unfold FsS.syncDir
    repeat' split
    all_goals first | exact Nat.le_succ _ | exact step_steps _ rfl
  · unfold FsS.rename
    repeat' split
    all_goals first | exact Nat.le_succ _ | exact step_steps _ rfl
  · unfold FsS.remove
    repeat' split
    all_goals first | exact Nat.le_succ _ | exact step_steps _ rfl
  · exact Nat.le_succ _
  · exact Nat.le_succ _
  · exact Nat.le_succ _
  · exact Nat.le_succ _
end
end Go.Proofs.Ytocfaffiifhggaa
