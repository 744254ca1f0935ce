/- The law SimfsRoom. -/
import Derived.Test.YtphkmhajjnnbaaaLawD
import Derived.Test.YtphkmhajjnnbaaaLexn
namespace Go.Proofs.Ytphkmhajjnnbaaa
open Go.RowKit Go.Maps Go.WideMaps Go.ChangeShapes Go.WideShapes
attribute [local go_sem] bs_toList bs_size

/-- One file has other bytes. -/
theorem sizeIn_set (fl : Nat → Fl) (x : Fl) (g : Nat) : ∀ (N : Nm), (N.Pairwise fun p q => p.2 ≠ q.2) → g ∈ N.ids → sizeIn (fun k => if k = g then x else fl k) N + (fl g).nw.length = sizeIn fl N + x.nw.length
  | [], _, h => by cases h
  | p :: r, hp, h => by
    obtain ⟨h1, h2⟩ := List.pairwise_cons.1 hp
    unfold sizeIn
    simp only [List.map_cons, List.sum_cons]
    by_cases e : p.2 = g
    · have hr : (r.map fun q => ((if q.2 = g then x else fl q.2) : Fl).nw.length) = r.map fun q => (fl q.2).nw.length := List.map_congr_left fun q hq => by
        rw [if_neg]
        intro e2
        exact h1 q hq (by rw [e, e2])
      rw [hr, e, if_pos rfl]
      omega
    · have hm : g ∈ Nm.ids r := by
        rcases List.mem_cons.1 h with h | h
        · exact absurd h.symm e
        · exact h
      have : (r.map fun q => ((if q.2 = g then x else fl q.2) : Fl).nw.length).sum + (fl g).nw.length = (r.map fun q => (fl q.2).nw.length).sum + x.nw.length := sizeIn_set fl x g r h2 hm
      rw [if_neg e]
      omega

theorem step_err {S : FsS} {f : FsS → FsS} (h : (S.step f).2 ≠ 0) : (S.step f).1 = S.die := by
  unfold FsS.step at *
  split
  · rfl
  · rename_i h0
    rw [if_neg h0] at h
    exact absurd rfl h

theorem ActStep.err {S : FsS} {a : ActD} {x : FsS × Int} (h : ActStep S a x) (hr : x.2 ≠ 0) : x.1 = S ∨ x.1 = S.die := by
  rcases h with ⟨_, g, hg, rfl⟩ | ⟨_, rfl⟩ | ⟨_, rfl⟩ | ⟨_, rfl⟩ | ⟨_, rfl⟩ | ⟨_, rfl⟩ | ⟨_, rfl⟩ | ⟨_, rfl⟩ | ⟨_, rfl⟩ | ⟨_, rfl⟩ | ⟨_, rfl⟩
  · unfold FsS.create at *
    split <;> rename_i c1
    · exact .inl rfl
    rw [if_neg c1] at hr
    split <;> rename_i c2
    · exact .inl rfl
    rw [if_neg c2] at hr
    split <;> rename_i c3
    · exact .inl rfl
    rw [if_neg c3] at hr
    split <;> rename_i c4
    · exact .inl rfl
    rw [if_neg c4] at hr
    exact .inr (step_err hr)
  · unfold FsS.append at *
    cases ho : S.of a.A with
    | inr e => exact .inl rfl
    | inl g =>
      rw [ho] at hr
      simp only at hr ⊢
      split <;> rename_i c1
      · exact .inl rfl
      rw [if_neg c1] at hr
      exact .inr (step_err hr)
  · unfold FsS.cut at *
    cases ho : S.of a.A with
    | inr e => exact .inl rfl
    | inl g =>
      rw [ho] at hr
      simp only at hr ⊢
      split <;> rename_i c1
      · exact .inl rfl
      rw [if_neg c1] at hr
      exact .inr (step_err hr)
  · unfold FsS.sync at *
    cases ho : S.of a.A with
    | inr e => exact .inl rfl
    | inl g =>
      rw [ho] at hr
      exact .inr (step_err hr)
  · unfold FsS.syncDir at *
    split <;> rename_i c1
    · exact .inl rfl
    rw [if_neg c1] at hr
    exact .inr (step_err hr)
  · unfold FsS.rename at *
    cases ho : S.of a.A with
    | inr e => exact .inl rfl
    | inl g =>
      rw [ho] at hr
      simp only at hr ⊢
      split <;> rename_i c1
      · exact .inl rfl
      rw [if_neg c1] at hr
      exact .inr (step_err hr)
  · unfold FsS.remove at *
    cases ho : S.of a.A with
    | inr e => exact .inl rfl
    | inl g =>
      rw [ho] at hr
      exact .inr (step_err hr)
  · exact absurd rfl hr
  · exact absurd rfl hr
  · exact absurd rfl hr
  · exact absurd rfl hr

theorem step_room {S : FsS} {f : FsS → FsS} (h : ∀ T : FsS, (f T).room = T.room) : (S.step f).1.room = S.room := by
  unfold FsS.step
  split
  · rfl
  · exact h _
theorem ActStep.room {S : FsS} {a : ActD} {x : FsS × Int} (h : ActStep S a x) : x.1.room = if a.K = 7 then max a.N 0 else S.room := by
  rcases h with ⟨h, g, hg, rfl⟩ | ⟨h, rfl⟩ | ⟨h, rfl⟩ | ⟨h, rfl⟩ | ⟨h, rfl⟩ | ⟨h, rfl⟩ | ⟨h, rfl⟩ | ⟨h, rfl⟩ | ⟨h, rfl⟩ | ⟨h, rfl⟩ | ⟨h, rfl⟩
  · rw [if_neg (by omega)]
    unfold FsS.create
    repeat' split
    all_goals first | rfl | exact step_room fun _ => rfl
  · rw [if_neg (by omega)]
    unfold FsS.append
    repeat' split
    all_goals first | rfl | exact step_room fun _ => rfl
  · rw [if_neg (by omega)]
    unfold FsS.cut
    repeat' split
    all_goals first | rfl | exact step_room fun _ => rfl
  · rw [if_neg (by omega)]
    unfold FsS.sync
    repeat' split
    all_goals first | rfl | exact step_room fun _ => rfl
  · rw [if_neg (by omega)]
    unfold FsS.syncDir
    repeat' split
    all_goals first | rfl | exact step_room fun _ => rfl
  · rw [if_neg (by omega)]
    unfold FsS.rename
    repeat' split
    all_goals first | rfl | exact step_room fun _ => rfl
  · rw [if_neg (by omega)]
    unfold FsS.remove
    repeat' split
    all_goals first | rfl | exact step_room fun _ => rfl
  · rw [if_pos h]; rfl
  · rw [if_neg (by omega)]; rfl
  · rw [if_neg (by omega)]; rfl
  · rw [if_neg (by omega)]

theorem ActStep.appended {S : FsS} {a : ActD} {x : FsS × Int} (h : ActStep S a x) (hok : S.ok) (hk : a.K = 1) (hr : x.2 = 0) : x.1.size = S.size + a.B.length ∧ (x.1.size : Int) ≤ S.room := by
  have hx : x = S.append a.A a.B := by
    rcases h with ⟨h, _⟩ | ⟨h, e⟩ | ⟨h, _⟩ | ⟨h, _⟩ | ⟨h, _⟩ | ⟨h, _⟩ | ⟨h, _⟩ | ⟨h, _⟩ | ⟨h, _⟩ | ⟨h, _⟩ | ⟨h, _⟩ <;> first | exact e | omega
  subst hx
  unfold FsS.append at *
  rcases S.of_cases a.A with ⟨h1, _⟩ | ⟨h1, _⟩ | ⟨g, h1, h2, h3⟩
  · rw [h1] at hr; simp at hr
  · rw [h1] at hr; simp at hr
  · rw [h1] at hr ⊢
    simp only at hr ⊢
    by_cases hc : S.room < (S.size : Int) + a.B.length
    · rw [if_pos hc] at hr; simp at hr
    · rw [if_neg hc] at hr ⊢
      unfold FsS.step at hr ⊢
      by_cases hf : S.fuse = 0
      · rw [if_pos hf] at hr; simp at hr
      · rw [if_neg hf]
        have hs := sizeIn_set S.fl ((S.fl g).do (.app a.B)) g S.names hok.names.2 (Nm.at_ids h3)
        have hl : ((S.fl g).do (.app a.B)).nw.length = (S.fl g).nw.length + a.B.length := by
          show ((S.fl g).nw ++ a.B).length = _
          simp
        have he : (S.tick.setFl g ((S.tick.fl g).do (.app a.B))).size = sizeIn (fun k => if k = g then (S.fl g).do (.app a.B) else S.fl k) S.names := rfl
        have hz : S.size = sizeIn S.fl S.names := rfl
        simp only
        rw [he]
        omega
end Go.Proofs.Ytphkmhajjnnbaaa
