/- Saving as a whole, in plain words. -/
import Derived.Test.YtocfaffiifhggaaDskP
namespace Go.Proofs.Ytocfaffiifhggaa
open Go.RowKit Go.Maps Go.WideMaps

section
variable {N sy : Nm} {mv : List Nm} {fl : Nat → Fl} {room : Int} {st : Nat} {f : Int} {name b : List UInt8} {g : Nat}

theorem pre_none (ht : N.at (tmpB ++ name) = none) : preSave ⟨N, sy, mv, fl, room, st, f, false⟩ (tmpB ++ name) = (⟨N, sy, mv, fl, room, st, f, false⟩, 0) := by
  unfold preSave
  rw [if_neg (by simp [ht])]
theorem pre_some {k : Nat} (ht : N.at (tmpB ++ name) = some k) :
    preSave ⟨N, sy, mv, fl, room, st, -1, false⟩ (tmpB ++ name) = (⟨N.del (tmpB ++ name), sy, mv ++ [N.del (tmpB ++ name)], fl, room, st + 1, -1, false⟩, 0) := by
  unfold preSave
  rw [if_pos (by simp [ht]), remove_go ht, if_neg (show ¬ ((-1 : Int) = 0) by decide)]
  rfl
/-- Where no such file is there: the name is made first. -/
theorem save_go (ht : N.at (tmpB ++ name) = none) (hl : name.length ≤ 36) (hn : N.length < 64) :
    FsS.save ⟨N, sy, mv, fl, room, st, f, false⟩ name b g = if f = 0 then (⟨N, sy, mv, fl, room, st, f, true⟩, 13)
      else saveEnd ⟨N.put (tmpB ++ name) g, sy, mv ++ [N.put (tmpB ++ name) g], fl, room, st + 1, tickN f, false⟩ (tmpB ++ name) name b := by
  unfold FsS.save
  rw [pre_none ht]
  simp only
  rw [if_neg (by simp), create_go (right_tmp hl) ht hn]
  by_cases hf : f = 0
  · rw [if_pos hf, if_pos hf, if_pos (by simp)]
  · rw [if_neg hf, if_neg hf, if_neg (by simp)]
/-- Where it is there it is removed. -/
theorem save_pre_some {k : Nat} (ht : N.at (tmpB ++ name) = some k) :
    FsS.save ⟨N, sy, mv, fl, room, st, -1, false⟩ name b g = FsS.save ⟨N.del (tmpB ++ name), sy, mv ++ [N.del (tmpB ++ name)], fl, room, st + 1, -1, false⟩ name b g := by
  conv => lhs; unfold FsS.save
  conv => rhs; unfold FsS.save
  rw [pre_some ht, pre_none (Nm.at_del_same _ _)]
theorem save_way (hN : N.ok) (hr : rightN name = true) (hl : name.length ≤ 36) (ht : N.at (tmpB ++ name) = none) (hn : N.length < 64) (hg : fl g = Fl.new) (hroom : (sizeIn fl N : Int) + b.length ≤ room) :
    SaveWay N sy mv fl room st name b g (FsS.save ⟨N, sy, mv, fl, room, st, f, false⟩ name b g) := by
  rw [save_go ht hl hn]
  by_cases hf : f = 0
  · rw [if_pos hf]
    have := SaveWay.die (N := N) (sy := sy) (mv := mv) (fl := fl) (room := room) (st := st) (name := name) (b := b) (g := g) mv (fl g) N st f (.inl rfl) (.inl rfl)
    rwa [flSet_self] at this
  · rw [if_neg hf]
    exact saveEnd_way hN hr ht hg hroom
theorem size_tmp (hN : N.ok) (ht : N.at (tmpB ++ name) = none) (hg : fl g = Fl.new) : sizeIn fl (N.put (tmpB ++ name) g) = sizeIn fl N := by
  have := sizeIn_put fl (tmpB ++ name) g N hN.1
  unfold lenAt at this
  rw [ht, hg] at this
  simpa [Fl.new] using this
/-- Without a fuse it is done. -/
theorem save_done (hN : N.ok) (hr : rightN name = true) (hl : name.length ≤ 36) (ht : N.at (tmpB ++ name) = none) (hn : N.length < 64) (hg : fl g = Fl.new) (hroom : (sizeIn fl N : Int) + b.length ≤ room) :
    FsS.save ⟨N, sy, mv, fl, room, st, -1, false⟩ name b g = (⟨N.put name g, N.put name g, [], flSet fl g ⟨b, b, []⟩, room, st + 5, -1, false⟩, 0) := by
  have ha : (N.put (tmpB ++ name) g).at (tmpB ++ name) = some g := Nm.at_put_same _ _ _
  have hx1 : (fl g).do (.app b) = ⟨[], b, [.app b]⟩ := by rw [hg]; rfl
  have hx2 : (⟨[], b, [.app b]⟩ : Fl).sync = ⟨b, b, []⟩ := rfl
  have ht1 : tickN (-1) = -1 := rfl
  have hz : ¬ ((-1 : Int) = 0) := by decide
  rw [save_go ht hl hn, if_neg hz, ht1]
  unfold saveEnd
  simp only [stg]
  rw [append_go ha (by rw [size_tmp hN ht hg]; exact hroom), hx1, if_neg hz, ht1]
  simp only
  rw [if_neg (by simp), sync_go ha, if_neg hz, flSet_same, flSet_twice, hx2, ht1]
  simp only
  rw [if_neg (by simp), rename_go ha hr, if_neg hz, ht1]
  simp only
  rw [if_neg (by simp), syncDir_go, Nm.put_del ht, if_neg hz, ht1]
theorem save_done6 {k : Nat} (hN : N.ok) (hr : rightN name = true) (hl : name.length ≤ 36) (ht : N.at (tmpB ++ name) = some k) (hn : N.length < 64) (hg : fl g = Fl.new) (hroom : (sizeIn fl (N.del (tmpB ++ name)) : Int) + b.length ≤ room) :
    FsS.save ⟨N, sy, mv, fl, room, st, -1, false⟩ name b g = (⟨(N.del (tmpB ++ name)).put name g, (N.del (tmpB ++ name)).put name g, [], flSet fl g ⟨b, b, []⟩, room, st + 6, -1, false⟩, 0) := by
  rw [save_pre_some ht, save_done (hN.del _) hr hl (Nm.at_del_same _ _) (by have := Nm.length_del_le N (tmpB ++ name); omega) hg hroom]
/-- Without room it is as it was. -/
theorem save_full (hN : N.ok) (hl : name.length ≤ 36) (ht : N.at (tmpB ++ name) = none) (hn : N.length < 64) (hg : fl g = Fl.new) (hroom : room < (sizeIn fl N : Int) + b.length) :
    FsS.save ⟨N, sy, mv, fl, room, st, -1, false⟩ name b g = (⟨N, sy, mv ++ [N.put (tmpB ++ name) g] ++ [N], fl, room, st + 2, -1, false⟩, 8) := by
  have ha : (N.put (tmpB ++ name) g).at (tmpB ++ name) = some g := Nm.at_put_same _ _ _
  have ht1 : tickN (-1) = -1 := rfl
  have hz : ¬ ((-1 : Int) = 0) := by decide
  rw [save_go ht hl hn, if_neg hz, ht1]
  unfold saveEnd
  simp only [stg]
  rw [append_full ha (by rw [size_tmp hN ht hg]; exact hroom)]
  simp only
  rw [if_pos (by simp), remove_go ha, if_neg hz, Nm.put_del ht, ht1]
/-- To no name nothing is saved. -/
theorem save_noname (hN : N.ok) (hr : rightN name = false) (hl : name.length ≤ 36) (ht : N.at (tmpB ++ name) = none) (hn : N.length < 64) (hg : fl g = Fl.new) (hroom : (sizeIn fl N : Int) + b.length ≤ room) :
    (FsS.save ⟨N, sy, mv, fl, room, st, -1, false⟩ name b g).2 = 1 := by
  have ha : (N.put (tmpB ++ name) g).at (tmpB ++ name) = some g := Nm.at_put_same _ _ _
  have ht1 : tickN (-1) = -1 := rfl
  have hz : ¬ ((-1 : Int) = 0) := by decide
  rw [save_go ht hl hn, if_neg hz, ht1]
  unfold saveEnd
  simp only [stg]
  rw [append_go ha (by rw [size_tmp hN ht hg]; exact hroom), if_neg hz, ht1]
  simp only
  rw [if_neg (by simp), sync_go ha, if_neg hz, ht1]
  simp only
  rw [if_neg (by simp), rename_arg ha hr]
  simp only
  rw [if_pos (by simp)]

/-- A file that was synced is what it was behind a crash. -/
theorem crashFl_at (ks : List Int) {k : Nat} : ∀ (M : Nm) (i : Nat) (fl : Nat → Fl), (fl k).still → crashFl ks i M fl k = fl k
  | [], _, _, _ => rfl
  | p :: M, i, fl, h => by
    have hh : (if k = p.2 then (fl p.2).survive (keptN ks (1 + 2 * i)) (keptN ks (2 + 2 * i)) else fl k) = fl k := by
      split
      · rename_i e
        rw [e] at h ⊢
        exact Fl.survive_id h _ _
      · rfl
    unfold crashFl
    rw [crashFl_at ks M (i + 1) _ (by rw [hh]; exact h), hh]
theorem sizeIn_congr {fl fl' : Nat → Fl} : ∀ {M : Nm}, (∀ k ∈ M.ids, fl' k = fl k) → sizeIn fl' M = sizeIn fl M
  | [], _ => rfl
  | p :: M, h => by
    have h1 := sizeIn_congr (M := M) fun k hk => h k (List.mem_cons_of_mem _ hk)
    have h2 := h p.2 List.mem_cons_self
    unfold sizeIn at *
    simp only [List.map_cons, List.sum_cons]
    rw [h1, h2]

theorem crashDir_of (S : FsS) (ks : List Int) : S.crashDir ks = S.synced ∨ S.crashDir ks ∈ S.moves := by
  unfold FsS.crashDir
  have hlt : keptN ks 0 % (S.moves.length + 1) < S.moves.length + 1 := Nat.mod_lt _ (by omega)
  cases hm : keptN ks 0 % (S.moves.length + 1) with
  | zero => exact .inl rfl
  | succ n =>
    have : n < S.moves.length := by omega
    right
    simp only
    rw [List.getD_eq_getElem?_getD, List.getElem?_eq_getElem this]
    exact List.getElem_mem _
/-- Behind a save, and a crash: what is there. -/
structure SaveOld (N : Nm) (fl : Nat → Fl) (name b : List UInt8) (g : Nat) (dead : Bool) (M : Nm) (fl' : Nat → Fl) : Prop where
  way : (M = N ∧ dead = true) ∨ (M = N.put (tmpB ++ name) g ∧ dead = true) ∨ (M = N.put name g ∧ fl' g = ⟨b, b, []⟩)
  old : ∀ k ∈ N.ids, fl' k = fl k
theorem save_crash {P : FsS × Int} (hw : SaveWay N N [] fl room st name b g P) (hs : ∀ k ∈ N.ids, (fl k).still) (hg : g ∉ N.ids) (ks : List Int) :
    SaveOld N fl name b g P.1.dead (P.1.crash ks).names (P.1.crash ks).fl ∧ (P.2 = 13 ∧ P.1.dead = true ∨ P.2 = 0 ∧ P.1.dead = false) ∧ P.1.room = room := by
  have hne : ∀ k ∈ N.ids, k ≠ g := fun k hk e => hg (e ▸ hk)
  cases hw with
  | done f' =>
    refine ⟨⟨.inr (.inr ⟨?_, ?_⟩), ?_⟩, .inr ⟨rfl, rfl⟩, rfl⟩
    · show FsS.crashDir _ _ = _
      unfold FsS.crashDir
      simp only [List.length_nil, Nat.zero_add, Nat.mod_one]
    · show crashFl _ _ _ (flSet fl g _) g = _
      rw [crashFl_at _ _ _ _ (by rw [flSet_same]; exact ⟨rfl, rfl⟩), flSet_same]
    · intro k hk
      show crashFl _ _ _ (flSet fl g _) k = _
      rw [crashFl_at _ _ _ _ (by rw [flSet_other _ _ (hne k hk)]; exact hs k hk), flSet_other _ _ (hne k hk)]
  | die mv' x M st' f' hx hmv =>
    refine ⟨⟨?_, ?_⟩, .inl ⟨rfl, rfl⟩, rfl⟩
    · have hm := crashDir_of ⟨M, N, mv', flSet fl g x, room, st', f', true⟩ ks
      have hg' : x = ⟨b, b, []⟩ → crashFl ks 0 (FsS.crashDir ⟨M, N, mv', flSet fl g x, room, st', f', true⟩ ks) (flSet fl g x) g = ⟨b, b, []⟩ := fun e => by
        subst e
        rw [crashFl_at _ _ _ _ (by rw [flSet_same]; exact ⟨rfl, rfl⟩), flSet_same]
      show FsS.crashDir ⟨M, N, mv', flSet fl g x, room, st', f', true⟩ ks = _ ∧ _ ∨ FsS.crashDir ⟨M, N, mv', flSet fl g x, room, st', f', true⟩ ks = _ ∧ _ ∨ FsS.crashDir ⟨M, N, mv', flSet fl g x, room, st', f', true⟩ ks = _ ∧ crashFl ks 0 (FsS.crashDir ⟨M, N, mv', flSet fl g x, room, st', f', true⟩ ks) (flSet fl g x) g = _
      rcases hm with hm | hm
      · exact .inl ⟨hm, rfl⟩
      · rcases hmv with e | e | ⟨e, ex⟩
        · have : ∀ C ∈ mv', False := fun C hC => by
            rw [e] at hC
            simp at hC
          exact absurd hm (this _)
        · have : ∀ C ∈ mv', C = N.put (tmpB ++ name) g := fun C hC => by
            rw [e] at hC
            simpa using hC
          exact .inr (.inl ⟨this _ hm, rfl⟩)
        · have hm' : FsS.crashDir ⟨M, N, mv', flSet fl g x, room, st', f', true⟩ ks ∈ mv' := hm
          have e' : mv' = [N.put (tmpB ++ name) g, N.put name g] := by rw [e]; rfl
          have hor : FsS.crashDir ⟨M, N, mv', flSet fl g x, room, st', f', true⟩ ks = N.put (tmpB ++ name) g ∨ FsS.crashDir ⟨M, N, mv', flSet fl g x, room, st', f', true⟩ ks = N.put name g := by
            have : ∀ C ∈ mv', C = N.put (tmpB ++ name) g ∨ C = N.put name g := fun C hC => by
              rw [e'] at hC
              simpa using hC
            exact this _ hm'
          rcases hor with h | h
          · exact .inr (.inl ⟨h, rfl⟩)
          · exact .inr (.inr ⟨h, hg' ex⟩)
    · intro k hk
      show crashFl _ _ _ (flSet fl g _) k = _
      rw [crashFl_at _ _ _ _ (by rw [flSet_other _ _ (hne k hk)]; exact hs k hk), flSet_other _ _ (hne k hk)]
end
end Go.Proofs.Ytocfaffiifhggaa
