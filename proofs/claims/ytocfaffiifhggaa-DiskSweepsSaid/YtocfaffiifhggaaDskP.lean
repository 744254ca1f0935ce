/- Saving, in plain words: where nothing stands in its way, and where the machine dies. -/
import Derived.Test.YtocfaffiifhggaaDskF
namespace Go.Proofs.Ytocfaffiifhggaa
open Go.RowKit Go.Maps Go.WideMaps

theorem Nm.del_none {N : Nm} {l : List UInt8} (h : N.at l = none) : N.del l = N := by
  unfold Nm.del
  rw [List.filter_eq_self]
  intro p hp
  have := Nm.at_none h p hp
  simpa using this
theorem Nm.ins_del {x : List UInt8 × Nat} : ∀ {N : Nm}, (∀ p ∈ N, p.1 ≠ x.1) → (Nm.ins x N).del x.1 = N
  | [], _ => by simp [Nm.ins, Nm.del]
  | y :: r, h => by
    have hy := h y (by simp)
    have hr : ∀ p ∈ r, p.1 ≠ x.1 := fun p hp => h p (by simp [hp])
    have hd : ∀ M : Nm, Nm.del (y :: M) x.1 = y :: Nm.del M x.1 := fun M => by
      unfold Nm.del
      rw [List.filter_cons, if_pos (by simpa using hy)]
    unfold Nm.ins
    split
    · have : Nm.del (x :: y :: r) x.1 = Nm.del (y :: r) x.1 := by
        unfold Nm.del
        rw [List.filter_cons, if_neg (by simp)]
      rw [this, hd]
      congr 1
      unfold Nm.del
      rw [List.filter_eq_self]
      intro p hp
      simpa using hr p hp
    · rw [hd, Nm.ins_del hr]
theorem Nm.put_del {N : Nm} {l : List UInt8} {g : Nat} (h : N.at l = none) : (N.put l g).del l = N := by
  unfold Nm.put
  rw [Nm.del_none h]
  exact Nm.ins_del (x := (l, g)) (Nm.at_none h)
theorem Nm.length_put {N : Nm} {l : List UInt8} {g : Nat} (h : N.at l = none) : (N.put l g).length = N.length + 1 := by
  unfold Nm.put
  rw [Nm.del_none h, Nm.length_ins]

/-- A machine that lives, its files all synced. -/
structure FsS.quiet (S : FsS) : Prop where
  alive : S.dead = false
  still : ∀ g ∈ S.names.ids, (S.fl g).still
theorem FsS.calm.quiet {S : FsS} (h : S.calm) : S.quiet := ⟨h.alive, h.still⟩

/-- One step's count. -/
def tickN (f : Int) : Int := max (f - 1) (-1)
def flSet (fl : Nat → Fl) (g : Nat) (x : Fl) : Nat → Fl := fun k => if k = g then x else fl k
theorem flSet_same (fl : Nat → Fl) (g : Nat) (x : Fl) : flSet fl g x g = x := if_pos rfl
theorem flSet_other (fl : Nat → Fl) {g k : Nat} (x : Fl) (h : k ≠ g) : flSet fl g x k = fl k := if_neg h
theorem flSet_twice (fl : Nat → Fl) (g : Nat) (x y : Fl) : flSet (flSet fl g x) g y = flSet fl g y := by
  funext k
  unfold flSet
  split <;> rfl

section
variable {N sy : Nm} {mv : List Nm} {fl : Nat → Fl} {room : Int} {st : Nat} {f : Int} {l b : List UInt8} {g : Nat}

theorem step_go {S : FsS} (hf : S.fuse ≠ 0) (h : FsS → FsS) : S.step h = (h S.tick, 0) := by unfold FsS.step; rw [if_neg hf]
theorem step_die {S : FsS} (hf : S.fuse = 0) (h : FsS → FsS) : S.step h = (S.die, 13) := by unfold FsS.step; rw [if_pos hf]

theorem create_go (hr : rightN l = true) (ha : N.at l = none) (hn : N.length < 64) :
    FsS.create ⟨N, sy, mv, fl, room, st, f, false⟩ l g = if f = 0 then (⟨N, sy, mv, fl, room, st, f, true⟩, 13) else (⟨N.put l g, sy, mv ++ [N.put l g], fl, room, st + 1, tickN f, false⟩, 0) := by
  unfold FsS.create
  rw [if_neg (by simp), if_neg (by simp [hr]), if_neg (by simp [ha]), if_neg (by simp only []; omega)]
  by_cases hf : f = 0
  · rw [if_pos hf, step_die hf]; rfl
  · rw [if_neg hf, step_go hf]; rfl
theorem append_go (ha : N.at l = some g) (hr : (sizeIn fl N : Int) + b.length ≤ room) :
    FsS.append ⟨N, sy, mv, fl, room, st, f, false⟩ l b = if f = 0 then (⟨N, sy, mv, fl, room, st, f, true⟩, 13) else (⟨N, sy, mv, flSet fl g ((fl g).do (.app b)), room, st + 1, tickN f, false⟩, 0) := by
  unfold FsS.append FsS.of
  simp only [Bool.false_eq_true, if_false, ha]
  rw [if_neg (by show ¬ room < (sizeIn fl N : Int) + b.length; omega)]
  by_cases hf : f = 0
  · rw [if_pos hf, step_die hf]; rfl
  · rw [if_neg hf, step_go hf]; rfl
theorem append_full (ha : N.at l = some g) (hr : room < (sizeIn fl N : Int) + b.length) : FsS.append ⟨N, sy, mv, fl, room, st, f, false⟩ l b = (⟨N, sy, mv, fl, room, st, f, false⟩, 8) := by
  unfold FsS.append FsS.of
  simp only [Bool.false_eq_true, if_false, ha]
  rw [if_pos (by show room < (sizeIn fl N : Int) + b.length; exact hr)]
theorem sync_go (ha : N.at l = some g) :
    FsS.sync ⟨N, sy, mv, fl, room, st, f, false⟩ l = if f = 0 then (⟨N, sy, mv, fl, room, st, f, true⟩, 13) else (⟨N, sy, mv, flSet fl g (fl g).sync, room, st + 1, tickN f, false⟩, 0) := by
  unfold FsS.sync FsS.of
  simp only [Bool.false_eq_true, if_false, ha]
  by_cases hf : f = 0
  · rw [if_pos hf, step_die hf]; rfl
  · rw [if_neg hf, step_go hf]; rfl
theorem cut_go {n : Int} (ha : N.at l = some g) (h0 : 0 ≤ n) (h1 : n ≤ ((fl g).nw.length : Int)) :
    FsS.cut ⟨N, sy, mv, fl, room, st, f, false⟩ l n = if f = 0 then (⟨N, sy, mv, fl, room, st, f, true⟩, 13) else (⟨N, sy, mv, flSet fl g ((fl g).do (.cut n.toNat)), room, st + 1, tickN f, false⟩, 0) := by
  unfold FsS.cut FsS.of
  simp only [Bool.false_eq_true, if_false, ha]
  rw [if_neg (by omega)]
  by_cases hf : f = 0
  · rw [if_pos hf, step_die hf]; rfl
  · rw [if_neg hf, step_go hf]; rfl
theorem rename_go {k : List UInt8} (ha : N.at l = some g) (hr : rightN k = true) :
    FsS.rename ⟨N, sy, mv, fl, room, st, f, false⟩ l k = if f = 0 then (⟨N, sy, mv, fl, room, st, f, true⟩, 13) else (⟨(N.del l).put k g, sy, mv ++ [(N.del l).put k g], fl, room, st + 1, tickN f, false⟩, 0) := by
  unfold FsS.rename FsS.of
  simp only [Bool.false_eq_true, if_false, ha]
  rw [if_neg (by simp [hr])]
  by_cases hf : f = 0
  · rw [if_pos hf, step_die hf]; rfl
  · rw [if_neg hf, step_go hf]; rfl
theorem rename_arg {k : List UInt8} (ha : N.at l = some g) (hr : rightN k = false) : FsS.rename ⟨N, sy, mv, fl, room, st, f, false⟩ l k = (⟨N, sy, mv, fl, room, st, f, false⟩, 1) := by
  unfold FsS.rename FsS.of
  simp only [Bool.false_eq_true, if_false, ha]
  rw [if_pos hr]
theorem remove_go (ha : N.at l = some g) :
    FsS.remove ⟨N, sy, mv, fl, room, st, f, false⟩ l = if f = 0 then (⟨N, sy, mv, fl, room, st, f, true⟩, 13) else (⟨N.del l, sy, mv ++ [N.del l], fl, room, st + 1, tickN f, false⟩, 0) := by
  unfold FsS.remove FsS.of
  simp only [Bool.false_eq_true, if_false, ha]
  by_cases hf : f = 0
  · rw [if_pos hf, step_die hf]; rfl
  · rw [if_neg hf, step_go hf]; rfl
theorem syncDir_go : FsS.syncDir ⟨N, sy, mv, fl, room, st, f, false⟩ = if f = 0 then (⟨N, sy, mv, fl, room, st, f, true⟩, 13) else (⟨N, N, [], fl, room, st + 1, tickN f, false⟩, 0) := by
  unfold FsS.syncDir
  rw [if_neg (by simp)]
  by_cases hf : f = 0
  · rw [if_pos hf, step_die hf]; rfl
  · rw [if_neg hf, step_go hf]; rfl
theorem remove_dead {S : FsS} (h : S.dead = true) (l : List UInt8) : S.remove l = (S, 13) := by
  unfold FsS.remove FsS.of
  rw [if_pos h]
end

/-- How a save may end, in a machine whose names are N, and whose syncs are done. -/
inductive SaveWay (N sy : Nm) (mv : List Nm) (fl : Nat → Fl) (room : Int) (st : Nat) (name b : List UInt8) (g : Nat) : FsS × Int → Prop
  | done (f' : Int) : SaveWay N sy mv fl room st name b g (⟨N.put name g, N.put name g, [], flSet fl g ⟨b, b, []⟩, room, st + 5, f', false⟩, 0)
  | die (mv' : List Nm) (x : Fl) (M : Nm) (st' : Nat) (f' : Int) (hx : x = fl g ∨ x = ⟨[], b, [.app b]⟩ ∨ x = ⟨b, b, []⟩) (hmv : mv' = mv ∨ mv' = mv ++ [N.put (tmpB ++ name) g] ∨ (mv' = mv ++ [N.put (tmpB ++ name) g, N.put name g] ∧ x = ⟨b, b, []⟩)) :
      SaveWay N sy mv fl room st name b g (⟨M, sy, mv', flSet fl g x, room, st', f', true⟩, 13)

theorem tmp_ne (name : List UInt8) : tmpB ++ name ≠ name := fun e => by
  have := congrArg List.length e
  simp [tmpB] at this
  try omega
theorem right_tmp {name : List UInt8} (h : name.length ≤ 36) : rightN (tmpB ++ name) = true := by
  unfold rightN
  simp [tmpB]
  omega
theorem flSet_self (fl : Nat → Fl) (g : Nat) : flSet fl g (fl g) = fl := by
  funext k
  unfold flSet
  split
  · rename_i e; rw [e]
  · rfl

/-- A save from a machine that has no such file, with room. -/
theorem saveEnd_way {N sy : Nm} {mv : List Nm} {fl : Nat → Fl} {room : Int} {st : Nat} {f : Int} {name b : List UInt8} {g : Nat} (hN : N.ok) (hr : rightN name = true) (ht : N.at (tmpB ++ name) = none)
    (hg : fl g = Fl.new) (hroom : (sizeIn fl N : Int) + b.length ≤ room) :
    SaveWay N sy mv fl room st name b g (saveEnd ⟨N.put (tmpB ++ name) g, sy, mv ++ [N.put (tmpB ++ name) g], fl, room, st + 1, tickN f, false⟩ (tmpB ++ name) name b) := by
  have ha : (N.put (tmpB ++ name) g).at (tmpB ++ name) = some g := Nm.at_put_same _ _ _
  have hz : sizeIn fl (N.put (tmpB ++ name) g) = sizeIn fl N := by
    have := sizeIn_put fl (tmpB ++ name) g N hN.1
    unfold lenAt at this
    rw [ht, hg] at this
    simpa [Fl.new] using this
  have hdel : (N.put (tmpB ++ name) g).del (tmpB ++ name) = N := Nm.put_del ht
  have hx1 : (fl g).do (.app b) = ⟨[], b, [.app b]⟩ := by rw [hg]; rfl
  have hx2 : (⟨[], b, [.app b]⟩ : Fl).sync = ⟨b, b, []⟩ := rfl
  unfold saveEnd
  simp only [stg]
  rw [append_go ha (by rw [hz]; exact hroom), hx1]
  by_cases f1 : tickN f = 0
  · rw [if_pos f1]
    simp only
    rw [if_pos (by simp), remove_dead rfl]
    have := SaveWay.die (N := N) (sy := sy) (mv := mv) (fl := fl) (room := room) (st := st) (name := name) (b := b) (g := g) (mv ++ [N.put (tmpB ++ name) g]) (fl g) (N.put (tmpB ++ name) g) (st + 1) (tickN f) (.inl rfl) (.inr (.inl rfl))
    rwa [flSet_self] at this
  rw [if_neg f1]
  simp only
  rw [if_neg (by simp), sync_go ha]
  by_cases f2 : tickN (tickN f) = 0
  · rw [if_pos f2]
    simp only
    rw [if_pos (by simp), remove_dead rfl]
    exact SaveWay.die _ _ _ _ _ (.inr (.inl rfl)) (.inr (.inl rfl))
  rw [if_neg f2, flSet_same, flSet_twice, hx2]
  simp only
  rw [if_neg (by simp), rename_go ha hr]
  by_cases f3 : tickN (tickN (tickN f)) = 0
  · rw [if_pos f3]
    simp only
    rw [if_pos (by simp), remove_dead rfl]
    exact SaveWay.die _ _ _ _ _ (.inr (.inr rfl)) (.inr (.inl rfl))
  rw [if_neg f3]
  simp only
  rw [if_neg (by simp), syncDir_go, hdel]
  by_cases f4 : tickN (tickN (tickN (tickN f))) = 0
  · rw [if_pos f4]
    have := SaveWay.die (N := N) (sy := sy) (mv := mv) (fl := fl) (room := room) (st := st) (name := name) (b := b) (g := g) (mv ++ [N.put (tmpB ++ name) g, N.put name g]) ⟨b, b, []⟩ (N.put name g) (st + 1 + 1 + 1 + 1) (tickN (tickN (tickN (tickN f)))) (.inr (.inr rfl)) (.inr (.inr ⟨rfl, rfl⟩))
    rw [show ∀ x y : Nm, mv ++ [x, y] = mv ++ [x] ++ [y] from fun x y => by simp] at this
    exact this
  · rw [if_neg f4]
    exact SaveWay.done _
end Go.Proofs.Ytocfaffiifhggaa
