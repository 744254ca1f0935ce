/- Saving, in plain words: where nothing stands in its way, and where the machine dies. Saving as a whole, in plain words. A machine in the midst of a law: saved, swept, repaired. -/
import Derived.Test.YtgagcncmlonciaaGreatDoorDB
namespace Go.Proofs.YtgagcncmlonciaaGreatDoor
open Go.RowKit Go.Maps Go.WideMaps

theorem Nm.del_none {N : Nm} {l : List UInt8} (h : N.at l = none) : N.del l = N := by
  unfold Nm.del
  rw [List.filter_eq_self]
  intro p hp
  have := Nm.at_none h p hp
  simpa using this
theorem Nm.ins_del {x : List UInt8 × Nat} : ∀ {N : Nm}, (∀ p ∈ N, p.1 ≠ x.1) → (Nm.ins x N).del x.1 = N
  | [], _ => by simp [Nm.ins, Nm.del]
  | y :: r, h => by
    have hy := h y (by simp)
    have hr : ∀ p ∈ r, p.1 ≠ x.1 := fun p hp => h p (by simp [hp])
    have hd : ∀ M : Nm, Nm.del (y :: M) x.1 = y :: Nm.del M x.1 := fun M => by
      unfold Nm.del
      rw [List.filter_cons, if_pos (by simpa using hy)]
    unfold Nm.ins
    split
    · have : Nm.del (x :: y :: r) x.1 = Nm.del (y :: r) x.1 := by
        unfold Nm.del
        rw [List.filter_cons, if_neg (by simp)]
      rw [this, hd]
      congr 1
      unfold Nm.del
      rw [List.filter_eq_self]
      intro p hp
      simpa using hr p hp
    · rw [hd, Nm.ins_del hr]
theorem Nm.put_del {N : Nm} {l : List UInt8} {g : Nat} (h : N.at l = none) : (N.put l g).del l = N := by
  unfold Nm.put
  rw [Nm.del_none h]
  exact Nm.ins_del (x := (l, g)) (Nm.at_none h)
theorem Nm.length_put {N : Nm} {l : List UInt8} {g : Nat} (h : N.at l = none) : (N.put l g).length = N.length + 1 := by
  unfold Nm.put
  rw [Nm.del_none h, Nm.length_ins]

/-- A machine that lives, its files all synced. -/
structure FsS.quiet (S : FsS) : Prop where
  alive : S.dead = false
  still : ∀ g ∈ S.names.ids, (S.fl g).still
theorem FsS.calm.quiet {S : FsS} (h : S.calm) : S.quiet := ⟨h.alive, h.still⟩

/-- One step's count. -/
def tickN (f : Int) : Int := max (f - 1) (-1)
def flSet (fl : Nat → Fl) (g : Nat) (x : Fl) : Nat → Fl := fun k => if k = g then x else fl k
theorem flSet_same (fl : Nat → Fl) (g : Nat) (x : Fl) : flSet fl g x g = x := if_pos rfl
theorem flSet_other (fl : Nat → Fl) {g k : Nat} (x : Fl) (h : k ≠ g) : flSet fl g x k = fl k := if_neg h
theorem flSet_twice (fl : Nat → Fl) (g : Nat) (x y : Fl) : flSet (flSet fl g x) g y = flSet fl g y := by
  funext k
  unfold flSet
  split <;> rfl

section
variable {N sy : Nm} {mv : List Nm} {fl : Nat → Fl} {room : Int} {st : Nat} {f : Int} {l b : List UInt8} {g : Nat}

theorem step_go {S : FsS} (hf : S.fuse ≠ 0) (h : FsS → FsS) : S.step h = (h S.tick, 0) := by unfold FsS.step; rw [if_neg hf]
theorem step_die {S : FsS} (hf : S.fuse = 0) (h : FsS → FsS) : S.step h = (S.die, 13) := by unfold FsS.step; rw [if_pos hf]

theorem create_go (hr : rightN l = true) (ha : N.at l = none) (hn : N.length < 64) :
    FsS.create ⟨N, sy, mv, fl, room, st, f, false⟩ l g = if f = 0 then (⟨N, sy, mv, fl, room, st, f, true⟩, 13) else (⟨N.put l g, sy, mv ++ [N.put l g], fl, room, st + 1, tickN f, false⟩, 0) := by
  unfold FsS.create
  rw [if_neg (by simp), if_neg (by simp [hr]), if_neg (by simp [ha]), if_neg (by simp only []; omega)]
  by_cases hf : f = 0
  · rw [if_pos hf, step_die hf]; rfl
  · rw [if_neg hf, step_go hf]; rfl
theorem append_go (ha : N.at l = some g) (hr : (sizeIn fl N : Int) + b.length ≤ room) :
    FsS.append ⟨N, sy, mv, fl, room, st, f, false⟩ l b = if f = 0 then (⟨N, sy, mv, fl, room, st, f, true⟩, 13) else (⟨N, sy, mv, flSet fl g ((fl g).do (.app b)), room, st + 1, tickN f, false⟩, 0) := by
  unfold FsS.append FsS.of
  simp only [Bool.false_eq_true, if_false, ha]
  rw [if_neg (by show ¬ room < (sizeIn fl N : Int) + b.length; omega)]
  by_cases hf : f = 0
  · rw [if_pos hf, step_die hf]; rfl
  · rw [if_neg hf, step_go hf]; rfl
theorem append_full (ha : N.at l = some g) (hr : room < (sizeIn fl N : Int) + b.length) : FsS.append ⟨N, sy, mv, fl, room, st, f, false⟩ l b = (⟨N, sy, mv, fl, room, st, f, false⟩, 8) := by
  unfold FsS.append FsS.of
  simp only [Bool.false_eq_true, if_false, ha]
  rw [if_pos (by show room < (sizeIn fl N : Int) + b.length; exact hr)]
theorem sync_go (ha : N.at l = some g) :
    FsS.sync ⟨N, sy, mv, fl, room, st, f, false⟩ l = if f = 0 then (⟨N, sy, mv, fl, room, st, f, true⟩, 13) else (⟨N, sy, mv, flSet fl g (fl g).sync, room, st + 1, tickN f, false⟩, 0) := by
  unfold FsS.sync FsS.of
  simp only [Bool.false_eq_true, if_false, ha]
  by_cases hf : f = 0
  · rw [if_pos hf, step_die hf]; rfl
  · rw [if_neg hf, step_go hf]; rfl
theorem cut_go {n : Int} (ha : N.at l = some g) (h0 : 0 ≤ n) (h1 : n ≤ ((fl g).nw.length : Int)) :
    FsS.cut ⟨N, sy, mv, fl, room, st, f, false⟩ l n = if f = 0 then (⟨N, sy, mv, fl, room, st, f, true⟩, 13) else (⟨N, sy, mv, flSet fl g ((fl g).do (.cut n.toNat)), room, st + 1, tickN f, false⟩, 0) := by
  unfold FsS.cut FsS.of
  simp only [Bool.false_eq_true, if_false, ha]
  rw [if_neg (by omega)]
  by_cases hf : f = 0
  · rw [if_pos hf, step_die hf]; rfl
  · rw [if_neg hf, step_go hf]; rfl
theorem rename_go {k : List UInt8} (ha : N.at l = some g) (hr : rightN k = true) :
    FsS.rename ⟨N, sy, mv, fl, room, st, f, false⟩ l k = if f = 0 then (⟨N, sy, mv, fl, room, st, f, true⟩, 13) else (⟨(N.del l).put k g, sy, mv ++ [(N.del l).put k g], fl, room, st + 1, tickN f, false⟩, 0) := by
  unfold FsS.rename FsS.of
  simp only [Bool.false_eq_true, if_false, ha]
  rw [if_neg (by simp [hr])]
  by_cases hf : f = 0
  · rw [if_pos hf, step_die hf]; rfl
  · rw [if_neg hf, step_go hf]; rfl
theorem rename_arg {k : List UInt8} (ha : N.at l = some g) (hr : rightN k = false) : FsS.rename ⟨N, sy, mv, fl, room, st, f, false⟩ l k = (⟨N, sy, mv, fl, room, st, f, false⟩, 1) := by
  unfold FsS.rename FsS.of
  simp only [Bool.false_eq_true, if_false, ha]
  rw [if_pos hr]
theorem remove_go (ha : N.at l = some g) :
    FsS.remove ⟨N, sy, mv, fl, room, st, f, false⟩ l = if f = 0 then (⟨N, sy, mv, fl, room, st, f, true⟩, 13) else (⟨N.del l, sy, mv ++ [N.del l], fl, room, st + 1, tickN f, false⟩, 0) := by
  unfold FsS.remove FsS.of
  simp only [Bool.false_eq_true, if_false, ha]
  by_cases hf : f = 0
  · rw [if_pos hf, step_die hf]; rfl
  · rw [if_neg hf, step_go hf]; rfl
theorem syncDir_go : FsS.syncDir ⟨N, sy, mv, fl, room, st, f, false⟩ = if f = 0 then (⟨N, sy, mv, fl, room, st, f, true⟩, 13) else (⟨N, N, [], fl, room, st + 1, tickN f, false⟩, 0) := by
  unfold FsS.syncDir
  rw [if_neg (by simp)]
  by_cases hf : f = 0
  · rw [if_pos hf, step_die hf]; rfl
  · rw [if_neg hf, step_go hf]; rfl
theorem remove_dead {S : FsS} (h : S.dead = true) (l : List UInt8) : S.remove l = (S, 13) := by
  unfold FsS.remove FsS.of
  rw [if_pos h]
end

/-- How a save may end, in a machine whose names are N, and whose syncs are done. -/
inductive SaveWay (N sy : Nm) (mv : List Nm) (fl : Nat → Fl) (room : Int) (st : Nat) (name b : List UInt8) (g : Nat) : FsS × Int → Prop
  | done (f' : Int) : SaveWay N sy mv fl room st name b g (⟨N.put name g, N.put name g, [], flSet fl g ⟨b, b, []⟩, room, st + 5, f', false⟩, 0)
  | die (mv' : List Nm) (x : Fl) (M : Nm) (st' : Nat) (f' : Int) (hx : x = fl g ∨ x = ⟨[], b, [.app b]⟩ ∨ x = ⟨b, b, []⟩) (hmv : mv' = mv ∨ mv' = mv ++ [N.put (tmpB ++ name) g] ∨ (mv' = mv ++ [N.put (tmpB ++ name) g, N.put name g] ∧ x = ⟨b, b, []⟩)) :
      SaveWay N sy mv fl room st name b g (⟨M, sy, mv', flSet fl g x, room, st', f', true⟩, 13)

theorem tmp_ne (name : List UInt8) : tmpB ++ name ≠ name := fun e => by
  have := congrArg List.length e
  simp [tmpB] at this
  try omega
theorem right_tmp {name : List UInt8} (h : name.length ≤ 36) : rightN (tmpB ++ name) = true := by
  unfold rightN
  simp [tmpB]
  omega
theorem flSet_self (fl : Nat → Fl) (g : Nat) : flSet fl g (fl g) = fl := by
  funext k
  unfold flSet
  split
  · rename_i e; rw [e]
  · rfl

/-- A save from a machine that has no such file, with room. -/
theorem saveEnd_way {N sy : Nm} {mv : List Nm} {fl : Nat → Fl} {room : Int} {st : Nat} {f : Int} {name b : List UInt8} {g : Nat} (hN : N.ok) (hr : rightN name = true) (ht : N.at (tmpB ++ name) = none)
    (hg : fl g = Fl.new) (hroom : (sizeIn fl N : Int) + b.length ≤ room) :
    SaveWay N sy mv fl room st name b g (saveEnd ⟨N.put (tmpB ++ name) g, sy, mv ++ [N.put (tmpB ++ name) g], fl, room, st + 1, tickN f, false⟩ (tmpB ++ name) name b) := by
  have ha : (N.put (tmpB ++ name) g).at (tmpB ++ name) = some g := Nm.at_put_same _ _ _
  have hz : sizeIn fl (N.put (tmpB ++ name) g) = sizeIn fl N := by
    have := sizeIn_put fl (tmpB ++ name) g N hN.1
    unfold lenAt at this
    rw [ht, hg] at this
    simpa [Fl.new] using this
  have hdel : (N.put (tmpB ++ name) g).del (tmpB ++ name) = N := Nm.put_del ht
  have hx1 : (fl g).do (.app b) = ⟨[], b, [.app b]⟩ := by rw [hg]; rfl
  have hx2 : (⟨[], b, [.app b]⟩ : Fl).sync = ⟨b, b, []⟩ := rfl
  unfold saveEnd
  simp only [stg]
  rw [append_go ha (by rw [hz]; exact hroom), hx1]
  by_cases f1 : tickN f = 0
  · rw [if_pos f1]
    simp only
    rw [if_pos (by simp), remove_dead rfl]
    have := SaveWay.die (N := N) (sy := sy) (mv := mv) (fl := fl) (room := room) (st := st) (name := name) (b := b) (g := g) (mv ++ [N.put (tmpB ++ name) g]) (fl g) (N.put (tmpB ++ name) g) (st + 1) (tickN f) (.inl rfl) (.inr (.inl rfl))
    rwa [flSet_self] at this
  rw [if_neg f1]
  simp only
  rw [if_neg (by simp), sync_go ha]
  by_cases f2 : tickN (tickN f) = 0
  · rw [if_pos f2]
    simp only
    rw [if_pos (by simp), remove_dead rfl]
    exact SaveWay.die _ _ _ _ _ (.inr (.inl rfl)) (.inr (.inl rfl))
  rw [if_neg f2, flSet_same, flSet_twice, hx2]
  simp only
  rw [if_neg (by simp), rename_go ha hr]
  by_cases f3 : tickN (tickN (tickN f)) = 0
  · rw [if_pos f3]
    simp only
    rw [if_pos (by simp), remove_dead rfl]
    exact SaveWay.die _ _ _ _ _ (.inr (.inr rfl)) (.inr (.inl rfl))
  rw [if_neg f3]
  simp only
  rw [if_neg (by simp), syncDir_go, hdel]
  by_cases f4 : tickN (tickN (tickN (tickN f))) = 0
  · rw [if_pos f4]
    have := SaveWay.die (N := N) (sy := sy) (mv := mv) (fl := fl) (room := room) (st := st) (name := name) (b := b) (g := g) (mv ++ [N.put (tmpB ++ name) g, N.put name g]) ⟨b, b, []⟩ (N.put name g) (st + 1 + 1 + 1 + 1) (tickN (tickN (tickN (tickN f)))) (.inr (.inr rfl)) (.inr (.inr ⟨rfl, rfl⟩))
    rw [show ∀ x y : Nm, mv ++ [x, y] = mv ++ [x] ++ [y] from fun x y => by simp] at this
    exact this
  · rw [if_neg f4]
    exact SaveWay.done _
end Go.Proofs.YtgagcncmlonciaaGreatDoor
namespace Go.Proofs.YtgagcncmlonciaaGreatDoor
open Go.RowKit Go.Maps Go.WideMaps

section
variable {N sy : Nm} {mv : List Nm} {fl : Nat → Fl} {room : Int} {st : Nat} {f : Int} {name b : List UInt8} {g : Nat}

theorem pre_none (ht : N.at (tmpB ++ name) = none) : preSave ⟨N, sy, mv, fl, room, st, f, false⟩ (tmpB ++ name) = (⟨N, sy, mv, fl, room, st, f, false⟩, 0) := by
  unfold preSave
  rw [if_neg (by simp [ht])]
theorem pre_some {k : Nat} (ht : N.at (tmpB ++ name) = some k) :
    preSave ⟨N, sy, mv, fl, room, st, -1, false⟩ (tmpB ++ name) = (⟨N.del (tmpB ++ name), sy, mv ++ [N.del (tmpB ++ name)], fl, room, st + 1, -1, false⟩, 0) := by
  unfold preSave
  rw [if_pos (by simp [ht]), remove_go ht, if_neg (show ¬ ((-1 : Int) = 0) by decide)]
  rfl
/-- Where no such file is there: the name is made first. -/
theorem save_go (ht : N.at (tmpB ++ name) = none) (hl : name.length ≤ 36) (hn : N.length < 64) :
    FsS.save ⟨N, sy, mv, fl, room, st, f, false⟩ name b g = if f = 0 then (⟨N, sy, mv, fl, room, st, f, true⟩, 13)
      else saveEnd ⟨N.put (tmpB ++ name) g, sy, mv ++ [N.put (tmpB ++ name) g], fl, room, st + 1, tickN f, false⟩ (tmpB ++ name) name b := by
  unfold FsS.save
  rw [pre_none ht]
  simp only
  rw [if_neg (by simp), create_go (right_tmp hl) ht hn]
  by_cases hf : f = 0
  · rw [if_pos hf, if_pos hf, if_pos (by simp)]
  · rw [if_neg hf, if_neg hf, if_neg (by simp)]
/-- Where it is there it is removed. -/
theorem save_pre_some {k : Nat} (ht : N.at (tmpB ++ name) = some k) :
    FsS.save ⟨N, sy, mv, fl, room, st, -1, false⟩ name b g = FsS.save ⟨N.del (tmpB ++ name), sy, mv ++ [N.del (tmpB ++ name)], fl, room, st + 1, -1, false⟩ name b g := by
  conv => lhs; unfold FsS.save
  conv => rhs; unfold FsS.save
  rw [pre_some ht, pre_none (Nm.at_del_same _ _)]
theorem save_way (hN : N.ok) (hr : rightN name = true) (hl : name.length ≤ 36) (ht : N.at (tmpB ++ name) = none) (hn : N.length < 64) (hg : fl g = Fl.new) (hroom : (sizeIn fl N : Int) + b.length ≤ room) :
    SaveWay N sy mv fl room st name b g (FsS.save ⟨N, sy, mv, fl, room, st, f, false⟩ name b g) := by
  rw [save_go ht hl hn]
  by_cases hf : f = 0
  · rw [if_pos hf]
    have := SaveWay.die (N := N) (sy := sy) (mv := mv) (fl := fl) (room := room) (st := st) (name := name) (b := b) (g := g) mv (fl g) N st f (.inl rfl) (.inl rfl)
    rwa [flSet_self] at this
  · rw [if_neg hf]
    exact saveEnd_way hN hr ht hg hroom
theorem size_tmp (hN : N.ok) (ht : N.at (tmpB ++ name) = none) (hg : fl g = Fl.new) : sizeIn fl (N.put (tmpB ++ name) g) = sizeIn fl N := by
  have := sizeIn_put fl (tmpB ++ name) g N hN.1
  unfold lenAt at this
  rw [ht, hg] at this
  simpa [Fl.new] using this
/-- Without a fuse it is done. -/
theorem save_done (hN : N.ok) (hr : rightN name = true) (hl : name.length ≤ 36) (ht : N.at (tmpB ++ name) = none) (hn : N.length < 64) (hg : fl g = Fl.new) (hroom : (sizeIn fl N : Int) + b.length ≤ room) :
    FsS.save ⟨N, sy, mv, fl, room, st, -1, false⟩ name b g = (⟨N.put name g, N.put name g, [], flSet fl g ⟨b, b, []⟩, room, st + 5, -1, false⟩, 0) := by
  have ha : (N.put (tmpB ++ name) g).at (tmpB ++ name) = some g := Nm.at_put_same _ _ _
  have hx1 : (fl g).do (.app b) = ⟨[], b, [.app b]⟩ := by rw [hg]; rfl
  have hx2 : (⟨[], b, [.app b]⟩ : Fl).sync = ⟨b, b, []⟩ := rfl
  have ht1 : tickN (-1) = -1 := rfl
  have hz : ¬ ((-1 : Int) = 0) := by decide
  rw [save_go ht hl hn, if_neg hz, ht1]
  unfold saveEnd
  simp only [stg]
  rw [append_go ha (by rw [size_tmp hN ht hg]; exact hroom), hx1, if_neg hz, ht1]
  simp only
  rw [if_neg (by simp), sync_go ha, if_neg hz, flSet_same, flSet_twice, hx2, ht1]
  simp only
  rw [if_neg (by simp), rename_go ha hr, if_neg hz, ht1]
  simp only
  rw [if_neg (by simp), syncDir_go, Nm.put_del ht, if_neg hz, ht1]
theorem save_done6 {k : Nat} (hN : N.ok) (hr : rightN name = true) (hl : name.length ≤ 36) (ht : N.at (tmpB ++ name) = some k) (hn : N.length < 64) (hg : fl g = Fl.new) (hroom : (sizeIn fl (N.del (tmpB ++ name)) : Int) + b.length ≤ room) :
    FsS.save ⟨N, sy, mv, fl, room, st, -1, false⟩ name b g = (⟨(N.del (tmpB ++ name)).put name g, (N.del (tmpB ++ name)).put name g, [], flSet fl g ⟨b, b, []⟩, room, st + 6, -1, false⟩, 0) := by
  rw [save_pre_some ht, save_done (hN.del _) hr hl (Nm.at_del_same _ _) (by have := Nm.length_del_le N (tmpB ++ name); omega) hg hroom]
/-- Without room it is as it was. -/
theorem save_full (hN : N.ok) (hl : name.length ≤ 36) (ht : N.at (tmpB ++ name) = none) (hn : N.length < 64) (hg : fl g = Fl.new) (hroom : room < (sizeIn fl N : Int) + b.length) :
    FsS.save ⟨N, sy, mv, fl, room, st, -1, false⟩ name b g = (⟨N, sy, mv ++ [N.put (tmpB ++ name) g] ++ [N], fl, room, st + 2, -1, false⟩, 8) := by
  have ha : (N.put (tmpB ++ name) g).at (tmpB ++ name) = some g := Nm.at_put_same _ _ _
  have ht1 : tickN (-1) = -1 := rfl
  have hz : ¬ ((-1 : Int) = 0) := by decide
  rw [save_go ht hl hn, if_neg hz, ht1]
  unfold saveEnd
  simp only [stg]
  rw [append_full ha (by rw [size_tmp hN ht hg]; exact hroom)]
  simp only
  rw [if_pos (by simp), remove_go ha, if_neg hz, Nm.put_del ht, ht1]
/-- To no name nothing is saved. -/
theorem save_noname (hN : N.ok) (hr : rightN name = false) (hl : name.length ≤ 36) (ht : N.at (tmpB ++ name) = none) (hn : N.length < 64) (hg : fl g = Fl.new) (hroom : (sizeIn fl N : Int) + b.length ≤ room) :
    (FsS.save ⟨N, sy, mv, fl, room, st, -1, false⟩ name b g).2 = 1 := by
  have ha : (N.put (tmpB ++ name) g).at (tmpB ++ name) = some g := Nm.at_put_same _ _ _
  have ht1 : tickN (-1) = -1 := rfl
  have hz : ¬ ((-1 : Int) = 0) := by decide
  rw [save_go ht hl hn, if_neg hz, ht1]
  unfold saveEnd
  simp only [stg]
  rw [append_go ha (by rw [size_tmp hN ht hg]; exact hroom), if_neg hz, ht1]
  simp only
  rw [if_neg (by simp), sync_go ha, if_neg hz, ht1]
  simp only
  rw [if_neg (by simp), rename_arg ha hr]
  simp only
  rw [if_pos (by simp)]

/-- A file that was synced is what it was behind a crash. -/
theorem crashFl_at (ks : List Int) {k : Nat} : ∀ (M : Nm) (i : Nat) (fl : Nat → Fl), (fl k).still → crashFl ks i M fl k = fl k
  | [], _, _, _ => rfl
  | p :: M, i, fl, h => by
    have hh : (if k = p.2 then (fl p.2).survive (keptN ks (1 + 2 * i)) (keptN ks (2 + 2 * i)) else fl k) = fl k := by
      split
      · rename_i e
        rw [e] at h ⊢
        exact Fl.survive_id h _ _
      · rfl
    unfold crashFl
    rw [crashFl_at ks M (i + 1) _ (by rw [hh]; exact h), hh]
theorem sizeIn_congr {fl fl' : Nat → Fl} : ∀ {M : Nm}, (∀ k ∈ M.ids, fl' k = fl k) → sizeIn fl' M = sizeIn fl M
  | [], _ => rfl
  | p :: M, h => by
    have h1 := sizeIn_congr (M := M) fun k hk => h k (List.mem_cons_of_mem _ hk)
    have h2 := h p.2 List.mem_cons_self
    unfold sizeIn at *
    simp only [List.map_cons, List.sum_cons]
    rw [h1, h2]

theorem crashDir_of (S : FsS) (ks : List Int) : S.crashDir ks = S.synced ∨ S.crashDir ks ∈ S.moves := by
  unfold FsS.crashDir
  have hlt : keptN ks 0 % (S.moves.length + 1) < S.moves.length + 1 := Nat.mod_lt _ (by omega)
  cases hm : keptN ks 0 % (S.moves.length + 1) with
  | zero => exact .inl rfl
  | succ n =>
    have : n < S.moves.length := by omega
    right
    simp only
    rw [List.getD_eq_getElem?_getD, List.getElem?_eq_getElem this]
    exact List.getElem_mem _
/-- Behind a save, and a crash: what is there. -/
structure SaveOld (N : Nm) (fl : Nat → Fl) (name b : List UInt8) (g : Nat) (dead : Bool) (M : Nm) (fl' : Nat → Fl) : Prop where
  way : (M = N ∧ dead = true) ∨ (M = N.put (tmpB ++ name) g ∧ dead = true) ∨ (M = N.put name g ∧ fl' g = ⟨b, b, []⟩)
  old : ∀ k ∈ N.ids, fl' k = fl k
theorem save_crash {P : FsS × Int} (hw : SaveWay N N [] fl room st name b g P) (hs : ∀ k ∈ N.ids, (fl k).still) (hg : g ∉ N.ids) (ks : List Int) :
    SaveOld N fl name b g P.1.dead (P.1.crash ks).names (P.1.crash ks).fl ∧ (P.2 = 13 ∧ P.1.dead = true ∨ P.2 = 0 ∧ P.1.dead = false) ∧ P.1.room = room := by
  have hne : ∀ k ∈ N.ids, k ≠ g := fun k hk e => hg (e ▸ hk)
  cases hw with
  | done f' =>
    refine ⟨⟨.inr (.inr ⟨?_, ?_⟩), ?_⟩, .inr ⟨rfl, rfl⟩, rfl⟩
    · show FsS.crashDir _ _ = _
      unfold FsS.crashDir
      simp only [List.length_nil, Nat.zero_add, Nat.mod_one]
    · show crashFl _ _ _ (flSet fl g _) g = _
      rw [crashFl_at _ _ _ _ (by rw [flSet_same]; exact ⟨rfl, rfl⟩), flSet_same]
    · intro k hk
      show crashFl _ _ _ (flSet fl g _) k = _
      rw [crashFl_at _ _ _ _ (by rw [flSet_other _ _ (hne k hk)]; exact hs k hk), flSet_other _ _ (hne k hk)]
  | die mv' x M st' f' hx hmv =>
    refine ⟨⟨?_, ?_⟩, .inl ⟨rfl, rfl⟩, rfl⟩
    · have hm := crashDir_of ⟨M, N, mv', flSet fl g x, room, st', f', true⟩ ks
      have hg' : x = ⟨b, b, []⟩ → crashFl ks 0 (FsS.crashDir ⟨M, N, mv', flSet fl g x, room, st', f', true⟩ ks) (flSet fl g x) g = ⟨b, b, []⟩ := fun e => by
        subst e
        rw [crashFl_at _ _ _ _ (by rw [flSet_same]; exact ⟨rfl, rfl⟩), flSet_same]
      show FsS.crashDir ⟨M, N, mv', flSet fl g x, room, st', f', true⟩ ks = _ ∧ _ ∨ FsS.crashDir ⟨M, N, mv', flSet fl g x, room, st', f', true⟩ ks = _ ∧ _ ∨ FsS.crashDir ⟨M, N, mv', flSet fl g x, room, st', f', true⟩ ks = _ ∧ crashFl ks 0 (FsS.crashDir ⟨M, N, mv', flSet fl g x, room, st', f', true⟩ ks) (flSet fl g x) g = _
      rcases hm with hm | hm
      · exact .inl ⟨hm, rfl⟩
      · rcases hmv with e | e | ⟨e, ex⟩
        · have : ∀ C ∈ mv', False := fun C hC => by
            rw [e] at hC
            simp at hC
          exact absurd hm (this _)
        · have : ∀ C ∈ mv', C = N.put (tmpB ++ name) g := fun C hC => by
            rw [e] at hC
            simpa using hC
          exact .inr (.inl ⟨this _ hm, rfl⟩)
        · have hm' : FsS.crashDir ⟨M, N, mv', flSet fl g x, room, st', f', true⟩ ks ∈ mv' := hm
          have e' : mv' = [N.put (tmpB ++ name) g, N.put name g] := by rw [e]; rfl
          have hor : FsS.crashDir ⟨M, N, mv', flSet fl g x, room, st', f', true⟩ ks = N.put (tmpB ++ name) g ∨ FsS.crashDir ⟨M, N, mv', flSet fl g x, room, st', f', true⟩ ks = N.put name g := by
            have : ∀ C ∈ mv', C = N.put (tmpB ++ name) g ∨ C = N.put name g := fun C hC => by
              rw [e'] at hC
              simpa using hC
            exact this _ hm'
          rcases hor with h | h
          · exact .inr (.inl ⟨h, rfl⟩)
          · exact .inr (.inr ⟨h, hg' ex⟩)
    · intro k hk
      show crashFl _ _ _ (flSet fl g _) k = _
      rw [crashFl_at _ _ _ _ (by rw [flSet_other _ _ (hne k hk)]; exact hs k hk), flSet_other _ _ (hne k hk)]
end
end Go.Proofs.YtgagcncmlonciaaGreatDoor
namespace Go.Proofs.YtgagcncmlonciaaGreatDoor
open Go.RowKit Go.Maps Go.WideMaps

theorem preSave_ok {S : FsS} (h : S.ok) (tmp : List UInt8) : (preSave S tmp).1.ok := by
  unfold preSave
  split
  · exact h.remove _
  · exact h
theorem saveEnd_ok' {S : FsS} (h : S.ok) (tmp name b : List UInt8) (hb : b.length ≤ 1048576) : (saveEnd S tmp name b).1.ok := by
  unfold saveEnd
  split
  · exact (stg_ok h tmp name b hb 1).remove _
  split
  · exact (stg_ok h tmp name b hb 2).remove _
  split
  · exact (stg_ok h tmp name b hb 3).remove _
  · exact (stg_ok h tmp name b hb 3).syncDir
theorem save_ok {S : FsS} (h : S.ok) {name b : List UInt8} {g : Nat} (hg : (preSave S (tmpB ++ name)).1.fresh g) (hb : b.length ≤ 1048576) : (S.save name b g).1.ok := by
  unfold FsS.save
  split
  · exact preSave_ok h _
  split
  · exact (preSave_ok h _).create _ hg
  · exact saveEnd_ok' ((preSave_ok h _).create _ hg) _ _ _ hb
theorem sweepLoop_ok (keep : List (List UInt8)) : ∀ (l : List (List UInt8)) {S : FsS} (n : Nat), S.ok → (sweepLoop keep l S n).1.ok
  | [], _, _, h => h
  | x :: r, S, n, h => by
    rw [sweepLoop_cons]
    split
    · exact sweepLoop_ok keep r n h
    split
    · exact h.remove _
    · exact sweepLoop_ok keep r _ (h.remove _)
theorem sweep_ok {S : FsS} (h : S.ok) (keep : List (List UInt8)) : (S.sweep keep).1.ok := by
  rw [sweep_eq]
  have := sweepLoop_ok keep S.names.keys 0 h
  split
  · exact this
  split
  · exact this
  · exact this.syncDir
theorem repair_ok {S : FsS} (h : S.ok) (name : List UInt8) (n : Int) : (S.repair name n).1.ok := by
  unfold FsS.repair
  split
  · exact h
  split
  · exact h
  split
  · exact h.cut _ _
  · exact (h.cut _ _).sync _

section
variable {W w : World} {G : Nat} {S : FsS} {F : Nat → Prop} {N sy : Nm} {mv : List Nm} {fl : Nat → Fl} {room : Int} {st : Nat} {f : Int}

theorem Mach.reach {w' : World} {F' : Nat → Prop} (m : Mach W w G S F) (ht : Turn w w' F F') : Below W.heap.size W w' := m.bel.trans (ht.kept.below m.bel.size m.base)
theorem Mach.save (m : Mach W w G S F) (name b : List UInt8) (hs : S.steps + 20 ≤ 500000) (hn : name.length ≤ 1000000) (hb : b.length ≤ 1048576) :
    Calls Tryz.prog 44 #[.pointer (some ⟨G, 0, none⟩), .string (bs name), .string (bs b)] w fun e w' =>
      ∃ g F', (preSave S (tmpB ++ name)).1.fresh g ∧ e = .returned (.int .i64 (S.save name b g).2) ∧ Mach W w' G (S.save name b g).1 F' ∧ Turn w w' F F' := by
  refine (Save_any name b m.mem m.ok hs hn hb).mono ?_
  rintro e w' ⟨g, hg, F', h1, h2, h3⟩
  exact ⟨g, F', hg, h2, m.turn h3 h1 (save_ok m.ok hg hb), h1⟩
theorem fresh_ids {g : Nat} (h : FsS.fresh ⟨N, sy, mv, fl, room, st, f, false⟩ g) : g ∉ N.ids := fun e => h.1 ⟨N, List.mem_cons_self, e⟩
/-- Saved without a fuse. -/
theorem Mach.saved (m : Mach W w G ⟨N, sy, mv, fl, room, st, -1, false⟩ F) (name b : List UInt8) (hs : st + 20 ≤ 500000) (hb : b.length ≤ 1048576) (hr : rightN name = true) (hl : name.length ≤ 36) (ht : N.at (tmpB ++ name) = none) (hn : N.length < 64) (hroom : (sizeIn fl N : Int) + b.length ≤ room) :
    Calls Tryz.prog 44 #[.pointer (some ⟨G, 0, none⟩), .string (bs name), .string (bs b)] w fun e w' =>
      ∃ g F', fl g = Fl.new ∧ g ∉ N.ids ∧ e = .returned (.int .i64 0) ∧ Mach W w' G ⟨N.put name g, N.put name g, [], flSet fl g ⟨b, b, []⟩, room, st + 5, -1, false⟩ F' ∧ Turn w w' F F' := by
  refine (m.save name b hs (by omega) hb).mono ?_
  rintro e w' ⟨g, F', hg, rfl, m', hT⟩
  rw [pre_none ht] at hg
  have hN : N.ok := m.ok.names
  have h := save_done (sy := sy) (mv := mv) (st := st) hN hr hl ht hn hg.2 hroom
  rw [h] at m' ⊢
  exact ⟨g, F', hg.2, fresh_ids hg, rfl, m', hT⟩
theorem Mach.sweep {kv : Value} {keep : List (List UInt8)} (m : Mach W w G S F) (hs : S.steps + 100 ≤ 500000) (hk : ∀ w' F', Turn w w' F F' → StrsAt w' kv keep) :
    Calls Tryz.prog 51 #[.pointer (some ⟨G, 0, none⟩), kv] w fun e w' =>
      ∃ F', e = .returned (.tuple #[.int .i64 ((S.sweep keep).2.1 : Nat), .int .i64 (S.sweep keep).2.2]) ∧ Mach W w' G (S.sweep keep).1 F' ∧ Turn w w' F F' := by
  refine (Sweep_any m.mem m.ok hs hk).mono ?_
  rintro e w' ⟨F', rfl, h1, h2⟩
  exact ⟨F', rfl, m.turn h1 h2 (sweep_ok m.ok _), h2⟩
theorem Mach.repair (m : Mach W w G S F) (name : List UInt8) (n : Int) (hs : S.steps + 20 ≤ 500000) (hn : name.length ≤ 1000000) :
    Calls Tryz.prog 16 #[.pointer (some ⟨G, 0, none⟩), .string (bs name), .int .i64 n] w fun e w' =>
      ∃ F', e = .returned (.int .i64 (S.repair name n).2) ∧ Mach W w' G (S.repair name n).1 F' ∧ Turn w w' F F' := by
  refine (Repair_any name n m.mem m.ok hs hn).mono ?_
  rintro e w' ⟨F', h1, h2, h3⟩
  exact ⟨F', h2, m.turn h3 h1 (repair_ok m.ok _ _), h1⟩
end
end Go.Proofs.YtgagcncmlonciaaGreatDoor
