/- The law DiskWhole: the plain part. -/
import Derived.Test.YtocfaffiifhggaaDskW
namespace Go.Proofs.Ytocfaffiifhggaa
open Go.RowKit Go.Maps Go.WideMaps Go.WideShapes Go.Deep

theorem save_steps {S : FsS} {name b : List UInt8} {g : Nat} (hg : (preSave S (tmpB ++ name)).1.fresh g) : (S.save name b g).1.steps ≤ S.steps + 10 := by
  have h1 : (preSave S (tmpB ++ name)).1.steps ≤ S.steps + 1 := by
    unfold preSave
    split
    · exact remove_steps _
    · exact Nat.le_succ _
  have h2 := create_steps (tmpB ++ name) hg
  have hst := stg_steps (S := ((preSave S (tmpB ++ name)).1.create (tmpB ++ name) g).1) (tmpB ++ name) name b
  have a1 := hst 1
  have a2 := hst 2
  have a3 := hst 3
  have r1 := remove_steps (S := (stg ((preSave S (tmpB ++ name)).1.create (tmpB ++ name) g).1 (tmpB ++ name) name b 1).1) (tmpB ++ name)
  have r2 := remove_steps (S := (stg ((preSave S (tmpB ++ name)).1.create (tmpB ++ name) g).1 (tmpB ++ name) name b 2).1) (tmpB ++ name)
  have r3 := remove_steps (S := (stg ((preSave S (tmpB ++ name)).1.create (tmpB ++ name) g).1 (tmpB ++ name) name b 3).1) (tmpB ++ name)
  have r4 := syncDir_steps (S := (stg ((preSave S (tmpB ++ name)).1.create (tmpB ++ name) g).1 (tmpB ++ name) name b 3).1)
  unfold FsS.save
  split
  · omega
  split
  · omega
  unfold saveEnd
  split
  · simp only
    omega
  split
  · simp only
    omega
  split
  · simp only
    omega
  · omega

section
variable {N : Nm} {fl : Nat → Fl} {b : List UInt8} {g : Nat} {f room : Int} {st : Nat} {x : List UInt8}

/-- Saved again behind a crash: it has that. -/
theorem again_plain {T : FsS} (hT : T = ⟨N, N, [], fl, room, st, -1, false⟩) (hN : N.ok) (hr : rightN x = true) (hl : x.length ≤ 36) (ht : N.at (tmpB ++ x) = none) (hn : N.length < 64) (hroom : (sizeIn fl N : Int) + b.length ≤ room) {g2 : Nat} (hg : (preSave T (tmpB ++ x)).1.fresh g2) :
    (T.save x b g2).2 = 0 ∧ (T.save x b g2).1.read x = (b, 0) := by
  subst hT
  rw [pre_none ht] at hg
  rw [save_done hN hr hl ht hn hg.2 hroom]
  exact ⟨rfl, ew_read (Nm.at_put_same _ _ _) (flSet_same _ _ _)⟩
theorem again_tmp {T : FsS} {k : Nat} (hT : T = ⟨N, N, [], fl, room, st, -1, false⟩) (hN : N.ok) (hr : rightN x = true) (hl : x.length ≤ 36) (ht : N.at (tmpB ++ x) = some k) (hn : N.length < 64) (hroom : (sizeIn fl (N.del (tmpB ++ x)) : Int) + b.length ≤ room) {g2 : Nat} (hg : (preSave T (tmpB ++ x)).1.fresh g2) :
    (T.save x b g2).2 = 0 ∧ (T.save x b g2).1.read x = (b, 0) := by
  subst hT
  rw [pre_some ht] at hg
  rw [save_done6 hN hr hl ht hn hg.2 hroom]
  exact ⟨rfl, ew_read (Nm.at_put_same _ _ _) (flSet_same _ _ _)⟩

/-- Wherever a save dies, whatever survives. -/
theorem whole_crash {ks : List Int} {P : FsS × Int} {g0 : Nat} (hP : P = FsS.save ⟨N, N, [], fl, room, st, f, false⟩ x b g) (hN : N.ok) (hM : (P.1.crash ks).names.ok) (hr : rightN x = true) (hl : x.length ≤ 36) (ht : N.at (tmpB ++ x) = none) (hn : N.length < 60) (hs : ∀ k ∈ N.ids, (fl k).still) (hg : fl g = Fl.new) (hgi : g ∉ N.ids)
    (hroom : (sizeIn fl N : Int) + b.length + b.length ≤ room) (h0 : N.at x = some g0) :
    (P.2 = 13 ∧ P.1.dead = true ∨ P.2 = 0 ∧ P.1.dead = false) ∧ (∃ s, (P.1.crash ks).read x = (s, 0) ∧ (s = b ∨ s = (fl g0).nw ∧ P.1.dead = true)) ∧
    (∀ y k, y ≠ x → y ≠ tmpB ++ x → N.at y = some k → (P.1.crash ks).read y = ((fl k).nw, 0)) ∧
    ∀ g2, (preSave (P.1.crash ks) (tmpB ++ x)).1.fresh g2 → ((P.1.crash ks).save x b g2).2 = 0 ∧ ((P.1.crash ks).save x b g2).1.read x = (b, 0) := by
  have hw := save_way (sy := N) (mv := []) (st := st) (f := f) hN hr hl ht (by omega) hg (show (sizeIn fl N : Int) + b.length ≤ room by omega)
  rw [← hP] at hw
  obtain ⟨⟨hway, hold⟩, hd, hrm⟩ := save_crash hw hs hgi ks
  clear hw hP
  have hT : P.1.crash ks = ⟨(P.1.crash ks).names, (P.1.crash ks).names, [], (P.1.crash ks).fl, room, (P.1.crash ks).steps, -1, false⟩ := by
    rw [← hrm]
    rfl
  generalize (P.1.crash ks).names = M at *
  generalize (P.1.crash ks).fl = fl2 at *
  generalize (P.1.crash ks).steps = st2 at *
  generalize P.1.crash ks = T at *
  have hsz : sizeIn fl2 N = sizeIn fl N := sizeIn_congr hold
  have hg0 : fl2 g0 = fl g0 := hold g0 (Nm.at_ids h0)
  refine ⟨hd, ?_⟩
  rcases hway with ⟨rfl, hdd⟩ | ⟨rfl, hdd⟩ | ⟨rfl, hgb⟩
  · refine ⟨⟨_, by rw [hT]; exact ew_read h0 hg0, .inr ⟨rfl, hdd⟩⟩, fun y k h1 h2 h3 => by rw [hT]; exact ew_read h3 (hold k (Nm.at_ids h3)), fun g2 h => ?_⟩
    exact again_plain hT hN hr hl ht (by omega) (by omega) h
  · have hx : x ≠ tmpB ++ x := fun e => tmp_ne x e.symm
    refine ⟨⟨_, by rw [hT]; exact ew_read (by rw [Nm.at_put_other _ _ hx]; exact h0) hg0, .inr ⟨rfl, hdd⟩⟩, fun y k h1 h2 h3 => by rw [hT]; exact ew_read (by rw [Nm.at_put_other _ _ h2]; exact h3) (hold k (Nm.at_ids h3)), fun g2 h => ?_⟩
    have hlen := Nm.length_put_le N (tmpB ++ x) g
    exact again_tmp hT hM hr hl (Nm.at_put_same _ _ _) (by omega) (by rw [Nm.put_del ht]; omega) h
  · refine ⟨⟨_, by rw [hT]; exact ew_read (Nm.at_put_same _ _ _) hgb, .inl rfl⟩, fun y k h1 h2 h3 => by rw [hT]; exact ew_read (by rw [Nm.at_put_other _ _ h1]; exact h3) (hold k (Nm.at_ids h3)), fun g2 h => ?_⟩
    have hlen := Nm.length_put_le N x g
    have hput := sizeIn_put fl2 x g N hN.1
    rw [hgb] at hput
    simp only at hput
    exact again_plain hT hM hr hl (by rw [Nm.at_put_other _ _ (tmp_ne x)]; exact ht) (by omega) (by omega) h
end

/-- So many files were saved, each with another name, and none with that of another's file that is not done. -/
structure WholeI (l o : List (List UInt8)) (j : Nat) (N : Nm) (fl : Nat → Fl) : Prop where
  len : N.length ≤ j
  has : ∀ i, i < j → ∃ g, N.at (l.getD i []) = some g ∧ fl g = ⟨o.getD i [], o.getD i [], []⟩
  only : ∀ p ∈ N, ∃ i, i < j ∧ p.1 = l.getD i []
  still : ∀ k ∈ N.ids, (fl k).still
  size : sizeIn fl N ≤ 300 * j
  right : ∀ i, i < j → rightN (l.getD i []) = true ∧ (l.getD i []).length ≤ 36
  apart : ∀ i k, k < i → i < j → l.getD k [] ≠ l.getD i [] ∧ l.getD k [] ≠ tmpB ++ l.getD i [] ∧ tmpB ++ l.getD k [] ≠ l.getD i []
section
variable {l o : List (List UInt8)} {j : Nat} {N : Nm} {fl : Nat → Fl} {x y : List UInt8}
theorem WholeI.start : WholeI l o 0 [] fl := ⟨by simp, fun i h => by omega, by simp, by simp [Nm.ids], by simp [sizeIn], fun i h => by omega, fun i k _ h => by omega⟩
theorem WholeI.tmp (h : WholeI l o j N fl) (ha : ∀ c, c < j → l.getD c [] ≠ x ∧ l.getD c [] ≠ tmpB ++ x ∧ tmpB ++ l.getD c [] ≠ x) : N.at (tmpB ++ x) = none := by
  cases hc : N.at (tmpB ++ x) with
  | none => rfl
  | some g =>
    obtain ⟨i, hi, e⟩ := h.only _ (Nm.mem_at hc)
    exact absurd e.symm (ha i hi).2.1
theorem WholeI.tmp0 (h : WholeI l o j N fl) : N.at (tmpB ++ l.getD 0 []) = none := by
  cases hc : N.at (tmpB ++ l.getD 0 []) with
  | none => rfl
  | some g =>
    obtain ⟨i, hi, e⟩ := h.only _ (Nm.mem_at hc)
    rcases Nat.eq_zero_or_pos i with rfl | hp
    · exact absurd e (tmp_ne _)
    · exact absurd e (h.apart i 0 hp hi).2.2
theorem WholeI.next (hx : l.getD j [] = x) (hy : o.getD j [] = y) (h : WholeI l o j N fl) (hN : N.ok) (ha : ∀ c, c < j → l.getD c [] ≠ x ∧ l.getD c [] ≠ tmpB ++ x ∧ tmpB ++ l.getD c [] ≠ x) {g : Nat} (hg : g ∉ N.ids) (hb : y.length ≤ 300) (hr : rightN x = true) (hl : x.length ≤ 36) :
    WholeI l o (j + 1) (N.put x g) (flSet fl g ⟨y, y, []⟩) where
  len := by have := Nm.length_put_le N x g; have := h.len; omega
  has := fun i hi => by
    by_cases e : i = j
    · subst e
      exact ⟨g, by rw [hx]; exact Nm.at_put_same _ _ _, by rw [flSet_same, hy]⟩
    · have hij : i < j := by omega
      obtain ⟨k, h1, h2⟩ := h.has i hij
      have hne : k ≠ g := fun e => hg (e ▸ Nm.at_ids h1)
      exact ⟨k, by rw [Nm.at_put_other _ _ (ha i hij).1]; exact h1, by rw [flSet_other _ _ hne]; exact h2⟩
  only := fun p hp => by
    rcases Nm.mem_put.1 hp with rfl | ⟨hm, _⟩
    · exact ⟨j, by omega, hx.symm⟩
    · obtain ⟨i, hi, e⟩ := h.only p hm
      exact ⟨i, by omega, e⟩
  still := fun k hk => by
    by_cases e : k = g
    · rw [e, flSet_same]
      exact ⟨rfl, rfl⟩
    · rw [flSet_other _ _ e]
      obtain ⟨p, hp, rfl⟩ := List.mem_map.1 hk
      rcases Nm.mem_put.1 hp with rfl | ⟨hm, _⟩
      · exact absurd rfl e
      · exact h.still _ (List.mem_map.2 ⟨p, hm, rfl⟩)
  size := by
    have h1 := sizeIn_put (flSet fl g ⟨y, y, []⟩) x g N hN.1
    have h2 : sizeIn (flSet fl g ⟨y, y, []⟩) N = sizeIn fl N := sizeIn_congr fun k hk => flSet_other _ _ fun e => hg (e ▸ hk)
    have h3 := h.size
    rw [flSet_same, h2] at h1
    simp only at h1
    omega
  right := fun i hi => by
    by_cases e : i = j
    · subst e
      rw [hx]
      exact ⟨hr, hl⟩
    · exact h.right i (by omega)
  apart := fun i k hk hi => by
    by_cases e : i = j
    · subst e
      rw [hx]
      exact ha k hk
    · exact h.apart i k hk (by omega)
theorem WholeI.rest (h : WholeI l o j N fl) : ∀ i, 0 < i → i < j → l.getD i [] ≠ l.getD 0 [] ∧ l.getD i [] ≠ tmpB ++ l.getD 0 [] ∧ (l.getD i []).length ≤ 36 ∧ ∃ k, N.at (l.getD i []) = some k ∧ (fl k).nw = o.getD i [] := fun i h0 hi => by
  obtain ⟨a1, a2, a3⟩ := h.apart i 0 h0 hi
  obtain ⟨k, h1, h2⟩ := h.has i hi
  exact ⟨fun e => a1 e.symm, fun e => a3 e.symm, (h.right i hi).2, k, h1, by rw [h2]⟩
end
end Go.Proofs.Ytocfaffiifhggaa
