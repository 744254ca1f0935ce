/- The law SimfsRenames. -/
import Derived.Test.YtphkmhajjnnbaaaLawR
namespace Go.Proofs.Ytphkmhajjnnbaaa
open Go.RowKit Go.Maps Go.WideMaps Go.ChangeShapes Go.WideShapes
attribute [local go_sem] bs_toList bs_size

def lenAt (fl : Nat → Fl) (N : Nm) (l : List UInt8) : Nat := match N.at l with | some g => (fl g).nw.length | none => 0
theorem sizeIn_ins (fl : Nat → Fl) (x : List UInt8 × Nat) : ∀ N : Nm, sizeIn fl (Nm.ins x N) = (fl x.2).nw.length + sizeIn fl N
  | [] => rfl
  | y :: r => by
    unfold Nm.ins
    split
    · rfl
    · have := sizeIn_ins fl x r
      unfold sizeIn at *
      simp only [List.map_cons, List.sum_cons, this]
      omega
theorem sizeIn_del (fl : Nat → Fl) (l : List UInt8) : ∀ N : Nm, (N.Pairwise fun p q => bytesBefore p.1 q.1 = true) → sizeIn fl (N.del l) + lenAt fl N l = sizeIn fl N
  | [], _ => rfl
  | p :: r, h => by
    obtain ⟨h1, h2⟩ := List.pairwise_cons.1 h
    have ih := sizeIn_del fl l r h2
    unfold Nm.del sizeIn lenAt Nm.at at *
    rw [List.filter_cons, List.find?_cons]
    by_cases e : p.1 = l
    · have hn : r.find? (fun q => q.1 == l) = none := by
        rw [List.find?_eq_none]
        intro q hq e2
        have e3 : q.1 = l := by simpa using e2
        have := h1 q hq
        rw [e, e3] at this
        exact before_irrefl _ this
      rw [hn] at ih
      simp only [e, beq_self_eq_true, Bool.not_true, Option.map_none] at ih ⊢
      simp only [List.map_cons, List.sum_cons, Option.map_some, Bool.false_eq_true, if_false]
      omega
    · have hb : (p.1 == l) = false := by simpa using e
      simp only [hb, Bool.not_false, if_true, List.map_cons, List.sum_cons]
      omega
theorem sizeIn_put (fl : Nat → Fl) (l : List UInt8) (g : Nat) (N : Nm) (h : N.Pairwise fun p q => bytesBefore p.1 q.1 = true) : sizeIn fl (N.put l g) + lenAt fl N l = sizeIn fl N + (fl g).nw.length := by
  have := sizeIn_del fl l N h
  unfold Nm.put
  rw [sizeIn_ins]
  show (fl g).nw.length + _ + _ = _
  omega

/-- A rename that is done. -/
theorem rename_done {S : FsS} (hok : S.ok) {a b : List UInt8} (hr : (S.rename a b).2 = 0) :
    ((S.rename a b).1.read b = ((S.read a).1, 0)) ∧ (a ≠ b → (S.rename a b).1.read a = ([], 11)) ∧ (a = b → (S.rename a b).1.size = S.size) ∧ (a ≠ b → (S.rename a b).1.size + (S.read b).1.length = S.size) := by
  unfold FsS.rename at *
  rcases S.of_cases a with ⟨h1, _⟩ | ⟨h1, _⟩ | ⟨g, h1, h2, h3⟩
  · rw [h1] at hr; simp at hr
  · rw [h1] at hr; simp at hr
  · rw [h1] at hr ⊢
    simp only at hr ⊢
    by_cases hc : rightN b = false
    · rw [if_pos hc] at hr; simp at hr
    rw [if_neg hc] at hr ⊢
    unfold FsS.step at hr ⊢
    by_cases hf : S.fuse = 0
    · rw [if_pos hf] at hr; simp at hr
    rw [if_neg hf]
    simp only
    have hdead : (S.tick.moved ((S.tick.names.del a).put b g)).dead = false := h2
    have hof : ∀ l, (S.tick.moved ((S.tick.names.del a).put b g)).of l = match ((S.names.del a).put b g).at l with | none => .inr 11 | some g => .inl g := fun l => by
      unfold FsS.of
      rw [hdead]
      rfl
    have hs := hok.names.1
    have hsd : (S.names.del a).Pairwise fun p q => bytesBefore p.1 q.1 = true := (hok.names.del a).1
    have z1 := sizeIn_del S.fl a S.names hs
    have z2 := sizeIn_put S.fl b g (S.names.del a) hsd
    have zz : (S.tick.moved ((S.tick.names.del a).put b g)).size = sizeIn S.fl ((S.names.del a).put b g) := rfl
    have z0 : S.size = sizeIn S.fl S.names := rfl
    have la : lenAt S.fl S.names a = (S.fl g).nw.length := by unfold lenAt; rw [h3]
    refine ⟨?_, fun hne => ?_, fun he => ?_, fun hne => ?_⟩
    · unfold FsS.read
      rw [hof, Nm.at_put_same, h1]
      rfl
    · unfold FsS.read
      rw [hof, Nm.at_put_other _ _ hne, Nm.at_del_same]
    · have : lenAt S.fl (S.names.del a) b = 0 := by unfold lenAt; rw [← he, Nm.at_del_same]
      omega
    · have : lenAt S.fl (S.names.del a) b = (S.read b).1.length := by
        unfold lenAt FsS.read FsS.of
        rw [Nm.at_del_other _ (fun e => hne e.symm), h2]
        cases S.names.at b <;> rfl
      omega
theorem rename_err {S : FsS} {a b : List UInt8} (hr : (S.rename a b).2 ≠ 0) : (S.rename a b).1.size = S.size := by
  rcases ActStep.err (S := S) (a := ⟨5, a, b, 0, []⟩) (.inr (.inr (.inr (.inr (.inr (.inl ⟨rfl, rfl⟩)))))) hr with h | h <;> rw [h] <;> rfl

theorem Mach.read {W w : World} {G : Nat} {S : FsS} {F : Nat → Prop} (m : Mach W w G S F) (l : List UInt8) (hl : l.length ≤ 1048576) :
    Calls Try.prog 14 #[.pointer (some ⟨G, 0, none⟩), .string (bs l)] w fun e w' => e = .returned (.tuple #[.string (bs (S.read l).1), .int .i64 (S.read l).2]) ∧ w = w' := Fs_Read_mem m.mem l hl
end Go.Proofs.Ytphkmhajjnnbaaa
