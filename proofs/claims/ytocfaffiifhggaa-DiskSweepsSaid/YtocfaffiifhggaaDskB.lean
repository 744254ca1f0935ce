/- A file is saved as a whole: in plain words; the closures of Save. -/
import Derived.Test.YtocfaffiifhggaaDskA
import Derived.Defers
namespace Go.Proofs.Ytocfaffiifhggaa
open Go.RowKit Go.Maps Go.WideMaps Go.ChangeShapes Go.WideShapes
attribute [local go_sem] bs_toList bs_size

/-- The three steps between Create and SyncDir. -/
def stg (S : FsS) (tmp name b : List UInt8) : Nat → FsS × Int
  | 0 => (S, 0)
  | 1 => S.append tmp b
  | 2 => (S.append tmp b).1.sync tmp
  | _ => ((S.append tmp b).1.sync tmp).1.rename tmp name
def preSave (S : FsS) (tmp : List UInt8) : FsS × Int := if (S.names.at tmp).isSome then S.remove tmp else (S, 0)
/-- Behind the file's creation. -/
def saveEnd (S : FsS) (tmp name b : List UInt8) : FsS × Int :=
  if (stg S tmp name b 1).2 ≠ 0 then (((stg S tmp name b 1).1.remove tmp).1, (stg S tmp name b 1).2)
  else if (stg S tmp name b 2).2 ≠ 0 then (((stg S tmp name b 2).1.remove tmp).1, (stg S tmp name b 2).2)
  else if (stg S tmp name b 3).2 ≠ 0 then (((stg S tmp name b 3).1.remove tmp).1, (stg S tmp name b 3).2)
  else (stg S tmp name b 3).1.syncDir
def FsS.save (S : FsS) (name b : List UInt8) (g : Nat) : FsS × Int :=
  if (preSave S (tmpB ++ name)).2 ≠ 0 then preSave S (tmpB ++ name)
  else if ((preSave S (tmpB ++ name)).1.create (tmpB ++ name) g).2 ≠ 0 then (preSave S (tmpB ++ name)).1.create (tmpB ++ name) g
  else saveEnd ((preSave S (tmpB ++ name)).1.create (tmpB ++ name) g).1 (tmpB ++ name) name b

theorem stg_ok {S : FsS} (h : S.ok) (tmp name b : List UInt8) (hb : b.length ≤ 1048576) : ∀ j, (stg S tmp name b j).1.ok
  | 0 => h
  | 1 => h.append _ _ hb
  | 2 => (h.append _ _ hb).sync _
  | _ + 3 => ((h.append _ _ hb).sync _).rename _ _
theorem append_steps {S : FsS} (l b : List UInt8) : (S.append l b).1.steps ≤ S.steps + 1 := ActStep.steps (S := S) (a := ⟨1, l, b, 0, []⟩) (.inr (.inl ⟨rfl, rfl⟩))
theorem sync_steps {S : FsS} (l : List UInt8) : (S.sync l).1.steps ≤ S.steps + 1 := ActStep.steps (S := S) (a := ⟨3, l, [], 0, []⟩) (.inr (.inr (.inr (.inl ⟨rfl, rfl⟩))))
theorem rename_steps {S : FsS} (l k : List UInt8) : (S.rename l k).1.steps ≤ S.steps + 1 := ActStep.steps (S := S) (a := ⟨5, l, k, 0, []⟩) (.inr (.inr (.inr (.inr (.inr (.inl ⟨rfl, rfl⟩))))))
theorem remove_steps {S : FsS} (l : List UInt8) : (S.remove l).1.steps ≤ S.steps + 1 := ActStep.steps (S := S) (a := ⟨6, l, [], 0, []⟩) (.inr (.inr (.inr (.inr (.inr (.inr (.inl ⟨rfl, rfl⟩)))))))
theorem syncDir_steps {S : FsS} : S.syncDir.1.steps ≤ S.steps + 1 := ActStep.steps (S := S) (a := ⟨4, [], [], 0, []⟩) (.inr (.inr (.inr (.inr (.inl ⟨rfl, rfl⟩)))))
theorem create_steps {S : FsS} (l : List UInt8) {g : Nat} (hg : S.fresh g) : (S.create l g).1.steps ≤ S.steps + 1 := ActStep.steps (S := S) (a := ⟨0, l, [], 0, []⟩) (.inl ⟨rfl, g, hg, rfl⟩)
theorem cut_steps {S : FsS} (l : List UInt8) (n : Int) : (S.cut l n).1.steps ≤ S.steps + 1 := ActStep.steps (S := S) (a := ⟨2, l, [], n, []⟩) (.inr (.inr (.inl ⟨rfl, rfl⟩)))
theorem stg_steps {S : FsS} (tmp name b : List UInt8) : ∀ j, (stg S tmp name b j).1.steps ≤ S.steps + 3
  | 0 => by show S.steps ≤ _; omega
  | 1 => by have := append_steps (S := S) tmp b; show (S.append tmp b).1.steps ≤ _; omega
  | 2 => by have := append_steps (S := S) tmp b; have := sync_steps (S := (S.append tmp b).1) tmp; show ((S.append tmp b).1.sync tmp).1.steps ≤ _; omega
  | _ + 3 => by
    have := append_steps (S := S) tmp b
    have := sync_steps (S := (S.append tmp b).1) tmp
    have := rename_steps (S := ((S.append tmp b).1.sync tmp).1) tmp name
    show (((S.append tmp b).1.sync tmp).1.rename tmp name).1.steps ≤ _
    omega

section
variable {w : World} {G : Nat} {S : FsS} {F : Nat → Prop}

set_option maxRecDepth 100000 in
theorem Save2_any {p0 p1 p2 : Nat} (tmp b : List UInt8) (h : FsMem w G S F) (hok : S.ok) (hs : S.steps ≤ 500000) (ht : tmp.length ≤ 1048576) (hb : b.length ≤ 1048576) (c0 : w.cell? ⟨p0, 0, none⟩ = some (.pointer (some ⟨G, 0, none⟩)))
    (c1 : w.cell? ⟨p1, 0, none⟩ = some (.string (bs tmp))) (c2 : w.cell? ⟨p2, 0, none⟩ = some (.string (bs b))) :
    Calls Try.prog 40 #[.pointer (some ⟨p0, 0, none⟩), .pointer (some ⟨p1, 0, none⟩), .pointer (some ⟨p2, 0, none⟩)] w fun e w' => Did w w' G F e (S.append tmp b) := by
  have q := Lib.hid (Fs_Append_mem h hok hs tmp b ht hb)
  go_enter Try.func40, Try.ntmps40
  go_wp2_with fail
  refine q.out.mono ?_
  intro e w' hd
  have hR := Lib.hid hd
  obtain rfl := hd.form
  clear hd
  go_wp2
  go_ret
  exact hR.out
set_option maxRecDepth 100000 in
theorem Save3_any {p0 p1 : Nat} (tmp : List UInt8) (h : FsMem w G S F) (hok : S.ok) (hs : S.steps ≤ 500000) (ht : tmp.length ≤ 1048576) (c0 : w.cell? ⟨p0, 0, none⟩ = some (.pointer (some ⟨G, 0, none⟩)))
    (c1 : w.cell? ⟨p1, 0, none⟩ = some (.string (bs tmp))) :
    Calls Try.prog 41 #[.pointer (some ⟨p0, 0, none⟩), .pointer (some ⟨p1, 0, none⟩)] w fun e w' => Did w w' G F e (S.sync tmp) := by
  have q := Lib.hid (Fs_Sync_mem h hok hs tmp ht)
  go_enter Try.func41, Try.ntmps41
  go_wp2_with fail
  refine q.out.mono ?_
  intro e w' hd
  have hR := Lib.hid hd
  obtain rfl := hd.form
  clear hd
  go_wp2
  go_ret
  exact hR.out
set_option maxRecDepth 100000 in
theorem Save4_any {p0 p1 p2 : Nat} (tmp name : List UInt8) (h : FsMem w G S F) (hok : S.ok) (hs : S.steps ≤ 500000) (ht : tmp.length ≤ 1048576) (hb : name.length ≤ 1048576) (c0 : w.cell? ⟨p0, 0, none⟩ = some (.pointer (some ⟨G, 0, none⟩)))
    (c1 : w.cell? ⟨p1, 0, none⟩ = some (.string (bs tmp))) (c2 : w.cell? ⟨p2, 0, none⟩ = some (.string (bs name))) :
    Calls Try.prog 43 #[.pointer (some ⟨p0, 0, none⟩), .pointer (some ⟨p1, 0, none⟩), .pointer (some ⟨p2, 0, none⟩)] w fun e w' => Did w w' G F e (S.rename tmp name) := by
  have q := Lib.hid (Fs_Rename_mem h hok hs tmp name ht hb)
  go_enter Try.func43, Try.ntmps43
  go_wp2_with fail
  refine q.out.mono ?_
  intro e w' hd
  have hR := Lib.hid hd
  obtain rfl := hd.form
  clear hd
  go_wp2
  go_ret
  exact hR.out

/-- How far the three steps have come, from a world on. -/
def SaveI (W0 : World) (F0 : Nat → Prop) (G : Nat) (S : FsS) (tmp name b : List UInt8) (j : Nat) (w : World) : Prop := (∀ i, i ≤ j → (stg S tmp name b i).2 = 0) ∧ ∃ F', FsMem w G (stg S tmp name b j).1 F' ∧ Turn W0 w F0 F'
def SaveE (W0 : World) (F0 : Nat → Prop) (G : Nat) (S : FsS) (tmp name b : List UInt8) (r : Int) (w : World) : Prop := ∃ j, j < 3 ∧ (∀ i, i ≤ j → (stg S tmp name b i).2 = 0) ∧ r = (stg S tmp name b (j + 1)).2 ∧ ∃ F', FsMem w G (stg S tmp name b (j + 1)).1 F' ∧ Turn W0 w F0 F'
theorem SaveI.step {W0 w w' : World} {F0 F' : Nat → Prop} {tmp name b : List UInt8} {j : Nat} {e : Ending} (hj : j < 3) (hall : ∀ i, i ≤ j → (stg S tmp name b i).2 = 0) (hT : Turn W0 w F0 F') (h : Did w w' G F' e (stg S tmp name b (j + 1))) :
    FirstPost (SaveI W0 F0 G S tmp name b (j + 1)) (SaveE W0 F0 G S tmp name b) e w' := by
  obtain ⟨F2, h1, rfl, h3⟩ := h
  refine ⟨_, rfl, ?_⟩
  by_cases h0 : (stg S tmp name b (j + 1)).2 = 0
  · exact .inl ⟨h0, fun i hi => by
      rcases (show i ≤ j ∨ i = j + 1 by omega) with hi | rfl
      · exact hall i hi
      · exact h0, F2, h3, hT.trans h1⟩
  · exact .inr ⟨h0, j, hj, hall, rfl, F2, h3, hT.trans h1⟩

/-- The three steps, as Save does them. -/
theorem save_first {p0 p1 p2 p3 row : Nat} (tmp name b : List UInt8) (h : FsMem w G S F) (hok : S.ok) (hs : S.steps + 10 ≤ 500000) (ht : tmp.length ≤ 1048576) (hn : name.length ≤ 1048576) (hb : b.length ≤ 1048576)
    (c0 : w.cell? ⟨p0, 0, none⟩ = some (.pointer (some ⟨G, 0, none⟩))) (c1 : w.cell? ⟨p1, 0, none⟩ = some (.string (bs name))) (c2 : w.cell? ⟨p2, 0, none⟩ = some (.string (bs b))) (c3 : w.cell? ⟨p3, 0, none⟩ = some (.string (bs tmp)))
    (r0 : w.cell? ⟨row, 0, none⟩ = some (.func (.func 40) #[] #[.pointer (some ⟨p0, 0, none⟩), .pointer (some ⟨p3, 0, none⟩), .pointer (some ⟨p2, 0, none⟩)]))
    (r1 : w.cell? ⟨row, 1, none⟩ = some (.func (.func 41) #[] #[.pointer (some ⟨p0, 0, none⟩), .pointer (some ⟨p3, 0, none⟩)]))
    (r2 : w.cell? ⟨row, 2, none⟩ = some (.func (.func 43) #[] #[.pointer (some ⟨p0, 0, none⟩), .pointer (some ⟨p3, 0, none⟩), .pointer (some ⟨p1, 0, none⟩)]))
    (n0 : ¬ F p0) (n1 : ¬ F p1) (n2 : ¬ F p2) (n3 : ¬ F p3) (nr : ¬ F row) :
    Calls Try.prog 39 #[.slice (some ⟨row, 0, none⟩) 3 3] w (FirstPost (SaveI w F G S tmp name b 3) (SaveE w F G S tmp name b)) := by
  have hsteps := fun j => stg_steps (S := S) tmp name b j
  have hoks := stg_ok hok tmp name b hb
  have hlim : ∀ j, (stg S tmp name b j).1.steps ≤ 500000 := fun j => by have := hsteps j; omega
  refine first_any 3 row (fun j => match j with | 0 => 40 | 1 => 41 | _ => 43)
    (fun j => match j with | 0 => #[.pointer (some ⟨p0, 0, none⟩), .pointer (some ⟨p3, 0, none⟩), .pointer (some ⟨p2, 0, none⟩)] | 1 => #[.pointer (some ⟨p0, 0, none⟩), .pointer (some ⟨p3, 0, none⟩)] | _ => #[.pointer (some ⟨p0, 0, none⟩), .pointer (some ⟨p3, 0, none⟩), .pointer (some ⟨p1, 0, none⟩)])
    (SaveI w F G S tmp name b) _ (by omega) ?_ ?_ ?_ ⟨fun i hi => by cases Nat.le_zero.1 hi; rfl, F, h, Turn.refl _ _⟩
  · rintro j hj w' ⟨_, F', _, hT⟩
    match j, hj with
    | 0, _ => exact hT.kept.cell r0 nr
    | 1, _ => exact hT.kept.cell r1 nr
    | 2, _ => exact hT.kept.cell r2 nr
  · intro j hj W
    match j, hj with
    | 0, _ => go_simp
    | 1, _ => go_simp
    | 2, _ => go_simp
  · rintro j hj w' ⟨hall, F', hM, hT⟩
    have k0 := hT.kept.cell c0 n0
    have k1 := hT.kept.cell c1 n1
    have k2 := hT.kept.cell c2 n2
    have k3 := hT.kept.cell c3 n3
    match j, hj with
    | 0, _ => exact (Save2_any tmp b hM (hoks 0) (hlim 0)  ht hb k0 k3 k2).mono fun e w' hd => SaveI.step (j := 0) (by omega) hall hT hd
    | 1, _ => exact (Save3_any tmp hM (hoks 1) (hlim 1)  ht k0 k3).mono fun e w' hd => SaveI.step (j := 1) (by omega) hall hT hd
    | 2, _ => exact (Save4_any tmp name hM (hoks 2) (hlim 2)  ht hn k0 k3 k1).mono fun e w' hd => SaveI.step (j := 2) (by omega) hall hT hd
end
end Go.Proofs.Ytocfaffiifhggaa
