/- A file is saved as a whole: in plain words; the closures of Save. A file is saved as a whole: the deferred call. A file is saved as a whole. All files but some are removed; a file is repaired. -/
import Derived.Test.YtgagcncmlonciaaGreatDoorDA
import Derived.Defers
namespace Go.Proofs.YtgagcncmlonciaaGreatDoor
open Go.RowKit Go.Maps Go.WideMaps Go.ChangeShapes Go.WideShapes
attribute [local go_sem] bs_toList bs_size

/-- The three steps between Create and SyncDir. -/
def stg (S : FsS) (tmp name b : List UInt8) : Nat → FsS × Int
  | 0 => (S, 0)
  | 1 => S.append tmp b
  | 2 => (S.append tmp b).1.sync tmp
  | _ => ((S.append tmp b).1.sync tmp).1.rename tmp name
def preSave (S : FsS) (tmp : List UInt8) : FsS × Int := if (S.names.at tmp).isSome then S.remove tmp else (S, 0)
/-- Behind the file's creation. -/
def saveEnd (S : FsS) (tmp name b : List UInt8) : FsS × Int :=
  if (stg S tmp name b 1).2 ≠ 0 then (((stg S tmp name b 1).1.remove tmp).1, (stg S tmp name b 1).2)
  else if (stg S tmp name b 2).2 ≠ 0 then (((stg S tmp name b 2).1.remove tmp).1, (stg S tmp name b 2).2)
  else if (stg S tmp name b 3).2 ≠ 0 then (((stg S tmp name b 3).1.remove tmp).1, (stg S tmp name b 3).2)
  else (stg S tmp name b 3).1.syncDir
def FsS.save (S : FsS) (name b : List UInt8) (g : Nat) : FsS × Int :=
  if (preSave S (tmpB ++ name)).2 ≠ 0 then preSave S (tmpB ++ name)
  else if ((preSave S (tmpB ++ name)).1.create (tmpB ++ name) g).2 ≠ 0 then (preSave S (tmpB ++ name)).1.create (tmpB ++ name) g
  else saveEnd ((preSave S (tmpB ++ name)).1.create (tmpB ++ name) g).1 (tmpB ++ name) name b

theorem stg_ok {S : FsS} (h : S.ok) (tmp name b : List UInt8) (hb : b.length ≤ 1048576) : ∀ j, (stg S tmp name b j).1.ok
  | 0 => h
  | 1 => h.append _ _ hb
  | 2 => (h.append _ _ hb).sync _
  | _ + 3 => ((h.append _ _ hb).sync _).rename _ _
theorem append_steps {S : FsS} (l b : List UInt8) : (S.append l b).1.steps ≤ S.steps + 1 := ActStep.steps (S := S) (a := ⟨1, l, b, 0, []⟩) (.inr (.inl ⟨rfl, rfl⟩))
theorem sync_steps {S : FsS} (l : List UInt8) : (S.sync l).1.steps ≤ S.steps + 1 := ActStep.steps (S := S) (a := ⟨3, l, [], 0, []⟩) (.inr (.inr (.inr (.inl ⟨rfl, rfl⟩))))
theorem rename_steps {S : FsS} (l k : List UInt8) : (S.rename l k).1.steps ≤ S.steps + 1 := ActStep.steps (S := S) (a := ⟨5, l, k, 0, []⟩) (.inr (.inr (.inr (.inr (.inr (.inl ⟨rfl, rfl⟩))))))
theorem remove_steps {S : FsS} (l : List UInt8) : (S.remove l).1.steps ≤ S.steps + 1 := ActStep.steps (S := S) (a := ⟨6, l, [], 0, []⟩) (.inr (.inr (.inr (.inr (.inr (.inr (.inl ⟨rfl, rfl⟩)))))))
theorem syncDir_steps {S : FsS} : S.syncDir.1.steps ≤ S.steps + 1 := ActStep.steps (S := S) (a := ⟨4, [], [], 0, []⟩) (.inr (.inr (.inr (.inr (.inl ⟨rfl, rfl⟩)))))
theorem create_steps {S : FsS} (l : List UInt8) {g : Nat} (hg : S.fresh g) : (S.create l g).1.steps ≤ S.steps + 1 := ActStep.steps (S := S) (a := ⟨0, l, [], 0, []⟩) (.inl ⟨rfl, g, hg, rfl⟩)
theorem cut_steps {S : FsS} (l : List UInt8) (n : Int) : (S.cut l n).1.steps ≤ S.steps + 1 := ActStep.steps (S := S) (a := ⟨2, l, [], n, []⟩) (.inr (.inr (.inl ⟨rfl, rfl⟩)))
theorem stg_steps {S : FsS} (tmp name b : List UInt8) : ∀ j, (stg S tmp name b j).1.steps ≤ S.steps + 3
  | 0 => by show S.steps ≤ _; omega
  | 1 => by have := append_steps (S := S) tmp b; show (S.append tmp b).1.steps ≤ _; omega
  | 2 => by have := append_steps (S := S) tmp b; have := sync_steps (S := (S.append tmp b).1) tmp; show ((S.append tmp b).1.sync tmp).1.steps ≤ _; omega
  | _ + 3 => by
    have := append_steps (S := S) tmp b
    have := sync_steps (S := (S.append tmp b).1) tmp
    have := rename_steps (S := ((S.append tmp b).1.sync tmp).1) tmp name
    show (((S.append tmp b).1.sync tmp).1.rename tmp name).1.steps ≤ _
    omega

section
variable {w : World} {G : Nat} {S : FsS} {F : Nat → Prop}

set_option maxRecDepth 100000 in
theorem Save2_any {p0 p1 p2 : Nat} (tmp b : List UInt8) (h : FsMem w G S F) (hok : S.ok) (hs : S.steps ≤ 500000) (ht : tmp.length ≤ 1048576) (hb : b.length ≤ 1048576) (c0 : w.cell? ⟨p0, 0, none⟩ = some (.pointer (some ⟨G, 0, none⟩)))
    (c1 : w.cell? ⟨p1, 0, none⟩ = some (.string (bs tmp))) (c2 : w.cell? ⟨p2, 0, none⟩ = some (.string (bs b))) :
    Calls Tryz.prog 91 #[.pointer (some ⟨p0, 0, none⟩), .pointer (some ⟨p1, 0, none⟩), .pointer (some ⟨p2, 0, none⟩)] w fun e w' => Did w w' G F e (S.append tmp b) := by
  have q := Lib.hid (Fs_Append_mem h hok hs tmp b ht hb)
  go_enter Tryz.func91, Tryz.ntmps91
  go_wp2_with fail
  refine q.out.mono ?_
  intro e w' hd
  have hR := Lib.hid hd
  obtain rfl := hd.form
  clear hd
  go_wp2
  go_ret
  exact hR.out
set_option maxRecDepth 100000 in
theorem Save3_any {p0 p1 : Nat} (tmp : List UInt8) (h : FsMem w G S F) (hok : S.ok) (hs : S.steps ≤ 500000) (ht : tmp.length ≤ 1048576) (c0 : w.cell? ⟨p0, 0, none⟩ = some (.pointer (some ⟨G, 0, none⟩)))
    (c1 : w.cell? ⟨p1, 0, none⟩ = some (.string (bs tmp))) :
    Calls Tryz.prog 93 #[.pointer (some ⟨p0, 0, none⟩), .pointer (some ⟨p1, 0, none⟩)] w fun e w' => Did w w' G F e (S.sync tmp) := by
  have q := Lib.hid (Fs_Sync_mem h hok hs tmp ht)
  go_enter Tryz.func93, Tryz.ntmps93
  go_wp2_with fail
  refine q.out.mono ?_
  intro e w' hd
  have hR := Lib.hid hd
  obtain rfl := hd.form
  clear hd
  go_wp2
  go_ret
  exact hR.out
set_option maxRecDepth 100000 in
theorem Save4_any {p0 p1 p2 : Nat} (tmp name : List UInt8) (h : FsMem w G S F) (hok : S.ok) (hs : S.steps ≤ 500000) (ht : tmp.length ≤ 1048576) (hb : name.length ≤ 1048576) (c0 : w.cell? ⟨p0, 0, none⟩ = some (.pointer (some ⟨G, 0, none⟩)))
    (c1 : w.cell? ⟨p1, 0, none⟩ = some (.string (bs tmp))) (c2 : w.cell? ⟨p2, 0, none⟩ = some (.string (bs name))) :
    Calls Tryz.prog 94 #[.pointer (some ⟨p0, 0, none⟩), .pointer (some ⟨p1, 0, none⟩), .pointer (some ⟨p2, 0, none⟩)] w fun e w' => Did w w' G F e (S.rename tmp name) := by
  have q := Lib.hid (Fs_Rename_mem h hok hs tmp name ht hb)
  go_enter Tryz.func94, Tryz.ntmps94
  go_wp2_with fail
  refine q.out.mono ?_
  intro e w' hd
  have hR := Lib.hid hd
  obtain rfl := hd.form
  clear hd
  go_wp2
  go_ret
  exact hR.out

/-- How far the three steps have come, from a world on. -/
def SaveI (W0 : World) (F0 : Nat → Prop) (G : Nat) (S : FsS) (tmp name b : List UInt8) (j : Nat) (w : World) : Prop := (∀ i, i ≤ j → (stg S tmp name b i).2 = 0) ∧ ∃ F', FsMem w G (stg S tmp name b j).1 F' ∧ Turn W0 w F0 F'
def SaveE (W0 : World) (F0 : Nat → Prop) (G : Nat) (S : FsS) (tmp name b : List UInt8) (r : Int) (w : World) : Prop := ∃ j, j < 3 ∧ (∀ i, i ≤ j → (stg S tmp name b i).2 = 0) ∧ r = (stg S tmp name b (j + 1)).2 ∧ ∃ F', FsMem w G (stg S tmp name b (j + 1)).1 F' ∧ Turn W0 w F0 F'
theorem SaveI.step {W0 w w' : World} {F0 F' : Nat → Prop} {tmp name b : List UInt8} {j : Nat} {e : Ending} (hj : j < 3) (hall : ∀ i, i ≤ j → (stg S tmp name b i).2 = 0) (hT : Turn W0 w F0 F') (h : Did w w' G F' e (stg S tmp name b (j + 1))) :
    FirstPost (SaveI W0 F0 G S tmp name b (j + 1)) (SaveE W0 F0 G S tmp name b) e w' := by
  obtain ⟨F2, h1, rfl, h3⟩ := h
  refine ⟨_, rfl, ?_⟩
  by_cases h0 : (stg S tmp name b (j + 1)).2 = 0
  · exact .inl ⟨h0, fun i hi => by
      rcases (show i ≤ j ∨ i = j + 1 by omega) with hi | rfl
      · exact hall i hi
      · exact h0, F2, h3, hT.trans h1⟩
  · exact .inr ⟨h0, j, hj, hall, rfl, F2, h3, hT.trans h1⟩

/-- The three steps, as Save does them. -/
theorem save_first {p0 p1 p2 p3 row : Nat} (tmp name b : List UInt8) (h : FsMem w G S F) (hok : S.ok) (hs : S.steps + 10 ≤ 500000) (ht : tmp.length ≤ 1048576) (hn : name.length ≤ 1048576) (hb : b.length ≤ 1048576)
    (c0 : w.cell? ⟨p0, 0, none⟩ = some (.pointer (some ⟨G, 0, none⟩))) (c1 : w.cell? ⟨p1, 0, none⟩ = some (.string (bs name))) (c2 : w.cell? ⟨p2, 0, none⟩ = some (.string (bs b))) (c3 : w.cell? ⟨p3, 0, none⟩ = some (.string (bs tmp)))
    (r0 : w.cell? ⟨row, 0, none⟩ = some (.func (.func 91) #[] #[.pointer (some ⟨p0, 0, none⟩), .pointer (some ⟨p3, 0, none⟩), .pointer (some ⟨p2, 0, none⟩)]))
    (r1 : w.cell? ⟨row, 1, none⟩ = some (.func (.func 93) #[] #[.pointer (some ⟨p0, 0, none⟩), .pointer (some ⟨p3, 0, none⟩)]))
    (r2 : w.cell? ⟨row, 2, none⟩ = some (.func (.func 94) #[] #[.pointer (some ⟨p0, 0, none⟩), .pointer (some ⟨p3, 0, none⟩), .pointer (some ⟨p1, 0, none⟩)]))
    (n0 : ¬ F p0) (n1 : ¬ F p1) (n2 : ¬ F p2) (n3 : ¬ F p3) (nr : ¬ F row) :
    Calls Tryz.prog 46 #[.slice (some ⟨row, 0, none⟩) 3 3] w (FirstPost (SaveI w F G S tmp name b 3) (SaveE w F G S tmp name b)) := by
  have hsteps := fun j => stg_steps (S := S) tmp name b j
  have hoks := stg_ok hok tmp name b hb
  have hlim : ∀ j, (stg S tmp name b j).1.steps ≤ 500000 := fun j => by have := hsteps j; omega
  refine first_any 3 row (fun j => match j with | 0 => 91 | 1 => 93 | _ => 94)
    (fun j => match j with | 0 => #[.pointer (some ⟨p0, 0, none⟩), .pointer (some ⟨p3, 0, none⟩), .pointer (some ⟨p2, 0, none⟩)] | 1 => #[.pointer (some ⟨p0, 0, none⟩), .pointer (some ⟨p3, 0, none⟩)] | _ => #[.pointer (some ⟨p0, 0, none⟩), .pointer (some ⟨p3, 0, none⟩), .pointer (some ⟨p1, 0, none⟩)])
    (SaveI w F G S tmp name b) _ (by omega) ?_ ?_ ?_ ⟨fun i hi => by cases Nat.le_zero.1 hi; rfl, F, h, Turn.refl _ _⟩
  · rintro j hj w' ⟨_, F', _, hT⟩
    match j, hj with
    | 0, _ => exact hT.kept.cell r0 nr
    | 1, _ => exact hT.kept.cell r1 nr
    | 2, _ => exact hT.kept.cell r2 nr
  · intro j hj W
    match j, hj with
    | 0, _ => go_simp
    | 1, _ => go_simp
    | 2, _ => go_simp
  · rintro j hj w' ⟨hall, F', hM, hT⟩
    have k0 := hT.kept.cell c0 n0
    have k1 := hT.kept.cell c1 n1
    have k2 := hT.kept.cell c2 n2
    have k3 := hT.kept.cell c3 n3
    match j, hj with
    | 0, _ => exact (Save2_any tmp b hM (hoks 0) (hlim 0)  ht hb k0 k3 k2).mono fun e w' hd => SaveI.step (j := 0) (by omega) hall hT hd
    | 1, _ => exact (Save3_any tmp hM (hoks 1) (hlim 1)  ht k0 k3).mono fun e w' hd => SaveI.step (j := 1) (by omega) hall hT hd
    | 2, _ => exact (Save4_any tmp name hM (hoks 2) (hlim 2)  ht hn k0 k3 k1).mono fun e w' hd => SaveI.step (j := 2) (by omega) hall hT hd
end
end Go.Proofs.YtgagcncmlonciaaGreatDoor
namespace Go.Proofs.YtgagcncmlonciaaGreatDoor
open Go.RowKit Go.Maps Go.WideMaps Go.ChangeShapes Go.WideShapes
attribute [local go_sem] bs_toList bs_size

section
variable {w : World} {G : Nat} {S : FsS} {F : Nat → Prop}

set_option maxRecDepth 100000 in
theorem Save1_done {pd p0 p3 : Nat} (u : FrameMode) (cd : w.cell? ⟨pd, 0, none⟩ = some (.bool true)) :
    CallsD Tryz.prog 90 #[.pointer (some ⟨pd, 0, none⟩), .pointer (some ⟨p0, 0, none⟩), .pointer (some ⟨p3, 0, none⟩)] u w fun e u' w' => u' = u ∧ (e = .returned (.tuple #[]) ∧ w = w') := by
  go_enter_d Tryz.func90, Tryz.ntmps90
  go_wp2
  go_end0
  exact ⟨rfl, rfl⟩

set_option maxRecDepth 100000 in
theorem Save1_not {pd p0 p3 : Nat} (u : FrameMode) (tmp : List UInt8) (h : FsMem w G S F) (hok : S.ok) (hs : S.steps ≤ 500000) (ht : tmp.length ≤ 1048576) (cd : w.cell? ⟨pd, 0, none⟩ = some (.bool false))
    (c0 : w.cell? ⟨p0, 0, none⟩ = some (.pointer (some ⟨G, 0, none⟩))) (c3 : w.cell? ⟨p3, 0, none⟩ = some (.string (bs tmp))) :
    CallsD Tryz.prog 90 #[.pointer (some ⟨pd, 0, none⟩), .pointer (some ⟨p0, 0, none⟩), .pointer (some ⟨p3, 0, none⟩)] u w fun e u' w' => u' = u ∧ (e = .returned (.tuple #[]) ∧ ∃ F', FsMem w' G (S.remove tmp).1 F' ∧ Turn w w' F F') := by
  have q := Lib.hid (Fs_Remove_mem h hok hs tmp ht)
  go_enter_d Tryz.func90, Tryz.ntmps90
  go_wp2_with fail
  refine q.out.mono ?_
  intro e w' hd
  have hR := Lib.hid hd
  obtain rfl := hd.form
  clear hd
  go_wp2
  go_end0
  obtain ⟨F', h1, _, h3⟩ := hR.out
  exact ⟨rfl, F', h3, h1⟩
end
end Go.Proofs.YtgagcncmlonciaaGreatDoor
namespace Go.Proofs.YtgagcncmlonciaaGreatDoor
open Go.RowKit Go.Maps Go.WideMaps Go.ChangeShapes Go.WideShapes
attribute [local go_sem] bs_toList bs_size

theorem boxes4 (w : World) (a b c d : Value) (s t u v : TypeId) : Below w.heap.size w ((((w.alloc (.cells #[a] s)).alloc (.cells #[b] t)).alloc (.cells #[c] u)).alloc (.cells #[d] v)) ∧
    ((((w.alloc (.cells #[a] s)).alloc (.cells #[b] t)).alloc (.cells #[c] u)).alloc (.cells #[d] v)).cell? ⟨w.heap.size, 0, none⟩ = some a ∧ ((((w.alloc (.cells #[a] s)).alloc (.cells #[b] t)).alloc (.cells #[c] u)).alloc (.cells #[d] v)).cell? ⟨w.heap.size + 1, 0, none⟩ = some b ∧
    ((((w.alloc (.cells #[a] s)).alloc (.cells #[b] t)).alloc (.cells #[c] u)).alloc (.cells #[d] v)).cell? ⟨w.heap.size + 1 + 1, 0, none⟩ = some c ∧ ((((w.alloc (.cells #[a] s)).alloc (.cells #[b] t)).alloc (.cells #[c] u)).alloc (.cells #[d] v)).cell? ⟨w.heap.size + 1 + 1 + 1, 0, none⟩ = some d := by
  obtain ⟨h1, h2, h3, h4⟩ := boxes3 w a b c s t u
  have hs : (((w.alloc (.cells #[a] s)).alloc (.cells #[b] t)).alloc (.cells #[c] u)).heap.size = w.heap.size + 1 + 1 + 1 := by simp
  have h5 : Blk ((((w.alloc (.cells #[a] s)).alloc (.cells #[b] t)).alloc (.cells #[c] u)).alloc (.cells #[d] v)) (w.heap.size + 1 + 1 + 1) v #[d] := by
    have := Blk.new (((w.alloc (.cells #[a] s)).alloc (.cells #[b] t)).alloc (.cells #[c] u)) v #[d]
    rwa [hs] at this
  have hk := one_step (((w.alloc (.cells #[a] s)).alloc (.cells #[b] t)).alloc (.cells #[c] u)) (.cells #[d] v)
  exact ⟨h1.trans (hk.mono (by rw [hs]; omega)), (Below.cell hk (World.block_lt_of_cell? _ _ h2)).trans h2, (Below.cell hk (World.block_lt_of_cell? _ _ h3)).trans h3, (Below.cell hk (World.block_lt_of_cell? _ _ h4)).trans h4, (Blk.cell h5 0).trans rfl⟩

theorem Turn.then_new {a b c : World} {F F' : Nat → Prop} {p : Nat} (h : Turn a b F F') (k : Kept b c (fun i => i = p)) (hp : a.heap.size ≤ p) : Turn a c F F' :=
  ⟨⟨k.os.trans h.kept.os, k.tape.trans h.kept.tape, k.output.trans h.kept.output, Nat.le_trans h.kept.size k.size, fun i hi hn => (k.block i (Nat.lt_of_lt_of_le hi h.kept.size) (fun e => by omega)).trans (h.kept.block i hi hn)⟩, h.grow⟩

section
variable {w : World} {G : Nat} {S : FsS} {F : Nat → Prop}

def SavePost (w : World) (G : Nat) (S : FsS) (F : Nat → Prop) (name b : List UInt8) (e : Ending) (w' : World) : Prop := ∃ g, (preSave S (tmpB ++ name)).1.fresh g ∧ Did w w' G F e (S.save name b g)

theorem save_pre {w0 w' : World} {name b : List UInt8} {F' : Nat → Prop} (hM : FsMem w' G (preSave S (tmpB ++ name)).1 F') (hT : Turn w0 w' F F') (hr : (preSave S (tmpB ++ name)).2 ≠ 0) : SavePost w0 G S F name b (.returned (.int .i64 (preSave S (tmpB ++ name)).2)) w' :=
  ⟨w'.heap.size, hM.fresh (Nat.le_refl _), by unfold FsS.save; rw [if_pos hr]; exact ⟨F', hT, rfl, hM⟩⟩
theorem save_create {w0 w' : World} {name b : List UInt8} {F' : Nat → Prop} {g : Nat} (hg : (preSave S (tmpB ++ name)).1.fresh g) (hM : FsMem w' G ((preSave S (tmpB ++ name)).1.create (tmpB ++ name) g).1 F') (hT : Turn w0 w' F F') (h0 : (preSave S (tmpB ++ name)).2 = 0)
    (hr : ((preSave S (tmpB ++ name)).1.create (tmpB ++ name) g).2 ≠ 0) : SavePost w0 G S F name b (.returned (.int .i64 ((preSave S (tmpB ++ name)).1.create (tmpB ++ name) g).2)) w' :=
  ⟨g, hg, by unfold FsS.save; rw [if_neg (by simpa using h0), if_pos hr]; exact ⟨F', hT, rfl, hM⟩⟩
theorem save_end {w0 w' : World} {name b : List UInt8} {g : Nat} {e : Ending} (hg : (preSave S (tmpB ++ name)).1.fresh g) (h0 : (preSave S (tmpB ++ name)).2 = 0) (h1 : ((preSave S (tmpB ++ name)).1.create (tmpB ++ name) g).2 = 0)
    (h : Did w0 w' G F e (saveEnd ((preSave S (tmpB ++ name)).1.create (tmpB ++ name) g).1 (tmpB ++ name) name b)) : SavePost w0 G S F name b e w' :=
  ⟨g, hg, by unfold FsS.save; rw [if_neg (by simpa using h0), if_neg (by simpa using h1)]; exact h⟩
theorem saveEnd_err {T : FsS} {tmp name b : List UInt8} {j : Nat} (hj : j < 3) (hall : ∀ i, i ≤ j → (stg T tmp name b i).2 = 0) (hr : (stg T tmp name b (j + 1)).2 ≠ 0) :
    saveEnd T tmp name b = (((stg T tmp name b (j + 1)).1.remove tmp).1, (stg T tmp name b (j + 1)).2) := by
  unfold saveEnd
  match j, hj with
  | 0, _ => rw [if_pos hr]
  | 1, _ => rw [if_neg (by simpa using hall 1 (by omega)), if_pos hr]
  | 2, _ => rw [if_neg (by simpa using hall 1 (by omega)), if_neg (by simpa using hall 2 (by omega)), if_pos hr]
theorem saveEnd_ok {T : FsS} {tmp name b : List UInt8} (hall : ∀ i, i ≤ 3 → (stg T tmp name b i).2 = 0) : saveEnd T tmp name b = (stg T tmp name b 3).1.syncDir := by
  unfold saveEnd
  rw [if_neg (by simpa using hall 1 (by omega)), if_neg (by simpa using hall 2 (by omega)), if_neg (by simpa using hall 3 (by omega))]

theorem save_boxes {W4 : World} {p0 p1 p2 p3 : Nat} {v0 v1 v2 v3 : Value} (c0 : W4.cell? ⟨p0, 0, none⟩ = some v0) (c1 : W4.cell? ⟨p1, 0, none⟩ = some v1) (c2 : W4.cell? ⟨p2, 0, none⟩ = some v2) (c3 : W4.cell? ⟨p3, 0, none⟩ = some v3)
    (n0 : ¬ F p0) (n1 : ¬ F p1) (n2 : ¬ F p2) (n3 : ¬ F p3) (w' : World) (F' : Nat → Prop) (ht : Turn W4 w' F F') :
    w'.cell? ⟨p0, 0, none⟩ = some v0 ∧ w'.cell? ⟨p1, 0, none⟩ = some v1 ∧ w'.cell? ⟨p2, 0, none⟩ = some v2 ∧ w'.cell? ⟨p3, 0, none⟩ = some v3 :=
  ⟨ht.kept.cell c0 n0, ht.kept.cell c1 n1, ht.kept.cell c2 n2, ht.kept.cell c3 n3⟩

set_option maxRecDepth 100000 in
set_option maxHeartbeats 4000000 in
theorem Save_any (name b : List UInt8) (h : FsMem w G S F) (hok : S.ok) (hs : S.steps + 20 ≤ 500000) (hn : name.length ≤ 1000000) (hb : b.length ≤ 1048576) :
    Calls Tryz.prog 44 #[.pointer (some ⟨G, 0, none⟩), .string (bs name), .string (bs b)] w (SavePost w G S F name b) := by
  have hmf : ∀ (fn : Fn) (first cap : Array Value) (w : World), (Instr.makeFunc fn first cap).run Tryz.prog w = .ok (.func fn first cap) w := fun _ _ _ _ => rfl
  have hlt := h.lt
  have htl : (tmpB ++ name).length ≤ 1048576 := by simp [tmpB]; omega
  have q1 := Lib.hid (DTemp_any name)
  obtain ⟨B4, c0, c1, c2, c3⟩ := boxes4 w (.pointer (some ⟨G, 0, none⟩)) (.string (bs name)) (.string (bs b)) (.string (bs (tmpB ++ name))) 28 9 9 9
  have hM4 := h.below B4
  have q2 := Lib.hid (there_any hM4 hok (tmpB ++ name))
  have HP4 := save_boxes (F := F) c0 c1 c2 c3 (fun e => by have := hlt _ e; omega) (fun e => by have := hlt _ e; omega) (fun e => by have := hlt _ e; omega) (fun e => by have := hlt _ e; omega)
  have HB4 := Lib.hid B4
  have HM4 := Lib.hid hM4
  have HLT := Lib.hid hlt
  have hokP := hok
  have HBX := Lib.hid HP4
  clear c0 c1 c2 c3 B4 hM4 hlt HP4
  cases hc : (S.names.at (tmpB ++ name)).isSome
  case' false =>
    have hp : preSave S (tmpB ++ name) = (S, 0) := by unfold preSave; rw [hc]; rfl
    rw [hc] at q2
    go_enter_defers Tryz.func44, Tryz.ntmps44
    go_wp2_with fail
    refine (q1.out _ (by omega)).mono ?_
    rintro e w' ⟨rfl, rfl⟩
    go_wp2_with fail
    refine q2.out.mono ?_
    rintro e wc ⟨rfl, hb5⟩
    generalize hW4 : (((w.alloc (.cells #[.pointer (some ⟨G, 0, none⟩)] 28)).alloc (.cells #[.string (bs name)] 9)).alloc (.cells #[.string (bs b)] 9)).alloc (.cells #[.string (bs (tmpB ++ name))] 9) = W4 at *
    have hz4 : W4.heap.size = w.heap.size + 1 + 1 + 1 + 1 := by rw [← hW4]; simp
    clear hW4
    have hT5 : Turn W4 wc F F := Turn.of_below hb5
    have hM5 := HM4.out.below hb5
    obtain ⟨FP, hFP⟩ : ∃ FP : Nat → Prop, FP = F := ⟨F, rfl⟩
    have HTc := Lib.hid (show Turn W4 wc F FP by rw [hFP]; exact hT5)
    have HMc := Lib.hid (show FsMem wc G (preSave S (tmpB ++ name)).1 FP by rw [hp, hFP]; exact hM5)
    have okc : (preSave S (tmpB ++ name)).1.ok := by rw [hp]; exact hok
    have hsc : (preSave S (tmpB ++ name)).1.steps ≤ S.steps + 1 := by rw [hp]; exact Nat.le_succ _
    have H0c := Lib.hid (show (preSave S (tmpB ++ name)).2 = 0 by rw [hp])
    clear hFP hT5 hM5 hp hb5 q1 q2
    obtain ⟨k0, k1, k2, k3⟩ := HBX.out wc FP HTc.out
  case' true =>
    have hp : preSave S (tmpB ++ name) = S.remove (tmpB ++ name) := by unfold preSave; rw [hc]; rfl
    rw [hc] at q2
    go_enter_defers Tryz.func44, Tryz.ntmps44
    go_wp2_with fail
    refine (q1.out _ (by omega)).mono ?_
    rintro e w' ⟨rfl, rfl⟩
    go_wp2_with fail
    refine q2.out.mono ?_
    rintro e w5 ⟨rfl, hb5⟩
    generalize hW4 : (((w.alloc (.cells #[.pointer (some ⟨G, 0, none⟩)] 28)).alloc (.cells #[.string (bs name)] 9)).alloc (.cells #[.string (bs b)] 9)).alloc (.cells #[.string (bs (tmpB ++ name))] 9) = W4 at *
    have hz4 : W4.heap.size = w.heap.size + 1 + 1 + 1 + 1 := by rw [← hW4]; simp
    clear hW4
    have hT5 : Turn W4 w5 F F := Turn.of_below hb5
    have hM5 := HM4.out.below hb5
    obtain ⟨k0, k1, k2, k3⟩ := HBX.out w5 F hT5
    have q3 := Lib.hid (Fs_Remove_mem hM5 hok (by omega) (tmpB ++ name) htl)
    have HT5 := Lib.hid hT5
    clear hT5 hM5 hb5 q1 q2
    go_wp2_with fail
    refine q3.out.mono ?_
    rintro e wc ⟨FP, hTP, he, hMP⟩
    subst he
    rw [← hp] at hMP ⊢
    have HTc := Lib.hid (HT5.out.trans hTP)
    have HMc := Lib.hid hMP
    have okc : (preSave S (tmpB ++ name)).1.ok := by rw [hp]; exact hok.remove _
    have hsc : (preSave S (tmpB ++ name)).1.steps ≤ S.steps + 1 := by rw [hp]; exact remove_steps _
    clear hTP hMP k0 k1 k2 k3 q3 HT5 hp
    obtain ⟨k0, k1, k2, k3⟩ := HBX.out wc FP HTc.out
    by_cases h0 : (preSave S (tmpB ++ name)).2 = 0
    case neg =>
     have HX := Lib.hid (save_pre (w0 := w) (b := b) HMc.out ((Turn.of_below HB4.out).trans HTc.out) h0)
     have e1 : ((preSave S (tmpB ++ name)).2 == 0) = false := by simpa using h0
     generalize (preSave S (tmpB ++ name)).2 = r at *
     clear h0
     go_wp2
     exact ⟨_, results_tmp rfl _ _ _, by simpa using HX.out⟩
    have H0c := Lib.hid h0
    rw [h0]
    clear h0
  all_goals
    have q3 := Lib.hid (Fs_Create_mem HMc.out okc (by omega) (tmpB ++ name) htl)
    go_wp2_with fail
    refine q3.out.mono ?_
    rintro e w6 ⟨g, hg, F6, hT6, he, hM6⟩
    subst he
    have HT6 := Lib.hid (HTc.out.trans hT6)
    have HM6 := Lib.hid hM6
    have ok6 := okc.create (tmpB ++ name) hg
    have hs6 := create_steps (tmpB ++ name) hg
    have HG := Lib.hid hg
    clear hT6 hM6 hg q3 k0 k1 k2 k3 HMc HTc
    obtain ⟨k0, k1, k2, k3⟩ := HBX.out w6 F6 HT6.out
    by_cases h1 : ((preSave S (tmpB ++ name)).1.create (tmpB ++ name) g).2 = 0
    case neg =>
     have HX := Lib.hid (save_create (w0 := w) (b := b) HG.out HM6.out ((Turn.of_below HB4.out).trans HT6.out) H0c.out h1)
     have e1 : (((preSave S (tmpB ++ name)).1.create (tmpB ++ name) g).2 == 0) = false := by simpa using h1
     simp only
     generalize ((preSave S (tmpB ++ name)).1.create (tmpB ++ name) g).2 = r at *
     clear h1
     go_wp2
     exact ⟨_, results_tmp rfl _ _ _, by simpa using HX.out⟩
    simp only
    have H1 := Lib.hid h1
    rw [h1]
    clear h1
    have HEND := Lib.hid (fun e w' => save_end (w0 := w) (w' := w') (b := b) (e := e) (F := F) (G := G) HG.out H0c.out H1.out)
    generalize ((preSave S (tmpB ++ name)).1.create (tmpB ++ name) g).1 = T at *
    go_wp2_with fail
    have hW8 : ∃ W8, W8 = (w6.alloc (.cells #[.bool false] 4)).alloc (.cells #[.func (.func 91) #[] #[.pointer (some ⟨w.heap.size, 0, none⟩), .pointer (some ⟨w.heap.size + 1 + 1 + 1, 0, none⟩), .pointer (some ⟨w.heap.size + 1 + 1, 0, none⟩)],
      .func (.func 93) #[] #[.pointer (some ⟨w.heap.size, 0, none⟩), .pointer (some ⟨w.heap.size + 1 + 1 + 1, 0, none⟩)],
      .func (.func 94) #[] #[.pointer (some ⟨w.heap.size, 0, none⟩), .pointer (some ⟨w.heap.size + 1 + 1 + 1, 0, none⟩), .pointer (some ⟨w.heap.size + 1, 0, none⟩)]] 112) := ⟨_, rfl⟩
    obtain ⟨W8, hW8⟩ := hW8
    rw [← hW8]
    have hB8 : Below w6.heap.size w6 W8 := by rw [hW8]; exact ((Below.refl _ w6).alloc (Nat.le_refl _) _).alloc (by simp) _
    have hz8 : W8.heap.size = w6.heap.size + 1 + 1 := by rw [hW8]; simp
    have hdn : Blk W8 w6.heap.size 4 #[.bool false] := by rw [hW8]; exact Blk.alloc (Blk.new w6 _ _) _
    have hrw : Blk W8 (w6.heap.size + 1) 112 #[.func (.func 91) #[] #[.pointer (some ⟨w.heap.size, 0, none⟩), .pointer (some ⟨w.heap.size + 1 + 1 + 1, 0, none⟩), .pointer (some ⟨w.heap.size + 1 + 1, 0, none⟩)],
      .func (.func 93) #[] #[.pointer (some ⟨w.heap.size, 0, none⟩), .pointer (some ⟨w.heap.size + 1 + 1 + 1, 0, none⟩)],
      .func (.func 94) #[] #[.pointer (some ⟨w.heap.size, 0, none⟩), .pointer (some ⟨w.heap.size + 1 + 1 + 1, 0, none⟩), .pointer (some ⟨w.heap.size + 1, 0, none⟩)]] := by
      rw [hW8]
      have := Blk.new (w6.alloc (.cells #[.bool false] 4)) 112 #[.func (.func 91) #[] #[.pointer (some ⟨w.heap.size, 0, none⟩), .pointer (some ⟨w.heap.size + 1 + 1 + 1, 0, none⟩), .pointer (some ⟨w.heap.size + 1 + 1, 0, none⟩)],
        .func (.func 93) #[] #[.pointer (some ⟨w.heap.size, 0, none⟩), .pointer (some ⟨w.heap.size + 1 + 1 + 1, 0, none⟩)],
        .func (.func 94) #[] #[.pointer (some ⟨w.heap.size, 0, none⟩), .pointer (some ⟨w.heap.size + 1 + 1 + 1, 0, none⟩), .pointer (some ⟨w.heap.size + 1, 0, none⟩)]]
      rwa [World.size_alloc] at this
    clear hW8
    have hM8 := HM6.out.below hB8
    have hold : ∀ i, i < 4 → ¬ F6 (w.heap.size + i) := fun i hi e => by
      rcases HT6.out.grow _ e with e | e
      · have := HLT.out _ e; omega
      · omega
    have hnew : ∀ i, w6.heap.size ≤ i → ¬ F6 i := fun i hi e => by have := HM6.out.lt _ e; omega
    have q8 := Lib.hid (save_first (tmpB ++ name) name b hM8 ok6 (by omega) htl (by omega) hb ((Below.cell hB8 (World.block_lt_of_cell? _ _ k0)).trans k0) ((Below.cell hB8 (World.block_lt_of_cell? _ _ k1)).trans k1) ((Below.cell hB8 (World.block_lt_of_cell? _ _ k2)).trans k2) ((Below.cell hB8 (World.block_lt_of_cell? _ _ k3)).trans k3)
      ((Blk.cell hrw 0).trans rfl) ((Blk.cell hrw 1).trans rfl) ((Blk.cell hrw 2).trans rfl) (hold 0 (by omega)) (hold 1 (by omega)) (hold 2 (by omega)) (hold 3 (by omega)) (hnew _ (by omega)))
    have HTW := Lib.hid ((Turn.of_below HB4.out).trans (HT6.out.trans (Turn.of_below hB8)))
    have HB8 := Lib.hid hB8
    have HDN := Lib.hid hdn
    have HK := Lib.hid (And.intro k0 k3)
    have HOLD := Lib.hid hold
    have HNEW := Lib.hid hnew
    have hsize6 := HTW.out.kept.size
    have hz6 := HT6.out.kept.size
    clear hB8 hdn hrw hM8 hold hnew k0 k1 k2 k3
    refine q8.out.mono ?_
    rintro e w9 ⟨r, rfl, hr⟩
    rcases hr with ⟨rfl, hall, F9, hM9, hT9⟩ | ⟨hr, j, hj, hall, hrj, F9, hM9, hT9⟩
    · have dn9 : Blk w9 w6.heap.size 4 #[.bool false] := Blk.keptK HDN.out hT9.kept (HNEW.out _ (Nat.le_refl _))
      have fr := Blk.frozen dn9 0
      have dc : w9.cell? ⟨w6.heap.size, 0, none⟩ = some (.bool false) := (Blk.cell dn9 0).trans rfl
      have b9 : w9.cell? ⟨w.heap.size, 0, none⟩ = some (.pointer (some ⟨G, 0, none⟩)) := hT9.kept.cell ((Below.cell HB8.out (World.block_lt_of_cell? _ _ HK.out.1)).trans HK.out.1) (HOLD.out 0 (by omega))
      have hk10 : Kept w9 (w9.setCell ⟨w6.heap.size, 0, none⟩ (.bool true)) (fun i => i = w6.heap.size) := Kept.of_grown (grown_set _ _ _ _) fun k hk => (Option.some.inj hk).symm
      have nF9 : ¬ F9 w6.heap.size := fun e => by
        rcases hT9.grow _ e with e | e
        · exact HNEW.out _ (Nat.le_refl _) e
        · omega
      have hM10 := hM9.kept hk10 (fun i hi e => nF9 (e ▸ hi))
      have b10 : (w9.setCell ⟨w6.heap.size, 0, none⟩ (.bool true)).cell? ⟨w.heap.size, 0, none⟩ = some (.pointer (some ⟨G, 0, none⟩)) := hk10.cell b9 (by show ¬ w.heap.size = w6.heap.size; omega)
      have dn10 : Blk (w9.setCell ⟨w6.heap.size, 0, none⟩ (.bool true)) w6.heap.size 4 #[.bool true] := Blk.set_ dn9 0 (.bool true)
      have HTX := Lib.hid ((HTW.out.trans hT9).then_new hk10 (by omega))
      have ok9 := stg_ok ok6 (tmpB ++ name) name b hb 3
      have hs9 := stg_steps (S := T) (tmpB ++ name) name b 3
      have q10 := Lib.hid (Fs_SyncDir_mem hM10 ok9 (by omega))
      have HEQ := Lib.hid (saveEnd_ok hall)
      have HD10 := Lib.hid dn10
      have HN9 := Lib.hid nF9
      clear hall hM9 hT9 hM10 hk10 nF9 dn9 dn10 b9
      go_wp2_with fail
      refine q10.out.mono ?_
      rintro e w11 ⟨F11, hT11, he, hM11⟩
      subst he
      have dn11 := Blk.keptK HD10.out hT11.kept HN9.out
      have HF := Lib.hid (HEND.out _ w11 (by rw [HEQ.out]; exact ⟨F11, HTX.out.trans hT11, rfl, hM11⟩))
      clear hT11 hM11
      generalize (stg T (tmpB ++ name) name b 3).1.syncDir.2 = r at *
      go_wp2
      refine leaves_cons (f := 90) (args := #[.pointer (some ⟨w6.heap.size, 0, none⟩), .pointer (some ⟨w.heap.size, 0, none⟩), .pointer (some ⟨w.heap.size + 1 + 1 + 1, 0, none⟩)]) (by simp) (by simp [go_sem]) ?_
      refine (Save1_done .returning ((Blk.cell dn11 0).trans rfl)).mono ?_
      rintro e u' w12 ⟨rfl, rfl, rfl⟩
      exact ⟨_, results_tmp rfl _ _ _, by simpa using HF.out⟩
    · have dn9 : Blk w9 w6.heap.size 4 #[.bool false] := Blk.keptK HDN.out hT9.kept (HNEW.out _ (Nat.le_refl _))
      have b9 : w9.cell? ⟨w.heap.size, 0, none⟩ = some (.pointer (some ⟨G, 0, none⟩)) := hT9.kept.cell ((Below.cell HB8.out (World.block_lt_of_cell? _ _ HK.out.1)).trans HK.out.1) (HOLD.out 0 (by omega))
      have b93 : w9.cell? ⟨w.heap.size + 1 + 1 + 1, 0, none⟩ = some (.string (bs (tmpB ++ name))) := hT9.kept.cell ((Below.cell HB8.out (World.block_lt_of_cell? _ _ HK.out.2)).trans HK.out.2) (HOLD.out 3 (by omega))
      have ok9 := stg_ok ok6 (tmpB ++ name) name b hb (j + 1)
      have hs9 := stg_steps (S := T) (tmpB ++ name) name b (j + 1)
      have q10 := Save1_not (pd := w6.heap.size) (p0 := w.heap.size) (p3 := w.heap.size + 1 + 1 + 1) .returning (tmpB ++ name) hM9 ok9 (by omega) htl ((Blk.cell dn9 0).trans rfl) b9 b93
      have HEQ := Lib.hid (saveEnd_err hj hall (by rw [← hrj]; exact hr))
      have HTX := Lib.hid (HTW.out.trans hT9)
      have Q10 := Lib.hid q10
      have HRJ := Lib.hid hrj
      have e1 : (r == 0) = false := by simpa using hr
      clear hall hM9 hT9 dn9 b9 b93 q10 hrj hr
      go_wp2
      refine leaves_cons (f := 90) (args := #[.pointer (some ⟨w6.heap.size, 0, none⟩), .pointer (some ⟨w.heap.size, 0, none⟩), .pointer (some ⟨w.heap.size + 1 + 1 + 1, 0, none⟩)]) (by simp) (by simp [go_sem]) ?_
      refine Q10.out.mono ?_
      rintro e u' w12 ⟨rfl, rfl, F12, hM12, hT12⟩
      have HF := HEND.out (.returned (.int .i64 r)) w12 (by rw [HEQ.out]; exact ⟨F12, HTX.out.trans hT12, by rw [HRJ.out], hM12⟩)
      exact ⟨_, results_tmp rfl _ _ _, by simpa using HF⟩
end
end Go.Proofs.YtgagcncmlonciaaGreatDoor
namespace Go.Proofs.YtgagcncmlonciaaGreatDoor
open Go.RowKit Go.Maps Go.WideMaps Go.ChangeShapes Go.WideShapes
attribute [local go_sem] bs_toList bs_size

def sweepLoop (keep : List (List UInt8)) : List (List UInt8) → FsS → Nat → FsS × Nat × Int
  | [], S, n => (S, n, 0)
  | x :: r, S, n => if x ∈ keep then sweepLoop keep r S n else if (S.remove x).2 ≠ 0 then ((S.remove x).1, n, (S.remove x).2) else sweepLoop keep r (S.remove x).1 (n + 1)
theorem sweepLoop_cons (keep : List (List UInt8)) (x : List UInt8) (r : List (List UInt8)) (S : FsS) (n : Nat) : sweepLoop keep (x :: r) S n =
    if x ∈ keep then sweepLoop keep r S n else if (S.remove x).2 ≠ 0 then ((S.remove x).1, n, (S.remove x).2) else sweepLoop keep r (S.remove x).1 (n + 1) := rfl
def FsS.sweep (S : FsS) (keep : List (List UInt8)) : FsS × Nat × Int :=
  if (sweepLoop keep S.names.keys S 0).2.2 ≠ 0 then sweepLoop keep S.names.keys S 0
  else if (sweepLoop keep S.names.keys S 0).2.1 = 0 then ((sweepLoop keep S.names.keys S 0).1, 0, 0)
  else ((sweepLoop keep S.names.keys S 0).1.syncDir.1, (sweepLoop keep S.names.keys S 0).2.1, (sweepLoop keep S.names.keys S 0).1.syncDir.2)

theorem sweep_eq (S : FsS) (keep : List (List UInt8)) : S.sweep keep = if (sweepLoop keep S.names.keys S 0).2.2 ≠ 0 then sweepLoop keep S.names.keys S 0
  else if (sweepLoop keep S.names.keys S 0).2.1 = 0 then ((sweepLoop keep S.names.keys S 0).1, 0, 0)
  else ((sweepLoop keep S.names.keys S 0).1.syncDir.1, (sweepLoop keep S.names.keys S 0).2.1, (sweepLoop keep S.names.keys S 0).1.syncDir.2) := rfl

def SweepPost (w : World) (G : Nat) (S : FsS) (F : Nat → Prop) (keep : List (List UInt8)) (e : Ending) (w' : World) : Prop :=
  ∃ F', e = .returned (.tuple #[.int .i64 ((S.sweep keep).2.1 : Nat), .int .i64 (S.sweep keep).2.2]) ∧ FsMem w' G (S.sweep keep).1 F' ∧ Turn w w' F F'

section
variable {w : World} {G : Nat} {S : FsS} {F : Nat → Prop}

set_option maxRecDepth 100000 in
set_option maxHeartbeats 4000000 in
theorem Sweep_any {kv : Value} {keep : List (List UInt8)} (h : FsMem w G S F) (hok : S.ok) (hs : S.steps + 100 ≤ 500000) (hk : ∀ w' F', Turn w w' F F' → StrsAt w' kv keep) :
    Calls Tryz.prog 51 #[.pointer (some ⟨G, 0, none⟩), kv] w (SweepPost w G S F keep) := by
  have q := Lib.hid (Fs_List_mem h hok)
  have hmem := h
  go_enter Tryz.func51, Tryz.ntmps51
  go_wp2_with fail
  refine q.out.mono ?_
  rintro e w1 ⟨⟨lv, rfl, hT⟩, hb⟩
  have hbase : ∀ k, lv.ownBlock = some k → w.heap.size ≤ k := by
    obtain ⟨_, _, _, hb, _⟩ := hT.form
    exact hb
  have hsafe : Safe w1 F lv S.names.keys := ⟨⟨_, hT⟩, fun k hk hF => by have := hmem.lt k hF; have := hbase k hk; omega⟩
  have hM1 := Lib.hid (h.below hb)
  have hT1 := Lib.hid (Turn.of_below (F := F) hb)
  obtain ⟨la, lc, rfl⟩ := hsafe.len
  have HS := Lib.hid hsafe
  have hkl : S.names.keys.length ≤ 64 := by
    have := hok.names_le
    show (S.names.map (·.1)).length ≤ 64
    simpa using this
  have hkn : ∀ x ∈ S.names.keys, x.length ≤ 1048576 := fun x hx => by
    obtain ⟨p, hp, rfl⟩ := List.mem_map.1 hx
    have := hok.names.3 p hp
    omega
  have HKN := Lib.hid hkn
  have HK := Lib.hid hk
  have HSW := Lib.hid (sweep_eq S keep)
  clear hT hb hbase hsafe hkn hk q
  generalize hK : S.names.keys = keys at *
  generalize hn : keys.length = n at *
  have Hn := Lib.hid hn
  clear hn hK
  go_wp2_with fail
  go_loopw [6, 13] (fun t i wr => ∃ (j : Nat) (m : Nat) (T : FsS) (Fj : Nat → Prop), j ≤ n ∧ i = .int .i64 (j : Int) ∧ t = .int .i64 (m : Int) ∧ m ≤ j ∧ FsMem wr G T Fj ∧ Turn w wr F Fj ∧ Safe wr Fj (.slice la keys.length lc) keys ∧ T.ok ∧ T.steps ≤ S.steps + j ∧ sweepLoop keep keys S 0 = sweepLoop keep (keys.drop j) T m) (fun _ i _ => n - (intOf i).toNat)
  case atStart => exact ⟨0, 0, S, F, Nat.zero_le _, rfl, rfl, Nat.le_refl _, hM1.out, hT1.out, by rw [Hn.out]; exact HS.out, hok, Nat.le_refl _, rfl⟩
  obtain ⟨j, m, T, Fj, hj, rfl, rfl, hmj, hM, hTT, hsf, okT, hsT, hloop⟩ := hrel
  have HL := Lib.hid hloop
  clear hloop
  rcases (show j < n ∨ j = n by omega) with hjn | rfl
  · have hjl : j < keys.length := by rw [Hn.out]; exact hjn
    obtain ⟨lg, rfl, lcell⟩ := hsf.cell (List.getElem?_eq_getElem hjl)
    have hxl := HKN.out keys[j] (List.getElem_mem hjl)
    have hdrop : keys.drop j = keys[j] :: keys.drop (j + 1) := List.drop_eq_getElem_cons hjl
    have hl2 := HL.out
    rw [hdrop] at hl2
    have HL2 := Lib.hid hl2
    clear hdrop hl2
    have q1 := Lib.hid (Contains_any keys[j] (HK.out wr Fj hTT))
    have q2 := Lib.hid (Fs_Remove_mem hM okT (by omega) keys[j] hxl)
    have okR := okT.remove keys[j]
    have hsR := remove_steps (S := T) keys[j]
    have HM := Lib.hid hM
    have HT := Lib.hid hTT
    have HSF := Lib.hid hsf
    clear hM hTT hsf
    generalize keys[j] = x at *
    go_wp2_with fail
    refine q1.out.mono ?_
    rintro e w2 ⟨rfl, rfl⟩
    by_cases hx : x ∈ keep
    · have hd : decide (x ∈ keep) = true := by simpa using hx
      rw [hd]
      have HE := HL2.out
      rw [sweepLoop_cons] at HE
      rw [if_pos hx] at HE
      have HE2 := Lib.hid HE
      clear HE hx hd
      go_wp2
      go_roundw
      case rel => exact ⟨j + 1, m, T, Fj, by omega, by go_num, rfl, by omega, HM.out, HT.out, HSF.out, okT, by omega, HE2.out⟩
      case measure => simp [intOf]; omega
    · have hd : decide (x ∈ keep) = false := by simpa using hx
      rw [hd]
      have HE := HL2.out
      rw [sweepLoop_cons] at HE
      rw [if_neg hx] at HE
      have HE2 := Lib.hid HE
      clear HE hx hd
      go_wp2_with fail
      refine q2.out.mono ?_
      rintro e w3 ⟨F3, hT3, he, hM3⟩
      subst he
      have hsf3 := HSF.out.turn hT3
      have HT3 := Lib.hid (HT.out.trans hT3)
      have HM3 := Lib.hid hM3
      have HSF3 := Lib.hid hsf3
      clear hT3 hM3 hsf3
      by_cases hr : (T.remove x).2 = 0
      · have HE3 := HE2.out
        rw [if_neg (by simpa using hr)] at HE3
        have HE4 := Lib.hid HE3
        simp only
        rw [hr]
        clear HE3 hr
        generalize (T.remove x).1 = T' at *
        go_wp2
        go_roundw
        case rel => exact ⟨j + 1, m + 1, T', F3, by omega, by go_num, by go_num, by omega, HM3.out, HT3.out, HSF3.out, okR, by omega, HE4.out⟩
        case measure => simp [intOf]; omega
      · have HE3 := HE2.out
        rw [if_pos hr] at HE3
        have hsw : S.sweep keep = ((T.remove x).1, m, (T.remove x).2) := by
          rw [HSW.out, HE3]
          simp only
          rw [if_pos hr]
        have e1 : ((T.remove x).2 == 0) = false := by simpa using hr
        have HP : SweepPost w G S F keep (.returned (.tuple #[.int .i64 (m : Int), .int .i64 (T.remove x).2])) w3 := ⟨F3, by rw [hsw], by rw [hsw]; exact HM3.out, HT3.out⟩
        have HPP := Lib.hid HP
        clear HE3 hr hsw HP
        simp only
        generalize (T.remove x).2 = r at *
        go_wp2
        go_ret2
        exact HPP.out
  · have hL := HL.out
    rw [List.drop_eq_nil_of_le (by rw [Hn.out]; exact Nat.le_refl _)] at hL
    have hL2 : sweepLoop keep keys S 0 = (T, m, 0) := hL
    by_cases hm : m = 0
    · subst hm
      have hsw : S.sweep keep = (T, 0, 0) := by
        rw [HSW.out, hL2]
        simp
      have HP : SweepPost w G S F keep (.returned (.tuple #[.int .i64 0, .int .i64 0])) wr := ⟨Fj, by rw [hsw]; rfl, by rw [hsw]; exact hM, hTT⟩
      have HPP := Lib.hid HP
      clear hL hL2 hsw HP hM hTT
      go_wp2
      go_ret2
      exact HPP.out
    · have e1 : (((m : Nat) : Int) == 0) = false := by simp; omega
      have hsw : S.sweep keep = (T.syncDir.1, m, T.syncDir.2) := by
        rw [HSW.out, hL2]
        simp only
        rw [if_neg (by simp), if_neg hm]
      have HSW2 := Lib.hid hsw
      have q3 := Lib.hid (Fs_SyncDir_mem hM okT (by omega))
      have HT := Lib.hid hTT
      clear hL hL2 hsw hM hTT
      go_wp2_with fail
      refine q3.out.mono ?_
      rintro e w3 ⟨F3, hT3, he, hM3⟩
      subst he
      have HP : SweepPost w G S F keep (.returned (.tuple #[.int .i64 (m : Int), .int .i64 T.syncDir.2])) w3 := ⟨F3, by rw [HSW2.out], by rw [HSW2.out]; exact hM3, HT.out.trans hT3⟩
      have HPP := Lib.hid HP
      clear HP hT3 hM3
      simp only
      generalize T.syncDir.2 = r at *
      go_wp2
      go_ret2
      exact HPP.out

/-- A repair's two steps. -/
def FsS.repair (S : FsS) (name : List UInt8) (n : Int) : FsS × Int :=
  if (S.read name).2 ≠ 0 then (S, (S.read name).2) else if ((S.read name).1.length : Int) = n then (S, 0)
  else if (S.cut name n).2 ≠ 0 then S.cut name n else (S.cut name n).1.sync name

set_option maxRecDepth 100000 in
theorem Repair1_any {p0 p1 p2 : Nat} (name : List UInt8) (n : Int) (h : FsMem w G S F) (hok : S.ok) (hs : S.steps ≤ 500000) (ht : name.length ≤ 1048576) (c0 : w.cell? ⟨p0, 0, none⟩ = some (.pointer (some ⟨G, 0, none⟩)))
    (c1 : w.cell? ⟨p1, 0, none⟩ = some (.string (bs name))) (c2 : w.cell? ⟨p2, 0, none⟩ = some (.int .i64 n)) :
    Calls Tryz.prog 47 #[.pointer (some ⟨p0, 0, none⟩), .pointer (some ⟨p1, 0, none⟩), .pointer (some ⟨p2, 0, none⟩)] w fun e w' => Did w w' G F e (S.cut name n) := by
  have q := Lib.hid (Fs_Cut_mem h hok hs name n ht)
  go_enter Tryz.func47, Tryz.ntmps47
  go_wp2_with fail
  refine q.out.mono ?_
  intro e w' hd
  have hR := Lib.hid hd
  obtain rfl := hd.form
  clear hd
  go_wp2
  go_ret
  exact hR.out
set_option maxRecDepth 100000 in
theorem Repair2_any {p0 p1 : Nat} (name : List UInt8) (h : FsMem w G S F) (hok : S.ok) (hs : S.steps ≤ 500000) (ht : name.length ≤ 1048576) (c0 : w.cell? ⟨p0, 0, none⟩ = some (.pointer (some ⟨G, 0, none⟩)))
    (c1 : w.cell? ⟨p1, 0, none⟩ = some (.string (bs name))) :
    Calls Tryz.prog 49 #[.pointer (some ⟨p0, 0, none⟩), .pointer (some ⟨p1, 0, none⟩)] w fun e w' => Did w w' G F e (S.sync name) := by
  have q := Lib.hid (Fs_Sync_mem h hok hs name ht)
  go_enter Tryz.func49, Tryz.ntmps49
  go_wp2_with fail
  refine q.out.mono ?_
  intro e w' hd
  have hR := Lib.hid hd
  obtain rfl := hd.form
  clear hd
  go_wp2
  go_ret
  exact hR.out
def rst (S : FsS) (name : List UInt8) (n : Int) : Nat → FsS × Int
  | 0 => (S, 0)
  | 1 => S.cut name n
  | _ => (S.cut name n).1.sync name
def RepI (W0 : World) (F0 : Nat → Prop) (G : Nat) (S : FsS) (name : List UInt8) (n : Int) (j : Nat) (w : World) : Prop := (∀ i, i ≤ j → (rst S name n i).2 = 0) ∧ ∃ F', FsMem w G (rst S name n j).1 F' ∧ Turn W0 w F0 F'
def RepE (W0 : World) (F0 : Nat → Prop) (G : Nat) (S : FsS) (name : List UInt8) (n : Int) (r : Int) (w : World) : Prop := ∃ j, j < 2 ∧ (∀ i, i ≤ j → (rst S name n i).2 = 0) ∧ r = (rst S name n (j + 1)).2 ∧ ∃ F', FsMem w G (rst S name n (j + 1)).1 F' ∧ Turn W0 w F0 F'
theorem RepI.step {W0 w w' : World} {F0 F' : Nat → Prop} {name : List UInt8} {n : Int} {j : Nat} {e : Ending} (hj : j < 2) (hall : ∀ i, i ≤ j → (rst S name n i).2 = 0) (hT : Turn W0 w F0 F') (h : Did w w' G F' e (rst S name n (j + 1))) :
    FirstPost (RepI W0 F0 G S name n (j + 1)) (RepE W0 F0 G S name n) e w' := by
  obtain ⟨F2, h1, rfl, h3⟩ := h
  refine ⟨_, rfl, ?_⟩
  by_cases h0 : (rst S name n (j + 1)).2 = 0
  · exact .inl ⟨h0, fun i hi => by
      rcases (show i ≤ j ∨ i = j + 1 by omega) with hi | rfl
      · exact hall i hi
      · exact h0, F2, h3, hT.trans h1⟩
  · exact .inr ⟨h0, j, hj, hall, rfl, F2, h3, hT.trans h1⟩

theorem repair_first {p0 p1 p2 row : Nat} (name : List UInt8) (n : Int) (h : FsMem w G S F) (hok : S.ok) (hs : S.steps + 20 ≤ 500000) (hn : name.length ≤ 1048576)
    (c0 : w.cell? ⟨p0, 0, none⟩ = some (.pointer (some ⟨G, 0, none⟩))) (c1 : w.cell? ⟨p1, 0, none⟩ = some (.string (bs name))) (c2 : w.cell? ⟨p2, 0, none⟩ = some (.int .i64 n))
    (r0 : w.cell? ⟨row, 0, none⟩ = some (.func (.func 47) #[] #[.pointer (some ⟨p0, 0, none⟩), .pointer (some ⟨p1, 0, none⟩), .pointer (some ⟨p2, 0, none⟩)]))
    (r1 : w.cell? ⟨row, 1, none⟩ = some (.func (.func 49) #[] #[.pointer (some ⟨p0, 0, none⟩), .pointer (some ⟨p1, 0, none⟩)]))
    (n0 : ¬ F p0) (n1 : ¬ F p1) (n2 : ¬ F p2) (nr : ¬ F row) :
    Calls Tryz.prog 46 #[.slice (some ⟨row, 0, none⟩) 2 2] w (FirstPost (RepI w F G S name n 2) (RepE w F G S name n)) := by
  have hcs := cut_steps (S := S) name n
  refine first_any 2 row (fun j => match j with | 0 => 47 | _ => 49)
    (fun j => match j with | 0 => #[.pointer (some ⟨p0, 0, none⟩), .pointer (some ⟨p1, 0, none⟩), .pointer (some ⟨p2, 0, none⟩)] | _ => #[.pointer (some ⟨p0, 0, none⟩), .pointer (some ⟨p1, 0, none⟩)])
    (RepI w F G S name n) _ (by omega) ?_ ?_ ?_ ⟨fun i hi => by cases Nat.le_zero.1 hi; rfl, F, h, Turn.refl _ _⟩
  · rintro j hj w' ⟨_, F', _, hT⟩
    match j, hj with
    | 0, _ => exact hT.kept.cell r0 nr
    | 1, _ => exact hT.kept.cell r1 nr
  · intro j hj W
    match j, hj with
    | 0, _ => go_simp
    | 1, _ => go_simp
  · rintro j hj w' ⟨hall, F', hM, hT⟩
    have k0 := hT.kept.cell c0 n0
    have k1 := hT.kept.cell c1 n1
    have k2 := hT.kept.cell c2 n2
    match j, hj with
    | 0, _ => exact (Repair1_any name n hM hok (show S.steps ≤ 500000 by omega) hn k0 k1 k2).mono fun e w' hd => RepI.step (j := 0) (by omega) hall hT hd
    | 1, _ => exact (Repair2_any name hM (hok.cut name n) (show (S.cut name n).1.steps ≤ 500000 by omega) hn k0 k1).mono fun e w' hd => RepI.step (j := 1) (by omega) hall hT hd

set_option maxRecDepth 100000 in
set_option maxHeartbeats 4000000 in
theorem Repair_any (name : List UInt8) (n : Int) (h : FsMem w G S F) (hok : S.ok) (hs : S.steps + 20 ≤ 500000) (hn : name.length ≤ 1000000) :
    Calls Tryz.prog 16 #[.pointer (some ⟨G, 0, none⟩), .string (bs name), .int .i64 n] w fun e w' => Did w w' G F e (S.repair name n) := by
  have hlt := h.lt
  obtain ⟨B3, c0, c1, c2⟩ := boxes3 w (.pointer (some ⟨G, 0, none⟩)) (.string (bs name)) (.int .i64 n) 28 9 3
  have hM3 := h.below B3
  have q1 := Lib.hid (Fs_Read_mem hM3 name (by omega))
  have hrl : (S.read name).1.length ≤ 1099511627776 := by
    unfold FsS.read
    split
    · simp
    · rename_i g _
      have := (hok.files g).nw_le
      unfold bytesMost at this
      simp only
      omega
  have HEQ := Lib.hid (show S.repair name n = if (S.read name).2 ≠ 0 then (S, (S.read name).2) else if ((S.read name).1.length : Int) = n then (S, 0) else if (S.cut name n).2 ≠ 0 then S.cut name n else (S.cut name n).1.sync name from rfl)
  have HB := Lib.hid B3
  have HM := Lib.hid hM3
  have HC := Lib.hid (And.intro c0 (And.intro c1 c2))
  have HLT := Lib.hid hlt
  clear B3 c0 c1 c2 hM3 hlt
  generalize (S.read name).1 = rd at *
  generalize (S.read name).2 = re at *
  by_cases hre : re = 0
  · subst hre
    by_cases hl : (rd.length : Int) = n
    · subst hl
      have HP := Lib.hid (show Did w _ G F (.returned (.int .i64 0)) (S.repair name (rd.length : Int)) by rw [HEQ.out, if_neg (by simp), if_pos rfl]; exact did_none HM.out HB.out 0)
      go_enter Tryz.func16, Tryz.ntmps16
      go_wp2_with fail
      refine q1.out.mono ?_
      rintro e w' ⟨rfl, rfl⟩
      go_wp2
      go_ret
      exact HP.out
    · have e1 : ((rd.length : Int) == n) = false := by simpa using hl
      have HEQ2 := Lib.hid (show S.repair name n = if (S.cut name n).2 ≠ 0 then S.cut name n else (S.cut name n).1.sync name by rw [HEQ.out, if_neg (by simp), if_neg hl])
      clear hl
      go_enter Tryz.func16, Tryz.ntmps16
      go_wp2_with fail
      refine q1.out.mono ?_
      rintro e w' ⟨rfl, rfl⟩
      go_wp2_with fail
      generalize hW3 : ((w.alloc (.cells #[.pointer (some ⟨G, 0, none⟩)] 28)).alloc (.cells #[.string (bs name)] 9)).alloc (.cells #[.int .i64 n] 3) = W3 at *
      have hz3 : W3.heap.size = w.heap.size + 1 + 1 + 1 := by rw [← hW3]; simp
      clear hW3
      have hM4 := HM.out.below (one_step W3 (.cells #[.func (.func 47) #[] #[.pointer (some ⟨w.heap.size, 0, none⟩), .pointer (some ⟨w.heap.size + 1, 0, none⟩), .pointer (some ⟨w.heap.size + 1 + 1, 0, none⟩)], .func (.func 49) #[] #[.pointer (some ⟨w.heap.size, 0, none⟩), .pointer (some ⟨w.heap.size + 1, 0, none⟩)]] 112))
      have hrw : Blk (W3.alloc (.cells #[.func (.func 47) #[] #[.pointer (some ⟨w.heap.size, 0, none⟩), .pointer (some ⟨w.heap.size + 1, 0, none⟩), .pointer (some ⟨w.heap.size + 1 + 1, 0, none⟩)], .func (.func 49) #[] #[.pointer (some ⟨w.heap.size, 0, none⟩), .pointer (some ⟨w.heap.size + 1, 0, none⟩)]] 112)) (w.heap.size + 1 + 1 + 1) 112 #[.func (.func 47) #[] #[.pointer (some ⟨w.heap.size, 0, none⟩), .pointer (some ⟨w.heap.size + 1, 0, none⟩), .pointer (some ⟨w.heap.size + 1 + 1, 0, none⟩)], .func (.func 49) #[] #[.pointer (some ⟨w.heap.size, 0, none⟩), .pointer (some ⟨w.heap.size + 1, 0, none⟩)]] := by
        have := Blk.new W3 112 #[.func (.func 47) #[] #[.pointer (some ⟨w.heap.size, 0, none⟩), .pointer (some ⟨w.heap.size + 1, 0, none⟩), .pointer (some ⟨w.heap.size + 1 + 1, 0, none⟩)], .func (.func 49) #[] #[.pointer (some ⟨w.heap.size, 0, none⟩), .pointer (some ⟨w.heap.size + 1, 0, none⟩)]]
        rwa [hz3] at this
      have hB4 := one_step W3 (.cells #[.func (.func 47) #[] #[.pointer (some ⟨w.heap.size, 0, none⟩), .pointer (some ⟨w.heap.size + 1, 0, none⟩), .pointer (some ⟨w.heap.size + 1 + 1, 0, none⟩)], .func (.func 49) #[] #[.pointer (some ⟨w.heap.size, 0, none⟩), .pointer (some ⟨w.heap.size + 1, 0, none⟩)]] 112)
      generalize W3.alloc (.cells #[.func (.func 47) #[] #[.pointer (some ⟨w.heap.size, 0, none⟩), .pointer (some ⟨w.heap.size + 1, 0, none⟩), .pointer (some ⟨w.heap.size + 1 + 1, 0, none⟩)], .func (.func 49) #[] #[.pointer (some ⟨w.heap.size, 0, none⟩), .pointer (some ⟨w.heap.size + 1, 0, none⟩)]] 112) = W4 at *
      have k0 := (Below.cell hB4 (World.block_lt_of_cell? _ _ HC.out.1)).trans HC.out.1
      have k1 := (Below.cell hB4 (World.block_lt_of_cell? _ _ HC.out.2.1)).trans HC.out.2.1
      have k2 := (Below.cell hB4 (World.block_lt_of_cell? _ _ HC.out.2.2)).trans HC.out.2.2
      have hnF : ∀ i, ¬ F (w.heap.size + i) := fun i e => by have := HLT.out _ e; omega
      have hcs := cut_steps (S := S) name n
      have q := repair_first (p0 := w.heap.size) (p1 := w.heap.size + 1) (p2 := w.heap.size + 1 + 1) (row := w.heap.size + 1 + 1 + 1) name n hM4 hok hs (by omega) k0 k1 k2 ((Blk.cell hrw 0).trans rfl) ((Blk.cell hrw 1).trans rfl) (hnF 0) (hnF 1) (hnF 2) (hnF 3)
      have Q := Lib.hid q
      have HT4 := Lib.hid ((Turn.of_below (F := F) HB.out).trans (Turn.of_below hB4))
      clear q hrw hB4 k0 k1 k2 hnF hM4
      refine Q.out.mono ?_
      rintro e w9 ⟨r, rfl, hr⟩
      have HP : Did w w9 G F (.returned (.int .i64 r)) (S.repair name n) := by
        rw [HEQ2.out]
        rcases hr with ⟨rfl, hall, F9, hM9, hT9⟩ | ⟨hr, j, hj, hall, rfl, F9, hM9, hT9⟩
        · have h1 : (S.cut name n).2 = 0 := hall 1 (by omega)
          have h2 : ((S.cut name n).1.sync name).2 = 0 := hall 2 (by omega)
          rw [if_neg (by simpa using h1)]
          exact ⟨F9, HT4.out.trans hT9, by rw [h2], hM9⟩
        · match j, hj with
          | 0, _ =>
            have hr' : (S.cut name n).2 ≠ 0 := hr
            rw [if_pos hr']
            exact ⟨F9, HT4.out.trans hT9, rfl, hM9⟩
          | 1, _ =>
            have h1 : (S.cut name n).2 = 0 := hall 1 (by omega)
            rw [if_neg (by simpa using h1)]
            exact ⟨F9, HT4.out.trans hT9, rfl, hM9⟩
      have HPP := Lib.hid HP
      clear HP hr
      go_wp2
      go_ret
      exact HPP.out
  · have e1 : (re == 0) = false := by simpa using hre
    have HP := Lib.hid (show Did w _ G F (.returned (.int .i64 re)) (S.repair name n) by rw [HEQ.out, if_pos hre]; exact did_none HM.out HB.out re)
    clear hre
    go_enter Tryz.func16, Tryz.ntmps16
    go_wp2_with fail
    refine q1.out.mono ?_
    rintro e w' ⟨rfl, rfl⟩
    go_wp2
    go_ret
    exact HP.out
end
end Go.Proofs.YtgagcncmlonciaaGreatDoor
