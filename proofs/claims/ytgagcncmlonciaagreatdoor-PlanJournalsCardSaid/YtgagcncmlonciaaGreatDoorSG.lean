/- Files on a machine: all that a machine holds in memory, and how it turns. Files on a machine: names become others. Files on a machine: a step that lets names be others; then each call. -/
import Derived.Test.YtgagcncmlonciaaGreatDoorGD
import Derived.Test.YtgagcncmlonciaaGreatDoorSF
import Derived.Test.YtgagcncmlonciaaGreatDoorGC
namespace Go.Proofs.YtgagcncmlonciaaGreatDoor
open Go.RowKit Go.Maps Go.WideMaps

theorem tag_dir {w : World} {b n : Nat} {D : DataW Unit} (h : Dir w b n D) : tag w b = some none := by
  obtain ⟨es, clock, hb, _⟩ := h
  unfold tag
  rw [hb]
  rfl
theorem Dir.kept {w w' : World} {b n : Nat} {D : DataW Unit} {S : Nat → Prop} (h : Dir w b n D) (k : Kept w w' S) (hS : ¬ S b) : Dir w' b n D := by
  have hlt := World.ownsMap.lt h
  obtain ⟨es, clock, hb, F, hs, hD⟩ := h
  exact ⟨es, clock, (k.block b hlt hS).trans hb, F, hs, hD⟩
theorem Dir.tight {w : World} {b n : Nat} {N : Nm} (h : Dir w b n N.data) : Dir w b N.length N.data := by
  obtain ⟨es, clock, hb, F, hs, hD⟩ := h
  refine ⟨es, clock, hb, F, ?_, hD⟩
  have : (N.map Nm.ent).length = ((es.toList.map (WideElems.rg Tryz.prog 9 ptrR)).foldr DataW.insert []).length := by
    have := hD
    unfold Nm.data at this
    rw [DataW.map.inj this]
  rw [length_sorted] at this
  simp at this
  omega
/-- A machine in memory: its block, its maps, its rows. -/
structure FsIs (w : World) (G : Nat) (S : FsS) (F : Nat → Prop) (nb sb : Nat) (mv : Value) (mbs : List Nat) (chv : Nat → Value) : Prop where
  fs : FsAt w G nb sb mv S.room S.steps S.fuse S.dead
  nm : Dir w nb S.names.length S.names.data
  sy : Dir w sb S.synced.length S.synced.data
  mr : w.ownsRow 0 47 1 mv mbs.length (mbs.map fun b => .map (some b))
  ml : mbs.length = S.moves.length
  md : ∀ (i b : Nat), mbs[i]? = some b → ∃ N : Nm, S.moves[i]? = some N ∧ Dir w b N.length N.data
  fl : ∀ g, S.live g → FileAt w g (S.fl g).sy (S.fl g).nw (chv g) ∧ ChRow w 0 (chv g) (S.fl g).ch
  apart : ∀ g g' k, S.live g → S.live g' → (chv g).ownBlock = some k → (chv g').ownBlock = some k → g = g'
  new : ∀ g, w.heap.size ≤ g → S.fl g = Fl.new
  oG : F G
  oN : F nb
  oS : F sb
  oM : ∀ b ∈ mbs, F b
  oR : ∀ k, mv.ownBlock = some k → F k
  oF : ∀ g, S.live g → F g
  oC : ∀ g k, S.live g → (chv g).ownBlock = some k → F k
  lt : ∀ k, F k → k < w.heap.size

def FsMem (w : World) (G : Nat) (S : FsS) (F : Nat → Prop) : Prop := ∃ nb sb mv mbs chv, FsIs w G S F nb sb mv mbs chv

section
variable {w w' : World} {G nb sb : Nat} {S : FsS} {F : Nat → Prop} {mv : Value} {mbs : List Nat} {chv : Nat → Value}

theorem FsIs.live_lt (h : FsIs w G S F nb sb mv mbs chv) {g : Nat} (hg : S.live g) : g < w.heap.size := h.lt g (h.oF g hg)

/-- What others do leaves it as it is. -/
theorem FsIs.kept {N : Nat → Prop} (h : FsIs w G S F nb sb mv mbs chv) (k : Kept w w' N) (hN : ∀ i, F i → ¬ N i) : FsIs w' G S F nb sb mv mbs chv where
  fs := Blk.keptK h.fs k (hN _ h.oG)
  nm := h.nm.kept k (hN _ h.oN)
  sy := h.sy.kept k (hN _ h.oS)
  mr := ownsRow_kept h.mr k fun b hb => hN _ (h.oR b hb)
  ml := h.ml
  md := fun i b hb => by
    obtain ⟨N, h1, h2⟩ := h.md i b hb
    exact ⟨N, h1, h2.kept k (hN _ (h.oM b (List.mem_of_getElem? hb)))⟩
  fl := fun g hg => ⟨Blk.keptK (h.fl g hg).1 k (hN _ (h.oF g hg)), ownsRow_kept (h.fl g hg).2 k fun b hb => hN _ (h.oC g b hg hb)⟩
  apart := h.apart
  new := fun g hg => h.new g (Nat.le_trans k.size hg)
  oG := h.oG
  oN := h.oN
  oS := h.oS
  oM := h.oM
  oR := h.oR
  oF := h.oF
  oC := h.oC
  lt := fun i hi => Nat.lt_of_lt_of_le (h.lt i hi) k.size
theorem FsMem.kept {N : Nat → Prop} (h : FsMem w G S F) (k : Kept w w' N) (hN : ∀ i, F i → ¬ N i) : FsMem w' G S F := by
  obtain ⟨nb, sb, mv, mbs, chv, h⟩ := h
  exact ⟨nb, sb, mv, mbs, chv, h.kept k hN⟩
theorem FsMem.below (h : FsMem w G S F) (k : Below w.heap.size w w') : FsMem w' G S F := h.kept (Kept.of_below (S := fun _ => False) k) fun _ _ h => h
theorem FsMem.lt (h : FsMem w G S F) : ∀ k, F k → k < w.heap.size := by
  obtain ⟨nb, sb, mv, mbs, chv, h⟩ := h
  exact h.lt
theorem FsMem.gG (h : FsMem w G S F) : F G := by
  obtain ⟨nb, sb, mv, mbs, chv, h⟩ := h
  exact h.oG

theorem FsIs.tagG (h : FsIs w G S F nb sb mv mbs chv) : tag w G = some (some 50) := tag_blk h.fs
theorem FsIs.tagF (h : FsIs w G S F nb sb mv mbs chv) {g : Nat} (hg : S.live g) : tag w g = some (some 84) := tag_blk (h.fl g hg).1
theorem FsIs.tagC (h : FsIs w G S F nb sb mv mbs chv) {g k : Nat} (hg : S.live g) (hk : (chv g).ownBlock = some k) : tag w k = some (some 258) := tag_row (h.fl g hg).2 hk

/-- The machine's own block is written. -/
theorem FsIs.head {room fuse : Int} {steps : Nat} {dead : Bool} (h : FsIs w G S F nb sb mv mbs chv) (hk : w.grownBy w' (some G)) (hF : FsAt w' G nb sb mv room steps fuse dead) :
    FsIs w' G { S with room := room, steps := steps, fuse := fuse, dead := dead } F nb sb mv mbs chv := by
  have k : Kept w w' (fun i => i = G) := Kept.of_grown hk fun i hi => (Option.some.inj hi).symm
  have nG : ∀ {i : Nat} {x : Option TypeId}, tag w i = some x → x ≠ some 50 → ¬ i = G := fun h1 h2 e => by
    subst e
    rw [h.tagG] at h1
    exact h2 (Option.some.inj h1).symm
  exact {
    fs := hF
    nm := h.nm.kept k (nG (tag_dir h.nm) (by simp))
    sy := h.sy.kept k (nG (tag_dir h.sy) (by simp))
    mr := ownsRow_kept h.mr k fun b hb => nG (tag_row h.mr hb) (by simp)
    ml := h.ml
    md := fun i b hb => by
      obtain ⟨N, h1, h2⟩ := h.md i b hb
      exact ⟨N, h1, h2.kept k (nG (tag_dir h2) (by simp))⟩
    fl := fun g hg => ⟨Blk.keptK (h.fl g hg).1 k (nG (h.tagF hg) (by simp)), ownsRow_kept (h.fl g hg).2 k fun b hb => nG (h.tagC hg hb) (by simp)⟩
    apart := h.apart
    new := fun g hg => h.new g (Nat.le_trans k.size hg)
    oG := h.oG
    oN := h.oN
    oS := h.oS
    oM := h.oM
    oR := h.oR
    oF := h.oF
    oC := h.oC
    lt := fun i hi => Nat.lt_of_lt_of_le (h.lt i hi) k.size }

/-- A file is written. -/
theorem FsIs.file {g : Nat} {x : Fl} {ch' : Value} (h : FsIs w G S F nb sb mv mbs chv) (hg : S.live g) (h1 : FileAt w' g x.sy x.nw ch') (h2 : ChRow w' 0 ch' x.ch)
    (h3 : ∀ k, ch'.ownBlock = some k → (chv g).ownBlock = some k ∨ w.heap.size ≤ k) (hk : Kept w w' fun k => k = g ∨ (chv g).ownBlock = some k) :
    ∃ F', FsIs w' G (S.setFl g x) F' nb sb mv mbs (fun k => if k = g then ch' else chv k) ∧ Turn w w' F F' := by
  have nD : ∀ {i : Nat} {y : Option TypeId}, tag w i = some y → y ≠ some 84 → y ≠ some 258 → ¬ (i = g ∨ (chv g).ownBlock = some i) := fun e1 e2 e3 e => by
    rcases e with rfl | e
    · rw [h.tagF hg] at e1
      exact e2 (Option.some.inj e1).symm
    · rw [h.tagC hg e] at e1
      exact e3 (Option.some.inj e1).symm
  have nF : ∀ i, S.live i → i ≠ g → ¬ (i = g ∨ (chv g).ownBlock = some i) := fun i hi hne e => by
    rcases e with rfl | e
    · exact hne rfl
    · have := h.tagC hg e
      rw [h.tagF hi] at this
      exact absurd this (by simp)
  have nC : ∀ i k, S.live i → i ≠ g → (chv i).ownBlock = some k → ¬ (k = g ∨ (chv g).ownBlock = some k) := fun i k hi hne hik e => by
    rcases e with rfl | e
    · have := h.tagC hi hik
      rw [h.tagF hg] at this
      exact absurd this (by simp)
    · exact hne (h.apart i g k hi hg hik e)
  refine ⟨fun k => F k ∨ ch'.ownBlock = some k, ?_, ⟨hk.weaken fun k e => ?_, fun k e => ?_⟩⟩
  · exact {
      fs := Blk.keptK h.fs hk (nD h.tagG (by simp) (by simp))
      nm := h.nm.kept hk (nD (tag_dir h.nm) (by simp) (by simp))
      sy := h.sy.kept hk (nD (tag_dir h.sy) (by simp) (by simp))
      mr := ownsRow_kept h.mr hk fun b hb => nD (tag_row h.mr hb) (by simp) (by simp)
      ml := h.ml
      md := fun i b hb => by
        obtain ⟨N, e1, e2⟩ := h.md i b hb
        exact ⟨N, e1, e2.kept hk (nD (tag_dir e2) (by simp) (by simp))⟩
      fl := fun i hi => by
        by_cases e : i = g
        · subst e
          simp only [FsS.setFl, if_true]
          exact ⟨h1, h2⟩
        · simp only [FsS.setFl, e, if_false]
          exact ⟨Blk.keptK (h.fl i hi).1 hk (nF i hi e), ownsRow_kept (h.fl i hi).2 hk fun b hb => nC i b hi e hb⟩
      apart := fun i j k hi hj hik hjk => by
        have far : ∀ i, S.live i → i ≠ g → (chv i).ownBlock = some k → ch'.ownBlock = some k → False := fun i hi hne e1 e2 => by
          rcases h3 k e2 with e3 | e3
          · exact hne (h.apart i g k hi hg e1 e3)
          · have := h.lt k (h.oC i k hi e1)
            omega
        by_cases ei : i = g <;> by_cases ej : j = g
        · rw [ei, ej]
        · simp only [ei, if_true] at hik
          simp only [ej, if_false] at hjk
          exact (far j hj ej hjk hik).elim
        · simp only [ei, if_false] at hik
          simp only [ej, if_true] at hjk
          exact (far i hi ei hik hjk).elim
        · simp only [ei, ej, if_false] at hik hjk
          exact h.apart i j k hi hj hik hjk
      new := fun i hi => by
        have hgl := h.live_lt hg
        have := hk.size
        have e : ¬ i = g := by omega
        simp only [FsS.setFl, e, if_false]
        exact h.new i (by omega)
      oG := .inl h.oG
      oN := .inl h.oN
      oS := .inl h.oS
      oM := fun b hb => .inl (h.oM b hb)
      oR := fun k hk => .inl (h.oR k hk)
      oF := fun i hi => .inl (h.oF i hi)
      oC := fun i k hi e => by
        by_cases ei : i = g
        · simp only [ei, if_true] at e
          exact .inr e
        · simp only [ei, if_false] at e
          exact .inl (h.oC i k hi e)
      lt := fun i hi => by
        rcases hi with hi | hi
        · exact Nat.lt_of_lt_of_le (h.lt i hi) hk.size
        · exact tag_lt (tag_row h2 hi) }
  · rcases e with rfl | e
    · exact h.oF _ hg
    · exact h.oC g k hg e
  · rcases e with e | e
    · exact .inl e
    · rcases h3 k e with e | e
      · exact .inl (h.oC g k hg e)
      · exact .inr e

/-- The names become others, in a new map. -/
theorem FsIs.moved {N : Nm} {b : Nat} {mv' : Value} (h : FsIs w G S F nb sb mv mbs chv) (hb : w.heap.size ≤ b) (hF : FsAt w' G b sb mv' S.room S.steps S.fuse S.dead) (hD : Dir w' b N.length N.data)
    (hmv : w'.ownsRow 0 47 1 mv' (mbs.length + 1) ((mbs.map fun b => .map (some b)) ++ [.map (some b)])) (hmb : mv'.ownBlock = mv.ownBlock ∨ ∃ k, mv'.ownBlock = some k ∧ w.heap.size ≤ k)
    (hids : ∀ g ∈ N.ids, S.live g ∨ (w.heap.size ≤ g ∧ FileAt w' g [] [] (.slice none 0 0))) (hk : Kept w w' fun k => k = G ∨ mv.ownBlock = some k) :
    ∃ F' chv', FsIs w' G (S.moved N) F' b sb mv' (mbs ++ [b]) chv' ∧ Turn w w' F F' := by
  have nD : ∀ {i : Nat} {y : Option TypeId}, tag w i = some y → y ≠ some 50 → y ≠ some 47 → ¬ (i = G ∨ mv.ownBlock = some i) := fun e1 e2 e3 e => by
    rcases e with rfl | e
    · rw [h.tagG] at e1
      exact e2 (Option.some.inj e1).symm
    · rw [tag_row h.mr e] at e1
      exact e3 (Option.some.inj e1).symm
  have hlive : ∀ g, (S.moved N).live g → S.live g ∨ (w.heap.size ≤ g ∧ FileAt w' g [] [] (.slice none 0 0)) := fun g hg => by
    obtain ⟨M, hM, hg⟩ := hg
    unfold FsS.dirs FsS.moved at hM
    simp only [List.mem_cons, List.mem_append, List.not_mem_nil, or_false] at hM
    rcases hM with rfl | rfl | hM | rfl
    · exact hids g hg
    · exact .inl ⟨_, by simp [FsS.dirs], hg⟩
    · exact .inl ⟨M, by simp [FsS.dirs, hM], hg⟩
    · exact hids g hg
  have hold : ∀ g, (S.moved N).live g → g < w.heap.size → S.live g := fun g hg hlt => (hlive g hg).resolve_right fun e => by omega
  refine ⟨fun k => F k ∨ (w.heap.size ≤ k ∧ k < w'.heap.size), fun g => if g < w.heap.size then chv g else .slice none 0 0, ?_, ⟨hk.weaken fun k e => ?_, fun k e => e.imp id fun e => e.1⟩⟩
  · exact {
      fs := hF
      nm := hD
      sy := h.sy.kept hk (nD (tag_dir h.sy) (by simp) (by simp))
      mr := by
        rw [List.length_append, List.map_append]
        exact hmv
      ml := by
        rw [List.length_append, h.ml]
        simp [FsS.moved]
      md := fun i c hc => by
        rw [List.getElem?_append] at hc
        show ∃ M : Nm, (S.moves ++ [N])[i]? = some M ∧ _
        rw [List.getElem?_append]
        split at hc
        · rename_i hi
          obtain ⟨M, e1, e2⟩ := h.md i c hc
          rw [if_pos (by rw [← h.ml]; exact hi)]
          exact ⟨M, e1, e2.kept hk (nD (tag_dir e2) (by simp) (by simp))⟩
        · rename_i hi
          rw [if_neg (by rw [← h.ml]; exact hi), ← h.ml]
          generalize i - mbs.length = j at hc
          match j, hc with
          | 0, hc =>
            simp at hc
            subst hc
            exact ⟨N, rfl, hD⟩
      fl := fun g hg => by
        rcases hlive g hg with e | ⟨e1, e2⟩
        · have hlt := h.live_lt e
          simp only [hlt, if_true]
          exact ⟨Blk.keptK (h.fl g e).1 hk (nD (h.tagF e) (by simp) (by simp)), ownsRow_kept (h.fl g e).2 hk fun b hb => nD (h.tagC e hb) (by simp) (by simp)⟩
        · have hlt : ¬ g < w.heap.size := by omega
          simp only [hlt, if_false]
          have : (S.moved N).fl g = Fl.new := h.new g e1
          rw [this]
          exact ⟨e2, World.ownsRow_nil _ _ _ _⟩
      apart := fun i j k hi hj hik hjk => by
        have ei : i < w.heap.size := by
          rcases Nat.lt_or_ge i w.heap.size with e | e
          · exact e
          · simp only [show ¬ i < w.heap.size by omega, if_false] at hik
            cases hik
        have ej : j < w.heap.size := by
          rcases Nat.lt_or_ge j w.heap.size with e | e
          · exact e
          · simp only [show ¬ j < w.heap.size by omega, if_false] at hjk
            cases hjk
        simp only [ei, ej, if_true] at hik hjk
        exact h.apart i j k (hold i hi ei) (hold j hj ej) hik hjk
      new := fun g hg => h.new g (Nat.le_trans hk.size hg)
      oG := .inl h.oG
      oN := .inr ⟨hb, tag_lt (tag_dir hD)⟩
      oS := .inl h.oS
      oM := fun c hc => by
        rcases List.mem_append.1 hc with hc | hc
        · exact .inl (h.oM c hc)
        · simp at hc
          subst hc
          exact .inr ⟨hb, tag_lt (tag_dir hD)⟩
      oR := fun k hk' => by
        rcases hmb with e | ⟨j, e1, e2⟩
        · exact .inl (h.oR k (e ▸ hk'))
        · rw [e1] at hk'
          obtain rfl : j = k := Option.some.inj hk'
          exact .inr ⟨e2, tag_lt (tag_row hmv e1)⟩
      oF := fun g hg => by
        rcases hlive g hg with e | ⟨e1, e2⟩
        · exact .inl (h.oF g e)
        · exact .inr ⟨e1, Blk.lt e2⟩
      oC := fun g k hg e => by
        have ei : g < w.heap.size := by
          rcases Nat.lt_or_ge g w.heap.size with e' | e'
          · exact e'
          · simp only [show ¬ g < w.heap.size by omega, if_false] at e
            cases e
        simp only [ei, if_true] at e
        exact .inl (h.oC g k (hold g hg ei) e)
      lt := fun i hi => by
        rcases hi with hi | hi
        · exact Nat.lt_of_lt_of_le (h.lt i hi) hk.size
        · exact hi.2 }
  · rcases e with rfl | e
    · exact h.oG
    · exact h.oR k e

/-- All names become those of one map that there is; no move is left. -/
theorem FsIs.settle {N M : Nm} {nb' sb' : Nat} {room fuse : Int} {steps : Nat} {dead : Bool} (h : FsIs w G S F nb sb mv mbs chv) (hk : w.grownBy w' (some G)) (hF : FsAt w' G nb' sb' (.slice none 0 0) room steps fuse dead)
    (hN : N ∈ S.dirs) (hM : M ∈ S.dirs) (hn : F nb') (hs : F sb') (hDn : Dir w nb' N.length N.data) (hDs : Dir w sb' M.length M.data) :
    FsIs w' G { S with names := N, synced := M, moves := [], room := room, steps := steps, fuse := fuse, dead := dead } F nb' sb' (.slice none 0 0) [] chv := by
  have k : Kept w w' (fun i => i = G) := Kept.of_grown hk fun i hi => (Option.some.inj hi).symm
  have nG : ∀ {i : Nat} {x : Option TypeId}, tag w i = some x → x ≠ some 50 → ¬ i = G := fun h1 h2 e => by
    subst e
    rw [h.tagG] at h1
    exact h2 (Option.some.inj h1).symm
  have hl : ∀ g, FsS.live { S with names := N, synced := M, moves := [], room := room, steps := steps, fuse := fuse, dead := dead } g → S.live g := fun g hg => by
    obtain ⟨L, hL, hg⟩ := hg
    simp only [FsS.dirs, List.mem_cons, List.not_mem_nil, or_false] at hL
    rcases hL with rfl | rfl
    · exact ⟨_, hN, hg⟩
    · exact ⟨_, hM, hg⟩
  exact {
    fs := hF
    nm := hDn.kept k (nG (tag_dir hDn) (by simp))
    sy := hDs.kept k (nG (tag_dir hDs) (by simp))
    mr := World.ownsRow_nil _ _ _ _
    ml := rfl
    md := fun i b hb => by simp at hb
    fl := fun g hg => ⟨Blk.keptK (h.fl g (hl g hg)).1 k (nG (h.tagF (hl g hg)) (by simp)), ownsRow_kept (h.fl g (hl g hg)).2 k fun b hb => nG (h.tagC (hl g hg) hb) (by simp)⟩
    apart := fun g g' i hg hg' => h.apart g g' i (hl g hg) (hl g' hg')
    new := fun g hg => h.new g (Nat.le_trans k.size hg)
    oG := h.oG
    oN := hn
    oS := hs
    oM := fun b hb => by cases hb
    oR := fun i hi => by cases hi
    oF := fun g hg => h.oF g (hl g hg)
    oC := fun g i hg => h.oC g i (hl g hg)
    lt := fun i hi => Nat.lt_of_lt_of_le (h.lt i hi) k.size }
end
end Go.Proofs.YtgagcncmlonciaaGreatDoor
namespace Go.Proofs.YtgagcncmlonciaaGreatDoor
open Go.RowKit Go.Maps Go.WideMaps

section
variable {w : World} {G nb sb : Nat} {S : FsS} {F : Nat → Prop} {mv : Value} {mbs : List Nat} {chv : Nat → Value}

set_option maxRecDepth 100000 in
set_option maxHeartbeats 1000000 in
theorem Fs_move_do_any {p2 p3 : Nat} {cf : FuncId} {cc : Array Value} (RN : Nm → Prop) (h : FsIs w G S F nb sb mv mbs chv) (hm : S.moves.length ≤ 1000000) (hp2 : Blk w p2 28 #[.pointer (some ⟨G, 0, none⟩)]) (hp3 : Blk w p3 255 #[.func (.func cf) #[] cc])
    (hcf : ∀ b W, (callFunc cf (#[.map (some b)] ++ cc)).run Tryz.prog W = .ok (.enter cf (#[.map (some b)] ++ cc)) W)
    (hch : ∀ w1 b, Kept w w1 (fun k => k = G) → w.heap.size ≤ b → Dir w1 b S.names.length S.names.data → Calls Tryz.prog cf (#[.map (some b)] ++ cc) w1 fun e w' => e = .returned (.tuple #[]) ∧
      ∃ N : Nm, RN N ∧ Dir w' b N.length N.data ∧ w1.grownBy w' (some b) ∧ ∀ g ∈ N.ids, S.live g ∨ (w.heap.size ≤ g ∧ FileAt w' g [] [] (.slice none 0 0))) :
    Calls Tryz.prog 203 #[.pointer (some ⟨p2, 0, none⟩), .pointer (some ⟨p3, 0, none⟩)] w fun e w' => e = .returned (.tuple #[]) ∧
      ∃ N F', RN N ∧ FsMem w' G (S.moved N) F' ∧ Turn w w' F F' := by
  obtain ⟨c0, c1, c2, c3, c4, c5, c6⟩ := h.fs.c
  have e2 : w.cell? ⟨p2, 0, none⟩ = some (.pointer (some ⟨G, 0, none⟩)) := (Blk.cell hp2 0).trans rfl
  have e3 : w.cell? ⟨p3, 0, none⟩ = some (.func (.func cf) #[] cc) := (Blk.cell hp3 0).trans rfl
  have k0 := grow_cell c0
  have k2 := grow_cell e2
  go_enter Tryz.func203, Tryz.ntmps203
  go_wp2_with fail
  refine wp_region_led (R := GrowR) (by kernel_rfl) (by kernel_rfl) rfl (by kernel_rfl) ?_
  (refine lx1 fun K hK => ?_; go_big_quiet_step (fail); refine wpQuiet_nil (hK _ ?_); clear hK K)
  (refine lx1 fun K hK => ?_; go_big_quiet_step (fail); refine wpQuiet_nil (hK _ ?_); clear hK K)
  (refine lx1 fun K hK => ?_; go_big_quiet_step (fail); refine wpQuiet_nil (hK _ ?_); clear hK K)
  (refine lx1 fun K hK => ?_; go_big_quiet_step (fail); refine wpQuiet_nil (hK _ ?_); clear hK K)
  (refine lx1 fun K hK => ?_; go_big_quiet_step (fail); refine wpQuiet_nil (hK _ ?_); clear hK K)
  refine lex_callh (f := 204) (args := #[.map (some nb)]) (r := fun x W => ∃ b, x = .map (some b) ∧ w.heap.size ≤ b ∧ Dir W b S.names.length S.names.data) ?_ (by kernel_rfl) (fun _ _ h => by cases h) (by kernel_rfl) rfl (fun _ => by go_simp) ?_ ?_
  · rintro x W W' ⟨b, rfl, hb, hD⟩ hR
    exact ⟨b, rfl, hb, hD.kept (Kept.of_below (S := fun _ => False) hR) (fun e => e)⟩
  · intro W hW
    refine (clone_any (h.nm.kept (Kept.of_below (S := fun _ => False) hW) (fun e => e))).mono ?_
    rintro e W' ⟨rfl, hD, hb⟩
    exact ⟨_, rfl, hb, _, rfl, hW.size, hD⟩
  (refine lx1 fun K hK => ?_; go_big_quiet_step (fail); refine wpQuiet_nil (hK _ ?_); clear hK K)
  (refine lx1 fun K hK => ?_; go_big_quiet_step (fail); refine wpQuiet_nil (hK _ ?_); clear hK K)
  refine lxn ?_
  intro W hW
  simp only [hideAll]
  rintro x ⟨b, rfl, hb, hD⟩
  have hFW : FsAt W G nb sb mv S.room S.steps S.fuse S.dead := Blk.below h.fs hW (Blk.lt h.fs)
  have f0 := Blk.frozen hFW 0
  have d0 : W.cell? ⟨G, 0, none⟩ = some (.map (some nb)) := (Blk.cell hFW 0).trans rfl
  have hP : FsAt (W.setCell ⟨G, 0, none⟩ (.map (some b))) G b sb mv S.room S.steps S.fuse S.dead := Blk.set_ hFW 0 (.map (some b))
  have n2 : p2 ≠ G := fun e => by
    subst e
    exact absurd ((tag_blk hp2).symm.trans h.tagG) (by simp)
  have n3 : p3 ≠ G := fun e => by
    subst e
    exact absurd ((tag_blk hp3).symm.trans h.tagG) (by simp)
  have nb : b ≠ G := fun e => by
    subst e
    exact absurd ((tag_dir hD).symm.trans (tag_blk hFW)) (by simp)
  have g2 := Blk.far (p := ⟨G, 0, none⟩) (Blk.below hp2 hW (Blk.lt hp2)) n2 (.map (some b))
  have g3 := Blk.far (p := ⟨G, 0, none⟩) (Blk.below hp3 hW (Blk.lt hp3)) n3 (.map (some b))
  have hK : Kept w (W.setCell ⟨G, 0, none⟩ (.map (some b))) (fun k => k = G) := (Kept.of_below hW).trans (Kept.of_grown (grown_set _ _ _ _) fun k hk => (Option.some.inj hk).symm)
  have hDW := hD.kept (w' := W.setCell ⟨G, 0, none⟩ (.map (some b))) (S := fun k => k = G) (Kept.of_grown (grown_set _ _ _ _) fun k hk => (Option.some.inj hk).symm) nb
  clear k0 k2 c0 c1 c2 c3 c4 c5 c6 e2 e3
  go_wp2_with fail
  generalize W.setCell ⟨G, 0, none⟩ (.map (some b)) = W1 at *
  have q0 := grow_cell ((Blk.cell hP 0).trans rfl : W1.cell? ⟨G, 0, none⟩ = some (.map (some b)))
  have q2 := grow_cell ((Blk.cell g2 0).trans rfl : W1.cell? ⟨p2, 0, none⟩ = some (.pointer (some ⟨G, 0, none⟩)))
  have q3 := grow_cell ((Blk.cell g3 0).trans rfl : W1.cell? ⟨p3, 0, none⟩ = some (.func (.func cf) #[] cc))
  refine wp_region_led (R := GrowR) (by kernel_rfl) (by kernel_rfl) rfl (by kernel_rfl) ?_
  (refine lx1 fun K hK => ?_; go_big_quiet_step (fail); refine wpQuiet_nil (hK _ ?_); clear hK K)
  (refine lx1 fun K hK => ?_; go_big_quiet_step (fail); refine wpQuiet_nil (hK _ ?_); clear hK K)
  (refine lx1 fun K hK => ?_; go_big_quiet_step (fail); refine wpQuiet_nil (hK _ ?_); clear hK K)
  (refine lx1 fun K hK => ?_; go_big_quiet_step (fail); refine wpQuiet_nil (hK _ ?_); clear hK K)
  (refine lx1 fun K hK => ?_; go_big_quiet_step (fail); refine wpQuiet_nil (hK _ ?_); clear hK K)
  refine lxn ?_
  intro W2 hW2
  simp only [hideAll]
  have hcf' := hcf b
  have Hch := Lib.hid (hch W2 b (hK.trans (Kept.of_below hW2)) hb (hDW.kept (Kept.of_below (S := fun _ => False) hW2) (fun e => e)))
  clear hch q0 q2 q3
  go_wp2_with fail
  refine Hch.out.mono ?_
  rintro e W3 ⟨rfl, N, hN, hD3, hg3, hids⟩
  have hlt := h.lt _ h.oG
  have hF3 : FsAt W3 G b sb mv S.room S.steps S.fuse S.dead := Blk.grown (Blk.below hP hW2 (Blk.lt hP)) hg3 (fun e => nb (Option.some.inj e).symm)
  have z2 := Blk.grown (Blk.below g2 hW2 (Blk.lt g2)) hg3 (fun e => by have := Blk.lt hp2; have := Option.some.inj e; omega)
  have hK3 : Kept w W3 (fun k => k = G) := (hK.trans (Kept.of_below hW2)).then_new hg3 hb
  have hrow : W3.ownsRow 0 47 1 mv mbs.length (mbs.map fun b => .map (some b)) := ownsRow_kept h.mr hK3 fun k hk e => by
    subst e
    exact absurd ((tag_row h.mr hk).symm.trans h.tagG) (by simp)
  have tG : ∀ k, mv.ownBlock = some k → k ≠ G := fun k hk e => by
    subst e
    exact absurd ((tag_row h.mr hk).symm.trans h.tagG) (by simp)
  have t2 : ∀ k, mv.ownBlock = some k → k ≠ p2 := fun k hk e => by
    subst e
    exact absurd ((tag_row h.mr hk).symm.trans (tag_blk hp2)) (by simp)
  have q0 := app_cell (row := mv.ownBlock) (fin := appendedTo W3 mv 1 mbs.length [.map (some b)]) ((Blk.cell hF3 0).trans rfl : W3.cell? ⟨G, 0, none⟩ = some (.map (some b))) (fun e => tG _ e.symm rfl)
  have q1 := app_cell (row := mv.ownBlock) (fin := appendedTo W3 mv 1 mbs.length [.map (some b)]) ((Blk.cell hF3 2).trans rfl : W3.cell? ⟨G, 2, none⟩ = some mv) (fun e => tG _ e.symm rfl)
  have q2 := app_cell (row := mv.ownBlock) (fin := appendedTo W3 mv 1 mbs.length [.map (some b)]) ((Blk.cell z2 0).trans rfl : W3.cell? ⟨p2, 0, none⟩ = some (.pointer (some ⟨G, 0, none⟩))) (fun e => t2 _ e.symm rfl)
  obtain ⟨i0, hi, hz0, hz1, hz2⟩ : ∃ i : TypeInfo, Tryz.prog.info? 47 = some i ∧ i.zero = some (.map none) ∧ i.size = 1 ∧ i.bytes = 8 := info_parts (by kernel_rfl)
  go_wp2_with fail
  refine wp_region_led (R := AppR mv.ownBlock (appendedTo W3 mv 1 mbs.length [.map (some b)])) (by kernel_rfl) (by kernel_rfl) rfl (by kernel_rfl) ?_
  (repeat (refine lx1 fun K hK => ?_); go_big_quiet_step (fail); refine wpQuiet_nil (hK _ ?_); clear hK K)
  refine lex_cells (m := 1) (news := [.map (some b)]) (fun g hg => tag_lt (tag_row hrow hg)) (by kernel_rfl) (fun _ _ h => by cases h) (by kernel_rfl) rfl 47 (fun W => by go_simp) ?_
  refine lex_app (s := 20) (x := 25) (t := 48) (e := 47) (i := i0) (z := .map none) (bytes := 8) rfl rfl rfl Tryz.underlying48 hi hz0 hz1 hz2 rfl (by decide) rfl rfl rfl hrow rfl (by simp [Value.oneCell']) ?_ ?_ (Nat.zero_le _) ?_
  · have := h.ml; unfold maxLen; omega
  · have := h.ml; omega
  (repeat (refine lx1 fun K hK => ?_); go_big_quiet_step (fail); refine wpQuiet_nil (hK _ ?_); clear hK K)
  refine lxn ?_
  rintro W4 hW4
  simp only [hideAll]
  rintro mv' ⟨hmv, hloc⟩ x ⟨p, c, rfl, hp, _⟩
  have hF4 : FsAt W4 G b sb mv S.room S.steps S.fuse S.dead := Blk.grown hF3 hW4.1 (fun e => tG _ e.symm rfl)
  have f4 := Blk.frozen hF4 2
  have d4 : W4.cell? ⟨G, 2, none⟩ = some mv := (Blk.cell hF4 2).trans rfl
  have hP5 : FsAt (W4.setCell ⟨G, 2, none⟩ mv') G b sb mv' S.room S.steps S.fuse S.dead := Blk.set_ hF4 2 mv'
  have hG3 := Blk.lt hF3
  have hmG : ∀ k, mv'.ownBlock = some k → k ≠ G := fun k hk e => by
    rcases hloc with ⟨e1, _⟩ | ⟨j, e1, e2⟩
    · exact tG k (e1 ▸ hk) e
    · rw [e1] at hk
      have := Option.some.inj hk
      omega
  have hK4 : Kept w W4 (fun k => k = G ∨ mv.ownBlock = some k) := (hK3.weaken fun k e => .inl e).trans (Kept.of_grown hW4.1 fun k e => .inr e)
  have kS : Kept W4 (W4.setCell ⟨G, 2, none⟩ mv') (fun k => k = G) := Kept.of_grown (grown_set _ _ _ _) fun k hk => (Option.some.inj hk).symm
  have old : ∀ k, mv.ownBlock = some k → k < w.heap.size := fun k hk => tag_lt (tag_row h.mr hk)
  have fin := h.moved (w' := W4.setCell ⟨G, 2, none⟩ mv') (N := N) hb hP5 ((hD3.kept (Kept.of_grown (S := fun k => mv.ownBlock = some k) hW4.1 fun k e => e) (fun e => by have := old _ e; omega)).kept kS nb)
    (ownsRow_kept hmv kS hmG) (hloc.imp (fun e => e.1) fun ⟨k, e1, e2⟩ => ⟨k, e1, Nat.le_trans hK3.size e2⟩)
    (fun g hg => (hids g hg).imp id fun ⟨e1, e2⟩ => ⟨e1, Blk.keptK (Blk.grown e2 hW4.1 (fun e => by have := old _ e.symm; omega)) kS (fun e => by omega)⟩)
    (hK4.trans (kS.weaken fun k e => .inl e))
  obtain ⟨F', chv', r1, r2⟩ := fin
  have R := Lib.hid (And.intro r1 r2)
  obtain ⟨sa, sn, sc, rfl⟩ := own_slice hmv
  clear r1 r2 hmv hloc hW4
  go_wp2_with fail
  go_end0
  exact ⟨rfl, N, F', hN, ⟨_, _, _, _, _, R.out.1⟩, R.out.2⟩
end
end Go.Proofs.YtgagcncmlonciaaGreatDoor
namespace Go.Proofs.YtgagcncmlonciaaGreatDoor
open Go.RowKit Go.Maps Go.WideMaps
attribute [local go_sem] bs_toList bs_size

theorem FsAt.steps_eq {w : World} {G nb sb : Nat} {mv : Value} {room s s' fuse : Int} {dead : Bool} (h : FsAt w G nb sb mv room s fuse dead) (e : s = s') : FsAt w G nb sb mv room s' fuse dead := e ▸ h

/-- What a step comes to. -/
def Stepped (w w' : World) (G : Nat) (S : FsS) (F : Nat → Prop) (e : Ending) (R : FsS → Prop) : Prop :=
  ∃ F', Turn w w' F F' ∧ ((S.fuse = 0 ∧ e = .returned (.int .i64 13) ∧ FsMem w' G S.die F') ∨ (S.fuse ≠ 0 ∧ e = .returned (.int .i64 0) ∧ ∃ T, R T ∧ FsMem w' G T F'))

section
variable {w : World} {G : Nat} {S : FsS} {F : Nat → Prop}

/-- A step, by what is done in it. -/
theorem Fs_step_mem (f : FuncId) (bd cp capt : Array Value) (ha : bd ++ cp = capt) (R : FsS → Prop) (hcf : ∀ W, (callFunc f capt).run Tryz.prog W = .ok (.enter f capt) W) (h : FsMem w G S F) (hok : S.ok) (hs : S.steps ≤ 500000)
    (hdo : ∀ w1, FsMem w1 G S.tick F → Kept w w1 (fun k => k = G) → Calls Tryz.prog f capt w1 fun e w' => e = .returned (.tuple #[]) ∧ ∃ T F', R T ∧ FsMem w' G T F' ∧ Turn w1 w' F F') :
    Calls Tryz.prog 97 #[.pointer (some ⟨G, 0, none⟩), .func (.func f) bd cp] w fun e w' => Stepped w w' G S F e R := by
  obtain ⟨nb, sb, mv, mbs, chv, h⟩ := h
  by_cases h0 : S.fuse = 0
  · have hF := h.fs
    rw [h0] at hF
    refine (Fs_step_dead f bd cp hF).mono ?_
    rintro e w' ⟨rfl, h1, h2⟩
    have h3 := h.head h2 h1
    refine ⟨F, Turn.of_kept (Kept.of_grown h2 fun k hk => Option.some.inj hk ▸ h.oG), .inl ⟨h0, rfl, nb, sb, mv, mbs, chv, ?_⟩⟩
    unfold FsS.die
    rw [show S = { S with fuse := 0 } by cases S; simp at h0; simp [h0]]
    exact h3
  · refine (Fs_step_any f bd cp capt ha (fun w' => ∃ T F', R T ∧ FsMem w' G T F' ∧ Turn w w' F F') hcf h.fs h0 hok.fuse1 hok.fuse2 (by omega) (by omega) ?_).mono ?_
    · intro w1 h1 h2
      have hk : Kept w w1 (fun k => k = G) := Kept.of_grown h2 fun k hk => (Option.some.inj hk).symm
      have h3 := h.head h2 (h1.steps_eq (s' := ((S.steps + 1 : Nat) : Int)) (by omega))
      refine (hdo w1 ⟨nb, sb, mv, mbs, chv, h3⟩ hk).mono ?_
      rintro e w' ⟨rfl, T, F', h4, h5, h6⟩
      exact ⟨rfl, T, F', h4, h5, (Turn.of_kept (hk.weaken fun k hk => hk ▸ h.oG)).trans h6⟩
    · rintro e w' ⟨rfl, T, F', h4, h5, h6⟩
      exact ⟨F', h6, .inr ⟨h0, rfl, T, h4, h5⟩⟩

theorem FsS.ok.tick_moves (hok : S.ok) (hs : S.steps ≤ 500000) : S.tick.moves.length ≤ 1000000 := by
  have := hok.moves
  show S.moves.length ≤ _
  omega

theorem Stepped.before {w0 : World} {e : Ending} {w' : World} {R : FsS → Prop} (hk : Below w0.heap.size w0 w) (h : Stepped w w' G S F e R) : Stepped w0 w' G S F e R := by
  obtain ⟨F', h1, h2⟩ := h
  exact ⟨F', (Turn.of_below hk).trans h1, h2⟩

set_option maxRecDepth 100000 in
theorem Fs_move_any {cf : FuncId} {cc : Array Value} (RN : Nm → Prop) (h : FsMem w G S F) (hok : S.ok) (hs : S.steps ≤ 500000)
    (hcf : ∀ b W, (callFunc cf (#[.map (some b)] ++ cc)).run Tryz.prog W = .ok (.enter cf (#[.map (some b)] ++ cc)) W)
    (hch : ∀ w1 b, Kept w w1 (fun k => k = G) → w.heap.size ≤ b → Dir w1 b S.names.length S.names.data → Calls Tryz.prog cf (#[.map (some b)] ++ cc) w1 fun e w' => e = .returned (.tuple #[]) ∧
      ∃ N : Nm, RN N ∧ Dir w' b N.length N.data ∧ w1.grownBy w' (some b) ∧ ∀ g ∈ N.ids, S.live g ∨ (w1.heap.size ≤ g ∧ FileAt w' g [] [] (.slice none 0 0))) :
    Calls Tryz.prog 152 #[.pointer (some ⟨G, 0, none⟩), .func (.func cf) #[] cc] w fun e w' => Stepped w w' G S F e fun T => ∃ N, RN N ∧ T = S.tick.moved N := by
  have hlt := h.lt
  have hb2 : Below w.heap.size w ((w.alloc (.cells #[.pointer (some ⟨G, 0, none⟩)] 28)).alloc (.cells #[.func (.func cf) #[] cc] 255)) := ((Below.refl _ w).alloc (Nat.le_refl _) _).alloc (by simp) _
  have hp2 : Blk ((w.alloc (.cells #[.pointer (some ⟨G, 0, none⟩)] 28)).alloc (.cells #[.func (.func cf) #[] cc] 255)) w.heap.size 28 #[.pointer (some ⟨G, 0, none⟩)] := Blk.alloc (Blk.new w _ _) _
  have hp3 : Blk ((w.alloc (.cells #[.pointer (some ⟨G, 0, none⟩)] 28)).alloc (.cells #[.func (.func cf) #[] cc] 255)) (w.heap.size + 1) 255 #[.func (.func cf) #[] cc] := by
    have := Blk.new (w.alloc (.cells #[.pointer (some ⟨G, 0, none⟩)] 28)) 255 #[.func (.func cf) #[] cc]
    rwa [World.size_alloc] at this
  have q : ∀ W2, Below w.heap.size w W2 → Blk W2 w.heap.size 28 #[.pointer (some ⟨G, 0, none⟩)] → Blk W2 (w.heap.size + 1) 255 #[.func (.func cf) #[] cc] →
      Calls Tryz.prog 97 #[.pointer (some ⟨G, 0, none⟩), .func (.func 203) #[] #[.pointer (some ⟨w.heap.size, 0, none⟩), .pointer (some ⟨w.heap.size + 1, 0, none⟩)]] W2 fun e w' => Stepped w w' G S F e fun T => ∃ N, RN N ∧ T = S.tick.moved N := by
    intro W2 hB hP2 hP3
    refine (Fs_step_mem 203 #[] _ _ Array.empty_append (fun T => ∃ N, RN N ∧ T = S.tick.moved N) (fun W => ?_) (h.below hB) hok hs ?_).mono fun e w' hst => hst.before hB
    · go_simp
    · rintro w1 ⟨nb, sb, mv, mbs, chv, h1⟩ hk
      have hG : G < w.heap.size := hlt _ h.gG
      refine (Fs_move_do_any (cf := cf) (cc := cc) RN h1 (hok.tick_moves hs) (Blk.keptK hP2 hk (by omega)) (Blk.keptK hP3 hk (by omega)) hcf ?_).mono ?_
      · intro w2 b hk2 hb hD
        have hkk : Kept w w2 (fun k => k = G) := ((Kept.of_below hB).trans hk).trans hk2
        refine (hch w2 b hkk (Nat.le_trans (Nat.le_trans hB.size hk.size) hb) hD).mono ?_
        rintro e w' ⟨rfl, N, hN, hD', hg, hids⟩
        exact ⟨rfl, N, hN, hD', hg, fun g hg => (hids g hg).imp id fun ⟨e1, e2⟩ => ⟨Nat.le_trans hk2.size e1, e2⟩⟩
      · rintro e w' ⟨rfl, N, F', hN, hM, hT⟩
        exact ⟨rfl, _, F', ⟨N, hN, rfl⟩, hM, hT⟩
  have Q := Lib.hid (q _ hb2 hp2 hp3)
  clear q hcf hch hb2 hp2 hp3 hlt
  go_enter Tryz.func152, Tryz.ntmps152
  go_wp2_with fail
  refine Q.out.mono ?_
  rintro e w' ⟨F', hT, hcase⟩
  rcases hcase with ⟨h0, rfl, hM⟩ | ⟨h0, rfl, T, hR, hM⟩
  · go_wp2
    go_ret
    exact ⟨F', hT, .inl ⟨h0, rfl, hM⟩⟩
  · have HR := Lib.hid hR
    clear hR
    go_wp2
    go_ret
    exact ⟨F', hT, .inr ⟨h0, rfl, T, HR.out, hM⟩⟩
end
end Go.Proofs.YtgagcncmlonciaaGreatDoor
