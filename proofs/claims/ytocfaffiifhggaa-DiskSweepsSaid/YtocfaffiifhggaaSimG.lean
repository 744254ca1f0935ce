/- Files on a machine: all that a machine holds in memory, and how it turns. -/
import Derived.Test.YtocfaffiifhggaaSimP
namespace Go.Proofs.Ytocfaffiifhggaa
open Go.RowKit Go.Maps Go.WideMaps

theorem Kept.refl (w : World) (S : Nat → Prop) : Kept w w S := ⟨rfl, rfl, rfl, Nat.le_refl _, fun _ _ _ => rfl⟩
theorem Kept.weaken {a b : World} {S T : Nat → Prop} (h : Kept a b S) (hs : ∀ k, S k → T k) : Kept a b T := ⟨h.os, h.tape, h.output, h.size, fun k hk hn => h.block k hk fun e => hn (hs k e)⟩
/-- New blocks alone. -/
theorem Kept.of_below {a b : World} {S : Nat → Prop} (h : Below a.heap.size a b) : Kept a b S := ⟨h.os, h.tape, h.output, h.size, fun k hk _ => h.block k hk⟩
theorem Kept.alloc (w : World) (o : Obj) (S : Nat → Prop) : Kept w (w.alloc o) S := Kept.of_below ((Below.refl _ w).alloc (Nat.le_refl _) o)
theorem Kept.below {a b : World} {S : Nat → Prop} {B : Nat} (h : Kept a b S) (hB : B ≤ a.heap.size) (hs : ∀ k, S k → B ≤ k) : Below B a b :=
  ⟨h.os, h.tape, h.output, h.size, fun k hk => h.block k (Nat.lt_of_lt_of_le hk hB) fun e => absurd (hs k e) (by omega)⟩

/-- A world turns, and with it what is held: what was not held is as it was; what is held that was not is new. -/
structure Turn (w w' : World) (F F' : Nat → Prop) : Prop where
  kept : Kept w w' F
  grow : ∀ k, F' k → F k ∨ w.heap.size ≤ k
theorem Turn.refl (w : World) (F : Nat → Prop) : Turn w w F F := ⟨Kept.refl w F, fun _ h => .inl h⟩
theorem Turn.trans {a b c : World} {F G H : Nat → Prop} (h : Turn a b F G) (k : Turn b c G H) : Turn a c F H :=
  ⟨⟨k.kept.os.trans h.kept.os, k.kept.tape.trans h.kept.tape, k.kept.output.trans h.kept.output, Nat.le_trans h.kept.size k.kept.size, fun i hi hn =>
    (k.kept.block i (Nat.lt_of_lt_of_le hi h.kept.size) fun e => (h.grow i e).elim hn (by omega)).trans (h.kept.block i hi hn)⟩,
   fun i hi => (k.grow i hi).elim (h.grow i) fun e => .inr (Nat.le_trans h.kept.size e)⟩
theorem Turn.of_kept {a b : World} {F : Nat → Prop} (h : Kept a b F) : Turn a b F F := ⟨h, fun _ h => .inl h⟩
theorem Turn.of_below {a b : World} {F : Nat → Prop} (h : Below a.heap.size a b) : Turn a b F F := Turn.of_kept (Kept.of_below h)

/-- What kind of block it is. -/
def tagOf : Obj → Option TypeId
  | .cells _ t _ => some t
  | _ => none
def tag (w : World) (k : Nat) : Option (Option TypeId) := (w.heap[k]?).map tagOf
theorem tag_blk {w : World} {g : Nat} {t : TypeId} {cs : Array Value} (h : Blk w g t cs) : tag w g = some (some t) := by
  unfold Blk at h
  unfold tag
  rw [h]
  rfl
theorem tag_dir {w : World} {b n : Nat} {D : DataW Unit} (h : Dir w b n D) : tag w b = some none := by
  obtain ⟨es, clock, hb, _⟩ := h
  unfold tag
  rw [hb]
  rfl
theorem tag_row {w : World} {base : Nat} {e : TypeId} {size n : Nat} {v : Value} {xs : List Value} (h : w.ownsRow base e size v n xs) {k : Nat} (hk : v.ownBlock = some k) : tag w k = some (some e) := by
  rcases h.2 with ⟨rfl, _⟩ | ⟨g, cap, cur, rfl, _, hg, _⟩
  · cases hk
  · obtain rfl : g = k := Option.some.inj hk
    unfold tag
    rw [hg]
    rfl
theorem tag_lt {w : World} {k : Nat} {x : Option TypeId} (h : tag w k = some x) : k < w.heap.size := by
  rcases Nat.lt_or_ge k w.heap.size with hlt | hge
  · exact hlt
  · unfold tag at h
    rw [Array.getElem?_eq_none hge] at h
    cases h

theorem Dir.kept {w w' : World} {b n : Nat} {D : DataW Unit} {S : Nat → Prop} (h : Dir w b n D) (k : Kept w w' S) (hS : ¬ S b) : Dir w' b n D := by
  have hlt := World.ownsMap.lt h
  obtain ⟨es, clock, hb, F, hs, hD⟩ := h
  exact ⟨es, clock, (k.block b hlt hS).trans hb, F, hs, hD⟩
theorem Dir.tight {w : World} {b n : Nat} {N : Nm} (h : Dir w b n N.data) : Dir w b N.length N.data := by
  obtain ⟨es, clock, hb, F, hs, hD⟩ := h
  refine ⟨es, clock, hb, F, ?_, hD⟩
  have : (N.map Nm.ent).length = ((es.toList.map (WideElems.rg Try.prog 9 ptrR)).foldr DataW.insert []).length := by
    have := hD
    unfold Nm.data at this
    rw [DataW.map.inj this]
  rw [length_sorted] at this
  simp at this
  omega
theorem Blk.keptK {w w' : World} {g : Nat} {t : TypeId} {cs : Array Value} {S : Nat → Prop} (h : Blk w g t cs) (k : Kept w w' S) (hS : ¬ S g) : Blk w' g t cs := (k.block g h.lt hS).trans h

/-- A machine in memory: its block, its maps, its rows. -/
structure FsIs (w : World) (G : Nat) (S : FsS) (F : Nat → Prop) (nb sb : Nat) (mv : Value) (mbs : List Nat) (chv : Nat → Value) : Prop where
  fs : FsAt w G nb sb mv S.room S.steps S.fuse S.dead
  nm : Dir w nb S.names.length S.names.data
  sy : Dir w sb S.synced.length S.synced.data
  mr : w.ownsRow 0 46 1 mv mbs.length (mbs.map fun b => .map (some b))
  ml : mbs.length = S.moves.length
  md : ∀ (i b : Nat), mbs[i]? = some b → ∃ N : Nm, S.moves[i]? = some N ∧ Dir w b N.length N.data
  fl : ∀ g, S.live g → FileAt w g (S.fl g).sy (S.fl g).nw (chv g) ∧ ChRow w 0 (chv g) (S.fl g).ch
  apart : ∀ g g' k, S.live g → S.live g' → (chv g).ownBlock = some k → (chv g').ownBlock = some k → g = g'
  new : ∀ g, w.heap.size ≤ g → S.fl g = Fl.new
  oG : F G
  oN : F nb
  oS : F sb
  oM : ∀ b ∈ mbs, F b
  oR : ∀ k, mv.ownBlock = some k → F k
  oF : ∀ g, S.live g → F g
  oC : ∀ g k, S.live g → (chv g).ownBlock = some k → F k
  lt : ∀ k, F k → k < w.heap.size

def FsMem (w : World) (G : Nat) (S : FsS) (F : Nat → Prop) : Prop := ∃ nb sb mv mbs chv, FsIs w G S F nb sb mv mbs chv

section
variable {w w' : World} {G nb sb : Nat} {S : FsS} {F : Nat → Prop} {mv : Value} {mbs : List Nat} {chv : Nat → Value}

theorem FsIs.live_lt (h : FsIs w G S F nb sb mv mbs chv) {g : Nat} (hg : S.live g) : g < w.heap.size := h.lt g (h.oF g hg)

/-- What others do leaves it as it is. -/
theorem FsIs.kept {N : Nat → Prop} (h : FsIs w G S F nb sb mv mbs chv) (k : Kept w w' N) (hN : ∀ i, F i → ¬ N i) : FsIs w' G S F nb sb mv mbs chv where
  fs := Blk.keptK h.fs k (hN _ h.oG)
  nm := h.nm.kept k (hN _ h.oN)
  sy := h.sy.kept k (hN _ h.oS)
  mr := ownsRow_kept h.mr k fun b hb => hN _ (h.oR b hb)
  ml := h.ml
  md := fun i b hb => by
    obtain ⟨N, h1, h2⟩ := h.md i b hb
    exact ⟨N, h1, h2.kept k (hN _ (h.oM b (List.mem_of_getElem? hb)))⟩
  fl := fun g hg => ⟨Blk.keptK (h.fl g hg).1 k (hN _ (h.oF g hg)), ownsRow_kept (h.fl g hg).2 k fun b hb => hN _ (h.oC g b hg hb)⟩
  apart := h.apart
  new := fun g hg => h.new g (Nat.le_trans k.size hg)
  oG := h.oG
  oN := h.oN
  oS := h.oS
  oM := h.oM
  oR := h.oR
  oF := h.oF
  oC := h.oC
  lt := fun i hi => Nat.lt_of_lt_of_le (h.lt i hi) k.size
theorem FsMem.kept {N : Nat → Prop} (h : FsMem w G S F) (k : Kept w w' N) (hN : ∀ i, F i → ¬ N i) : FsMem w' G S F := by
  obtain ⟨nb, sb, mv, mbs, chv, h⟩ := h
  exact ⟨nb, sb, mv, mbs, chv, h.kept k hN⟩
theorem FsMem.below (h : FsMem w G S F) (k : Below w.heap.size w w') : FsMem w' G S F := h.kept (Kept.of_below (S := fun _ => False) k) fun _ _ h => h
theorem FsMem.lt (h : FsMem w G S F) : ∀ k, F k → k < w.heap.size := by
  obtain ⟨nb, sb, mv, mbs, chv, h⟩ := h
  exact h.lt
theorem FsMem.gG (h : FsMem w G S F) : F G := by
  obtain ⟨nb, sb, mv, mbs, chv, h⟩ := h
  exact h.oG

theorem FsIs.tagG (h : FsIs w G S F nb sb mv mbs chv) : tag w G = some (some 49) := tag_blk h.fs
theorem FsIs.tagF (h : FsIs w G S F nb sb mv mbs chv) {g : Nat} (hg : S.live g) : tag w g = some (some 57) := tag_blk (h.fl g hg).1
theorem FsIs.tagC (h : FsIs w G S F nb sb mv mbs chv) {g k : Nat} (hg : S.live g) (hk : (chv g).ownBlock = some k) : tag w k = some (some 77) := tag_row (h.fl g hg).2 hk

/-- The machine's own block is written. -/
theorem FsIs.head {room fuse : Int} {steps : Nat} {dead : Bool} (h : FsIs w G S F nb sb mv mbs chv) (hk : w.grownBy w' (some G)) (hF : FsAt w' G nb sb mv room steps fuse dead) :
    FsIs w' G { S with room := room, steps := steps, fuse := fuse, dead := dead } F nb sb mv mbs chv := by
  have k : Kept w w' (fun i => i = G) := Kept.of_grown hk fun i hi => (Option.some.inj hi).symm
  have nG : ∀ {i : Nat} {x : Option TypeId}, tag w i = some x → x ≠ some 49 → ¬ i = G := fun h1 h2 e => by
    subst e
    rw [h.tagG] at h1
    exact h2 (Option.some.inj h1).symm
  exact {
    fs := hF
    nm := h.nm.kept k (nG (tag_dir h.nm) (by simp))
    sy := h.sy.kept k (nG (tag_dir h.sy) (by simp))
    mr := ownsRow_kept h.mr k fun b hb => nG (tag_row h.mr hb) (by simp)
    ml := h.ml
    md := fun i b hb => by
      obtain ⟨N, h1, h2⟩ := h.md i b hb
      exact ⟨N, h1, h2.kept k (nG (tag_dir h2) (by simp))⟩
    fl := fun g hg => ⟨Blk.keptK (h.fl g hg).1 k (nG (h.tagF hg) (by simp)), ownsRow_kept (h.fl g hg).2 k fun b hb => nG (h.tagC hg hb) (by simp)⟩
    apart := h.apart
    new := fun g hg => h.new g (Nat.le_trans k.size hg)
    oG := h.oG
    oN := h.oN
    oS := h.oS
    oM := h.oM
    oR := h.oR
    oF := h.oF
    oC := h.oC
    lt := fun i hi => Nat.lt_of_lt_of_le (h.lt i hi) k.size }

/-- A file is written. -/
theorem FsIs.file {g : Nat} {x : Fl} {ch' : Value} (h : FsIs w G S F nb sb mv mbs chv) (hg : S.live g) (h1 : FileAt w' g x.sy x.nw ch') (h2 : ChRow w' 0 ch' x.ch)
    (h3 : ∀ k, ch'.ownBlock = some k → (chv g).ownBlock = some k ∨ w.heap.size ≤ k) (hk : Kept w w' fun k => k = g ∨ (chv g).ownBlock = some k) :
    ∃ F', FsIs w' G (S.setFl g x) F' nb sb mv mbs (fun k => if k = g then ch' else chv k) ∧ Turn w w' F F' := by
  have nD : ∀ {i : Nat} {y : Option TypeId}, tag w i = some y → y ≠ some 57 → y ≠ some 77 → ¬ (i = g ∨ (chv g).ownBlock = some i) := fun e1 e2 e3 e => by
    rcases e with rfl | e
    · rw [h.tagF hg] at e1
      exact e2 (Option.some.inj e1).symm
    · rw [h.tagC hg e] at e1
      exact e3 (Option.some.inj e1).symm
  have nF : ∀ i, S.live i → i ≠ g → ¬ (i = g ∨ (chv g).ownBlock = some i) := fun i hi hne e => by
    rcases e with rfl | e
    · exact hne rfl
    · have := h.tagC hg e
      rw [h.tagF hi] at this
      exact absurd this (by simp)
  have nC : ∀ i k, S.live i → i ≠ g → (chv i).ownBlock = some k → ¬ (k = g ∨ (chv g).ownBlock = some k) := fun i k hi hne hik e => by
    rcases e with rfl | e
    · have := h.tagC hi hik
      rw [h.tagF hg] at this
      exact absurd this (by simp)
    · exact hne (h.apart i g k hi hg hik e)
  refine ⟨fun k => F k ∨ ch'.ownBlock = some k, ?_, ⟨hk.weaken fun k e => ?_, fun k e => ?_⟩⟩
  · exact {
      fs := Blk.keptK h.fs hk (nD h.tagG (by simp) (by simp))
      nm := h.nm.kept hk (nD (tag_dir h.nm) (by simp) (by simp))
      sy := h.sy.kept hk (nD (tag_dir h.sy) (by simp) (by simp))
      mr := ownsRow_kept h.mr hk fun b hb => nD (tag_row h.mr hb) (by simp) (by simp)
      ml := h.ml
      md := fun i b hb => by
        obtain ⟨N, e1, e2⟩ := h.md i b hb
        exact ⟨N, e1, e2.kept hk (nD (tag_dir e2) (by simp) (by simp))⟩
      fl := fun i hi => by
        by_cases e : i = g
        · subst e
          simp only [FsS.setFl, if_true]
          exact ⟨h1, h2⟩
        · simp only [FsS.setFl, e, if_false]
          exact ⟨Blk.keptK (h.fl i hi).1 hk (nF i hi e), ownsRow_kept (h.fl i hi).2 hk fun b hb => nC i b hi e hb⟩
      apart := fun i j k hi hj hik hjk => by
        have far : ∀ i, S.live i → i ≠ g → (chv i).ownBlock = some k → ch'.ownBlock = some k → False := fun i hi hne e1 e2 => by
          rcases h3 k e2 with e3 | e3
          · exact hne (h.apart i g k hi hg e1 e3)
          · have := h.lt k (h.oC i k hi e1)
            omega
        by_cases ei : i = g <;> by_cases ej : j = g
        · rw [ei, ej]
        · simp only [ei, if_true] at hik
          simp only [ej, if_false] at hjk
          exact (far j hj ej hjk hik).elim
        · simp only [ei, if_false] at hik
          simp only [ej, if_true] at hjk
          exact (far i hi ei hik hjk).elim
        · simp only [ei, ej, if_false] at hik hjk
          exact h.apart i j k hi hj hik hjk
      new := fun i hi => by
        have hgl := h.live_lt hg
        have := hk.size
        have e : ¬ i = g := by omega
        simp only [FsS.setFl, e, if_false]
        exact h.new i (by omega)
      oG := .inl h.oG
      oN := .inl h.oN
      oS := .inl h.oS
      oM := fun b hb => .inl (h.oM b hb)
      oR := fun k hk => .inl (h.oR k hk)
      oF := fun i hi => .inl (h.oF i hi)
      oC := fun i k hi e => by
        by_cases ei : i = g
        · simp only [ei, if_true] at e
          exact .inr e
        · simp only [ei, if_false] at e
          exact .inl (h.oC i k hi e)
      lt := fun i hi => by
        rcases hi with hi | hi
        · exact Nat.lt_of_lt_of_le (h.lt i hi) hk.size
        · exact tag_lt (tag_row h2 hi) }
  · rcases e with rfl | e
    · exact h.oF _ hg
    · exact h.oC g k hg e
  · rcases e with e | e
    · exact .inl e
    · rcases h3 k e with e | e
      · exact .inl (h.oC g k hg e)
      · exact .inr e

/-- The names become others, in a new map. -/
theorem FsIs.moved {N : Nm} {b : Nat} {mv' : Value} (h : FsIs w G S F nb sb mv mbs chv) (hb : w.heap.size ≤ b) (hF : FsAt w' G b sb mv' S.room S.steps S.fuse S.dead) (hD : Dir w' b N.length N.data)
    (hmv : w'.ownsRow 0 46 1 mv' (mbs.length + 1) ((mbs.map fun b => .map (some b)) ++ [.map (some b)])) (hmb : mv'.ownBlock = mv.ownBlock ∨ ∃ k, mv'.ownBlock = some k ∧ w.heap.size ≤ k)
    (hids : ∀ g ∈ N.ids, S.live g ∨ (w.heap.size ≤ g ∧ FileAt w' g [] [] (.slice none 0 0))) (hk : Kept w w' fun k => k = G ∨ mv.ownBlock = some k) :
    ∃ F' chv', FsIs w' G (S.moved N) F' b sb mv' (mbs ++ [b]) chv' ∧ Turn w w' F F' := by
  have nD : ∀ {i : Nat} {y : Option TypeId}, tag w i = some y → y ≠ some 49 → y ≠ some 46 → ¬ (i = G ∨ mv.ownBlock = some i) := fun e1 e2 e3 e => by
    rcases e with rfl | e
    · rw [h.tagG] at e1
      exact e2 (Option.some.inj e1).symm
    · rw [tag_row h.mr e] at e1
      exact e3 (Option.some.inj e1).symm
  have hlive : ∀ g, (S.moved N).live g → S.live g ∨ (w.heap.size ≤ g ∧ FileAt w' g [] [] (.slice none 0 0)) := fun g hg => by
    obtain ⟨M, hM, hg⟩ := hg
    unfold FsS.dirs FsS.moved at hM
    simp only [List.mem_cons, List.mem_append, List.not_mem_nil, or_false] at hM
    rcases hM with rfl | rfl | hM | rfl
    · exact hids g hg
    · exact .inl ⟨_, by simp [FsS.dirs], hg⟩
    · exact .inl ⟨M, by simp [FsS.dirs, hM], hg⟩
    · exact hids g hg
  have hold : ∀ g, (S.moved N).live g → g < w.heap.size → S.live g := fun g hg hlt => (hlive g hg).resolve_right fun e => by omega
  refine ⟨fun k => F k ∨ (w.heap.size ≤ k ∧ k < w'.heap.size), fun g => if g < w.heap.size then chv g else .slice none 0 0, ?_, ⟨hk.weaken fun k e => ?_, fun k e => e.imp id fun e => e.1⟩⟩
  · exact {
      fs := hF
      nm := hD
      sy := h.sy.kept hk (nD (tag_dir h.sy) (by simp) (by simp))
      mr := by
        rw [List.length_append, List.map_append]
        exact hmv
      ml := by
        rw [List.length_append, h.ml]
        simp [FsS.moved]
      md := fun i c hc => by
        rw [List.getElem?_append] at hc
        show ∃ M : Nm, (S.moves ++ [N])[i]? = some M ∧ _
        rw [List.getElem?_append]
        split at hc
        · rename_i hi
          obtain ⟨M, e1, e2⟩ := h.md i c hc
          rw [if_pos (by rw [← h.ml]; exact hi)]
          exact ⟨M, e1, e2.kept hk (nD (tag_dir e2) (by simp) (by simp))⟩
        · rename_i hi
          rw [if_neg (by rw [← h.ml]; exact hi), ← h.ml]
          generalize i - mbs.length = j at hc
          match j, hc with
          | 0, hc =>
            simp at hc
            subst hc
            exact ⟨N, rfl, hD⟩
      fl := fun g hg => by
        rcases hlive g hg with e | ⟨e1, e2⟩
        · have hlt := h.live_lt e
          simp only [hlt, if_true]
          exact ⟨Blk.keptK (h.fl g e).1 hk (nD (h.tagF e) (by simp) (by simp)), ownsRow_kept (h.fl g e).2 hk fun b hb => nD (h.tagC e hb) (by simp) (by simp)⟩
        · have hlt : ¬ g < w.heap.size := by omega
          simp only [hlt, if_false]
          have : (S.moved N).fl g = Fl.new := h.new g e1
          rw [this]
          exact ⟨e2, World.ownsRow_nil _ _ _ _⟩
      apart := fun i j k hi hj hik hjk => by
        have ei : i < w.heap.size := by
          rcases Nat.lt_or_ge i w.heap.size with e | e
          · exact e
          · simp only [show ¬ i < w.heap.size by omega, if_false] at hik
            cases hik
        have ej : j < w.heap.size := by
          rcases Nat.lt_or_ge j w.heap.size with e | e
          · exact e
          · simp only [show ¬ j < w.heap.size by omega, if_false] at hjk
            cases hjk
        simp only [ei, ej, if_true] at hik hjk
        exact h.apart i j k (hold i hi ei) (hold j hj ej) hik hjk
      new := fun g hg => h.new g (Nat.le_trans hk.size hg)
      oG := .inl h.oG
      oN := .inr ⟨hb, tag_lt (tag_dir hD)⟩
      oS := .inl h.oS
      oM := fun c hc => by
        rcases List.mem_append.1 hc with hc | hc
        · exact .inl (h.oM c hc)
        · simp at hc
          subst hc
          exact .inr ⟨hb, tag_lt (tag_dir hD)⟩
      oR := fun k hk' => by
        rcases hmb with e | ⟨j, e1, e2⟩
        · exact .inl (h.oR k (e ▸ hk'))
        · rw [e1] at hk'
          obtain rfl : j = k := Option.some.inj hk'
          exact .inr ⟨e2, tag_lt (tag_row hmv e1)⟩
      oF := fun g hg => by
        rcases hlive g hg with e | ⟨e1, e2⟩
        · exact .inl (h.oF g e)
        · exact .inr ⟨e1, Blk.lt e2⟩
      oC := fun g k hg e => by
        have ei : g < w.heap.size := by
          rcases Nat.lt_or_ge g w.heap.size with e' | e'
          · exact e'
          · simp only [show ¬ g < w.heap.size by omega, if_false] at e
            cases e
        simp only [ei, if_true] at e
        exact .inl (h.oC g k (hold g hg ei) e)
      lt := fun i hi => by
        rcases hi with hi | hi
        · exact Nat.lt_of_lt_of_le (h.lt i hi) hk.size
        · exact hi.2 }
  · rcases e with rfl | e
    · exact h.oG
    · exact h.oR k e

/-- All names become those of one map that there is; no move is left. -/
theorem FsIs.settle {N M : Nm} {nb' sb' : Nat} {room fuse : Int} {steps : Nat} {dead : Bool} (h : FsIs w G S F nb sb mv mbs chv) (hk : w.grownBy w' (some G)) (hF : FsAt w' G nb' sb' (.slice none 0 0) room steps fuse dead)
    (hN : N ∈ S.dirs) (hM : M ∈ S.dirs) (hn : F nb') (hs : F sb') (hDn : Dir w nb' N.length N.data) (hDs : Dir w sb' M.length M.data) :
    FsIs w' G { S with names := N, synced := M, moves := [], room := room, steps := steps, fuse := fuse, dead := dead } F nb' sb' (.slice none 0 0) [] chv := by
  have k : Kept w w' (fun i => i = G) := Kept.of_grown hk fun i hi => (Option.some.inj hi).symm
  have nG : ∀ {i : Nat} {x : Option TypeId}, tag w i = some x → x ≠ some 49 → ¬ i = G := fun h1 h2 e => by
    subst e
    rw [h.tagG] at h1
    exact h2 (Option.some.inj h1).symm
  have hl : ∀ g, FsS.live { S with names := N, synced := M, moves := [], room := room, steps := steps, fuse := fuse, dead := dead } g → S.live g := fun g hg => by
    obtain ⟨L, hL, hg⟩ := hg
    simp only [FsS.dirs, List.mem_cons, List.not_mem_nil, or_false] at hL
    rcases hL with rfl | rfl
    · exact ⟨_, hN, hg⟩
    · exact ⟨_, hM, hg⟩
  exact {
    fs := hF
    nm := hDn.kept k (nG (tag_dir hDn) (by simp))
    sy := hDs.kept k (nG (tag_dir hDs) (by simp))
    mr := World.ownsRow_nil _ _ _ _
    ml := rfl
    md := fun i b hb => by simp at hb
    fl := fun g hg => ⟨Blk.keptK (h.fl g (hl g hg)).1 k (nG (h.tagF (hl g hg)) (by simp)), ownsRow_kept (h.fl g (hl g hg)).2 k fun b hb => nG (h.tagC (hl g hg) hb) (by simp)⟩
    apart := fun g g' i hg hg' => h.apart g g' i (hl g hg) (hl g' hg')
    new := fun g hg => h.new g (Nat.le_trans k.size hg)
    oG := h.oG
    oN := hn
    oS := hs
    oM := fun b hb => by cases hb
    oR := fun i hi => by cases hi
    oF := fun g hg => h.oF g (hl g hg)
    oC := fun g i hg => h.oC g i (hl g hg)
    lt := fun i hi => Nat.lt_of_lt_of_le (h.lt i hi) k.size }
end
end Go.Proofs.Ytocfaffiifhggaa
