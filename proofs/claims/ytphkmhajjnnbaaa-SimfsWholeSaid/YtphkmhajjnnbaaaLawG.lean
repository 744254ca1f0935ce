/- Machines behind a crash; lists of bytes that a law collects. -/
import Derived.Test.YtphkmhajjnnbaaaLawRb
namespace Go.Proofs.Ytphkmhajjnnbaaa
open Go.RowKit Go.Maps Go.WideMaps Go.ChangeShapes Go.WideShapes
attribute [local go_sem] bs_toList bs_size

/-- A file all of whose bytes are synced. -/
def Fl.still (x : Fl) : Prop := x.ch = [] ∧ x.sy = x.nw
theorem Fl.survive_id {x : Fl} (h : x.still) (k n : Nat) : x.survive k n = x := by
  unfold Fl.survive
  rw [Fl.survive_still h.1]
  obtain ⟨sy, nw, ch⟩ := x
  obtain ⟨h1, h2⟩ := h
  simp only at h1 h2
  subst h1 h2
  rfl
theorem crashFl_other (ks : List Int) {g : Nat} : ∀ (N : Nm) (i : Nat) (fl : Nat → Fl), g ∉ N.ids → crashFl ks i N fl g = fl g
  | [], _, _, _ => rfl
  | p :: N, i, fl, h => by
    unfold crashFl
    rw [crashFl_other ks N (i + 1) _ (fun e => h (List.mem_cons_of_mem _ e))]
    rw [if_neg (fun e => h (by rw [e]; exact List.mem_cons_self))]
theorem crashFl_stills (ks : List Int) {g : Nat} : ∀ (N : Nm) (i : Nat) (fl : Nat → Fl), g ∈ N.ids → (crashFl ks i N fl g).still
  | [], _, _, h => by cases h
  | p :: N, i, fl, h => by
    unfold crashFl
    by_cases e : g ∈ Nm.ids N
    · exact crashFl_stills ks N (i + 1) _ e
    · rw [crashFl_other ks N (i + 1) _ e]
      rcases List.mem_cons.1 h with h | h
      · rw [if_pos h]
        exact ⟨rfl, rfl⟩
      · exact absurd h e
theorem crashFl_id (ks : List Int) : ∀ (N : Nm) (i : Nat) (fl : Nat → Fl), (∀ g ∈ N.ids, (fl g).still) → crashFl ks i N fl = fl
  | [], _, _, _ => rfl
  | p :: N, i, fl, h => by
    unfold crashFl
    have : (fun k => if k = p.2 then (fl p.2).survive (keptN ks (1 + 2 * i)) (keptN ks (2 + 2 * i)) else fl k) = fl := by
      funext k
      rw [Fl.survive_id (h p.2 List.mem_cons_self)]
      split
      · rename_i e
        rw [e]
      · rfl
    rw [this]
    exact crashFl_id ks N (i + 1) fl fun g hg => h g (List.mem_cons_of_mem _ hg)

/-- A machine whose files, and names, are all synced. -/
structure FsS.calm (S : FsS) : Prop where
  alive : S.dead = false
  moves : S.moves = []
  synced : S.synced = S.names
  still : ∀ g ∈ S.names.ids, (S.fl g).still
theorem crash_calm (S : FsS) (ks : List Int) : (S.crash ks).calm := ⟨rfl, rfl, rfl, fun _ hg => crashFl_stills ks _ 0 _ hg⟩
theorem FsS.calm.crash {S : FsS} (h : S.calm) (ks : List Int) : (S.crash ks).names = S.names ∧ (S.crash ks).fl = S.fl ∧ (S.crash ks).dead = false ∧ (S.crash ks).steps = S.steps := by
  have hd : S.crashDir ks = S.names := by
    unfold FsS.crashDir
    rw [h.moves]
    simp only [List.length_nil, Nat.zero_add, Nat.mod_one]
    exact h.synced
  refine ⟨hd, ?_, rfl, rfl⟩
  show crashFl ks 0 (S.crashDir ks) S.fl = _
  rw [hd]
  exact crashFl_id ks _ 0 _ h.still
theorem FsS.calm.read_crash {S : FsS} (h : S.calm) (ks : List Int) (l : List UInt8) : (S.crash ks).read l = S.read l := by
  obtain ⟨h1, h2, h3, _⟩ := h.crash ks
  unfold FsS.read FsS.of
  rw [h1, h2, h3, h.alive]
theorem read_there {S : FsS} (hd : S.dead = false) (hN : S.names.ok) {x : List UInt8} (hx : x ∈ S.names.keys) : (S.read x).2 = 0 := by
  obtain ⟨p, hp, rfl⟩ := List.mem_map.1 hx
  have : S.names.at p.1 = some p.2 := Nm.at_of_mem hN hp
  unfold FsS.read FsS.of
  rw [hd, this]
  rfl

/-- Names that were listed, and the bytes that were collected. -/
structure Coll (W w : World) (F : Nat → Prop) (lv : Value) (keys : List (List UInt8)) (bv : Value) (l : List (List UInt8)) : Prop where
  names : Safe w F lv keys
  row : w.ownsRow W.heap.size 9 1 bv l.length (l.map fun x => .string (bs x))
  free : ∀ k, bv.ownBlock = some k → ¬ F k
  apart : ∀ k, lv.ownBlock = some k → bv.ownBlock = some k → False

section
variable {W w w1 : World} {G : Nat} {S : FsS} {F F' : Nat → Prop} {lv bv bv' : Value} {keys l : List (List UInt8)}
theorem Coll.turn (h : Coll W w F lv keys bv l) (ht : Turn w w1 F F') : Coll W w1 F' lv keys bv l where
  names := h.names.turn ht
  row := ownsRow_kept h.row ht.kept h.free
  free := fun k hk hF => by
    have := tag_lt (tag_row h.row hk)
    rcases ht.grow k hF with e | e
    · exact h.free k hk e
    · omega
  apart := h.apart
theorem Coll.below (h : Coll W w F lv keys bv l) (hb : Below w.heap.size w w1) : Coll W w1 F lv keys bv l := h.turn (Turn.of_below hb)
theorem Coll.start (h : Safe w F lv keys) : Coll W w F lv keys (.slice none 0 0) [] := ⟨h, World.ownsRow_nil _ _ _ _, (fun k hk => by cases hk), (fun k _ hk => by cases hk)⟩
theorem Coll.push {o : Obj} {x : List UInt8} (m : Mach W w G S F) (h : Coll W w F lv keys bv l) (hown : w1.ownsRow W.heap.size 9 1 bv' (l.length + 1) ((l.map fun x => .string (bs x)) ++ [.string (bs x)]))
    (hg : (w.alloc o).grownBy w1 bv.ownBlock) (hloc : bv'.ownBlock = bv.ownBlock ∨ bv'.ownBlock = some (w.alloc o).heap.size) : Mach W w1 G S F ∧ Coll W w1 F lv keys bv' (l ++ [x]) := by
  have m1 := m.below (one_step w o)
  have h1 := h.below (one_step w o)
  have hk : Kept (w.alloc o) w1 (fun k => bv.ownBlock = some k) := Kept.of_grown hg fun k e => e
  obtain ⟨⟨base, hn⟩, hnF⟩ := h1.names
  refine ⟨⟨m1.mem.kept hk fun i hi e => h1.free i e hi, m1.bel.trans (hk.below m1.bel.size fun k hk' => ?_), m1.base, m1.ok⟩, ⟨⟨⟨base, ⟨ownsRow_kept hn.1 hk fun k e1 e2 => h1.apart k e1 e2, hn.2⟩⟩, hnF⟩, ?_, fun k hk' hF => ?_, fun k e1 e2 => ?_⟩⟩
  · rcases h1.row.2 with ⟨e, _⟩ | ⟨g, cap, cur, e, e3, _⟩
    · rw [e] at hk'; cases hk'
    · rw [e] at hk'
      obtain rfl : g = k := Option.some.inj hk'
      exact e3
  · rw [List.length_append, List.map_append]
    exact hown
  · rcases hloc with e | e
    · exact h1.free k (e ▸ hk') hF
    · rw [e] at hk'
      have := m1.mem.lt k hF
      have := Option.some.inj hk'
      omega
  · rcases hloc with e | e
    · exact h1.apart k e1 (e ▸ e2)
    · rw [e] at e2
      have := tag_lt (tag_row hn.1 e1)
      have := Option.some.inj e2
      omega
theorem Safe.cell {la : Option Addr} {lc : Nat} {j : Nat} {x : List UInt8} (h : Safe w F (.slice la l.length lc) l) (hx : l[j]? = some x) : ∃ g, la = some ⟨g, 0, none⟩ ∧ w.cell? ⟨g, j, none⟩ = some (.string (bs x)) := by
  obtain ⟨⟨base, h1⟩, _⟩ := h
  obtain ⟨a, c, e, _, _, hc⟩ := h1.form
  cases e
  exact hc j x hx
theorem Coll.cell {ba : Option Addr} {bn bc : Nat} {j : Nat} {x : List UInt8} (h : Coll W w F lv keys (.slice ba bn bc) l) (hx : l[j]? = some x) : bn = l.length ∧ ∃ g, ba = some ⟨g, 0, none⟩ ∧ w.cell? ⟨g, j, none⟩ = some (.string (bs x)) := by
  have hr := h.row
  rcases hr.2 with ⟨e, e2⟩ | ⟨g, cap, cur, e, _⟩
  · rw [List.length_eq_zero_iff.1 e2] at hx; simp at hx
  · cases e
    exact ⟨rfl, g, rfl, owned_cell hr j (by rw [List.getElem?_map, hx]; rfl)⟩
theorem Coll.form (h : Coll W w F lv keys bv l) : ∃ ba bc, bv = .slice ba l.length bc := by
  rcases h.row.2 with ⟨e, e2⟩ | ⟨g, cap, cur, e, _⟩
  · exact ⟨none, 0, by rw [e, e2]⟩
  · exact ⟨_, _, e⟩
end
theorem info_string : ∃ i : TypeInfo, Try.prog.info? 9 = some i ∧ i.zero = some (.string ⟨#[]⟩) ∧ i.size = 1 ∧ i.bytes = 16 := info_parts (by kernel_rfl)
end Go.Proofs.Ytphkmhajjnnbaaa
