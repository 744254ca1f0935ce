/- A machine in the midst of a law; lists in memory; what a crash leaves. For the layers above. -/
import Derived.Test.YtgagcncmlonciaaGreatDoorSQ
import Derived.Test.YtgagcncmlonciaaGreatDoorRead
namespace Go.Proofs.YtgagcncmlonciaaGreatDoor
open Go.RowKit Go.Maps Go.WideMaps Go.ChangeShapes Go.WideShapes Go.Deep
attribute [local go_sem] bs_toList bs_size

/-- A list of texts in memory. -/
def StrsAt (w : World) (v : Value) (l : List (List UInt8)) : Prop := ∃ (sa : Option Addr) (sc : Nat), v = .slice sa l.length sc ∧ l.length ≤ maxLen ∧ ∀ i x, l[i]? = some x → ∃ (b o : Nat), sa = some ⟨b, o, none⟩ ∧ w.cell? ⟨b, o + i, none⟩ = some (.string (bs x)) ∧ x.length ≤ maxLen

theorem TextsAt.strs {w : World} {base : Nat} {v : Value} {l : List (List UInt8)} (h : TextsAt w base v l) (hl : ∀ x ∈ l, x.length ≤ maxLen) : StrsAt w v l := by
  obtain ⟨la, lc, rfl, _, h1, h2⟩ := h.form
  refine ⟨la, lc, rfl, h1, fun i x hx => ?_⟩
  obtain ⟨g, e1, e2⟩ := h2 i x hx
  exact ⟨g, 0, e1, by rw [Nat.zero_add]; exact e2, hl x (List.mem_of_getElem? hx)⟩

theorem KeepAt.below {w w' : World} {v : Value} {ks : List Int} (h : KeepAt w v ks) (hb : Below w.heap.size w w') : KeepAt w' v ks := by
  obtain ⟨sa, sc, rfl, h1, h2⟩ := h
  refine ⟨sa, sc, rfl, h1, fun i x hx => ?_⟩
  obtain ⟨b, o, e1, e2, e3⟩ := h2 i x hx
  exact ⟨b, o, e1, (Below.cell hb (World.block_lt_of_cell? _ _ e2)).trans e2, e3⟩
theorem StrsAt.below {w w' : World} {v : Value} {l : List (List UInt8)} (h : StrsAt w v l) (hb : Below w.heap.size w w') : StrsAt w' v l := by
  obtain ⟨sa, sc, rfl, h1, h2⟩ := h
  refine ⟨sa, sc, rfl, h1, fun i x hx => ?_⟩
  obtain ⟨b, o, e1, e2, e3⟩ := h2 i x hx
  exact ⟨b, o, e1, (Below.cell hb (World.block_lt_of_cell? _ _ e2)).trans e2, e3⟩
section
variable {H : Type} {enc : TypeId × Value → H} {w : World} {base : Nat} {sp : Nat → Bool} {held : Bool}
theorem keep_of_trod {fuel : Nat} {v : Value} {x : DataW H × List MemPlace} (h : DataW.trod enc Tryz.prog w base sp held fuel 51 [v] = some x) (hv : ∃ sa sl sc, v = .slice sa sl sc) : ∃ ks, KeepAt w v ks := by
  obtain ⟨sa, sl, sc, rfl⟩ := hv
  obtain ⟨h1, L, h2, h3, h4⟩ := rows_of_trod Tryz.underlying51 (n := 1) (by kernel_rfl) (by omega) h
  obtain ⟨ks, k1, k2⟩ := exists_list (R := fun cs (z : Int) => cs = [.int .i64 z] ∧ -9223372036854775808 ≤ z ∧ z ≤ 9223372036854775807) L fun cs hc => by
    obtain ⟨m, y, hy⟩ := h4 cs hc
    obtain ⟨z, e1, _, e2⟩ := DataW.trod_int Tryz.underlying3 hy
    exact ⟨z, e1, bounds_i64 e2⟩
  refine ⟨ks, sa, sc, by rw [k1, h2], by omega, fun i z hz => ?_⟩
  obtain ⟨cs, e1, rfl, e2⟩ := k2 i z hz
  obtain ⟨_, b, o, e3, e4⟩ := h3 i _ e1
  exact ⟨b, o, e3, by simpa using e4 0 _ rfl, e2⟩

theorem strs_of_trod {fuel : Nat} {v : Value} {x : DataW H × List MemPlace} (h : DataW.trod enc Tryz.prog w base sp held fuel 34 [v] = some x) (hv : ∃ sa sl sc, v = .slice sa sl sc) : ∃ l, StrsAt w v l := by
  obtain ⟨sa, sl, sc, rfl⟩ := hv
  obtain ⟨h1, L, h2, h3, h4⟩ := rows_of_trod Tryz.underlying34 (n := 1) (by kernel_rfl) (by omega) h
  obtain ⟨ks, k1, k2⟩ := exists_list (R := fun cs (z : List UInt8) => cs = [.string (bs z)] ∧ z.length ≤ maxLen) L fun cs hc => by
    obtain ⟨m, y, hy⟩ := h4 cs hc
    obtain ⟨z, e1, _, e2⟩ := DataW.trod_string Tryz.underlying9 hy
    obtain ⟨l, rfl⟩ := bs_ex z
    rw [bs_size] at e2
    exact ⟨l, e1, e2⟩
  refine ⟨ks, sa, sc, by rw [k1, h2], by omega, fun i z hz => ?_⟩
  obtain ⟨cs, e1, rfl, e2⟩ := k2 i z hz
  obtain ⟨_, b, o, e3, e4⟩ := h3 i _ e1
  exact ⟨b, o, e3, by simpa using e4 0 _ rfl, e2⟩
end

/-- A machine in the midst of a law. -/
structure Mach (W w : World) (G : Nat) (S : FsS) (F : Nat → Prop) : Prop where
  mem : FsMem w G S F
  bel : Below W.heap.size W w
  base : ∀ k, F k → W.heap.size ≤ k
  ok : S.ok
section
variable {W w w' : World} {G : Nat} {S T : FsS} {F F' : Nat → Prop}
theorem Mach.turn (m : Mach W w G S F) (h : FsMem w' G T F') (ht : Turn w w' F F') (hok : T.ok) : Mach W w' G T F' :=
  ⟨h, m.bel.trans (ht.kept.below m.bel.size m.base), fun k hk => (ht.grow k hk).elim (m.base k) fun e => Nat.le_trans m.bel.size e, hok⟩
theorem Mach.below (m : Mach W w G S F) (h : Below w.heap.size w w') : Mach W w' G S F := ⟨m.mem.below h, m.bel.trans (h.mono m.bel.size), m.base, m.ok⟩
theorem Mach.did {e : Ending} {x : FsS × Int} (m : Mach W w G S F) (h : Did w w' G F e x) (hok : x.1.ok) : ∃ F', Mach W w' G x.1 F' := by
  obtain ⟨F', h1, _, h3⟩ := h
  exact ⟨F', m.turn h3 h1 hok⟩
end

theorem nil_keep (w : World) : KeepAt w (.slice none 0 0) [] := ⟨none, 0, rfl, by simp, fun i x h => by simp at h⟩

/-- A list that is kept while a machine turns. -/
def Safe (w : World) (F : Nat → Prop) (v : Value) (l : List (List UInt8)) : Prop := (∃ base, TextsAt w base v l) ∧ ∀ k, v.ownBlock = some k → ¬ F k
theorem Safe.turn {w w' : World} {F F' : Nat → Prop} {v : Value} {l : List (List UInt8)} (h : Safe w F v l) (ht : Turn w w' F F') : Safe w' F' v l := by
  obtain ⟨⟨base, h1⟩, h2⟩ := h
  refine ⟨⟨base, h1.turn ht h2⟩, fun k hk hF => ?_⟩
  have := tag_lt (tag_row h1.1 hk)
  rcases ht.grow k hF with e | e
  · exact h2 k hk e
  · omega
theorem Safe.below {w w' : World} {F : Nat → Prop} {v : Value} {l : List (List UInt8)} (h : Safe w F v l) (hb : Below w.heap.size w w') : Safe w' F v l := h.turn (Turn.of_below hb)
theorem Safe.strs {w : World} {F : Nat → Prop} {v : Value} {N : Nm} (h : Safe w F v N.keys) (hN : N.ok) : StrsAt w v N.keys := by
  obtain ⟨⟨base, h1⟩, _⟩ := h
  exact h1.strs fun x hx => by
    obtain ⟨p, hp, rfl⟩ := List.mem_map.1 hx
    have := hN.3 p hp
    unfold maxLen
    omega
theorem Safe.len {w : World} {F : Nat → Prop} {v : Value} {l : List (List UInt8)} (h : Safe w F v l) : ∃ a c, v = .slice a l.length c := by
  obtain ⟨⟨base, h1⟩, _⟩ := h
  obtain ⟨a, c, e, _⟩ := h1.form
  exact ⟨a, c, e⟩
theorem Mach.list {W w : World} {G : Nat} {S : FsS} {F : Nat → Prop} (m : Mach W w G S F) :
    Calls Tryz.prog 55 #[.pointer (some ⟨G, 0, none⟩)] w fun e w' => ∃ v, e = .returned v ∧ Safe w' F v S.names.keys ∧ Mach W w' G S F ∧ Below w.heap.size w w' := by
  refine (Fs_List_mem m.mem m.ok).mono ?_
  rintro e w' ⟨⟨v, rfl, hT⟩, hb⟩
  obtain ⟨_, _, _, hbase, _⟩ := hT.form
  exact ⟨v, rfl, ⟨⟨_, hT⟩, fun k hk hF => by have := m.mem.lt k hF; have := hbase k hk; omega⟩, m.below hb, hb⟩

theorem size_le {S : FsS} (hok : S.ok) (hs : S.steps ≤ 500000) : S.size ≤ 35184372088832 := by
  have := size_bound hok hs (fun _ => false)
  rwa [sumDone_end _ _ _ (fun _ => rfl)] at this
theorem Mach.size {W w : World} {G : Nat} {S : FsS} {F : Nat → Prop} (m : Mach W w G S F) (hs : S.steps ≤ 500000) :
    Calls Tryz.prog 156 #[.pointer (some ⟨G, 0, none⟩)] w fun e w' => e = .returned (.int .i64 (S.size : Int)) ∧ Mach W w' G S F ∧ Below w.heap.size w w' := by
  refine (Fs_Size_mem m.mem m.ok hs).mono ?_
  rintro e w' ⟨rfl, hb⟩
  exact ⟨rfl, m.below hb, hb⟩

theorem Mach.read {W w : World} {G : Nat} {S : FsS} {F : Nat → Prop} (m : Mach W w G S F) (l : List UInt8) (hl : l.length ≤ 1048576) :
    Calls Tryz.prog 10 #[.pointer (some ⟨G, 0, none⟩), .string (bs l)] w fun e w' => e = .returned (.tuple #[.string (bs (S.read l).1), .int .i64 (S.read l).2]) ∧ w = w' := Fs_Read_mem m.mem l hl

/-- One file has other bytes. -/
theorem sizeIn_set (fl : Nat → Fl) (x : Fl) (g : Nat) : ∀ (N : Nm), (N.Pairwise fun p q => p.2 ≠ q.2) → g ∈ N.ids → sizeIn (fun k => if k = g then x else fl k) N + (fl g).nw.length = sizeIn fl N + x.nw.length
  | [], _, h => by cases h
  | p :: r, hp, h => by
    obtain ⟨h1, h2⟩ := List.pairwise_cons.1 hp
    unfold sizeIn
    simp only [List.map_cons, List.sum_cons]
    by_cases e : p.2 = g
    · have hr : (r.map fun q => ((if q.2 = g then x else fl q.2) : Fl).nw.length) = r.map fun q => (fl q.2).nw.length := List.map_congr_left fun q hq => by
        rw [if_neg]
        intro e2
        exact h1 q hq (by rw [e, e2])
      rw [hr, e, if_pos rfl]
      omega
    · have hm : g ∈ Nm.ids r := by
        rcases List.mem_cons.1 h with h | h
        · exact absurd h.symm e
        · exact h
      have : (r.map fun q => ((if q.2 = g then x else fl q.2) : Fl).nw.length).sum + (fl g).nw.length = (r.map fun q => (fl q.2).nw.length).sum + x.nw.length := sizeIn_set fl x g r h2 hm
      rw [if_neg e]
      omega

def lenAt (fl : Nat → Fl) (N : Nm) (l : List UInt8) : Nat := match N.at l with | some g => (fl g).nw.length | none => 0
theorem sizeIn_ins (fl : Nat → Fl) (x : List UInt8 × Nat) : ∀ N : Nm, sizeIn fl (Nm.ins x N) = (fl x.2).nw.length + sizeIn fl N
  | [] => rfl
  | y :: r => by
    unfold Nm.ins
    split
    · rfl
    · have := sizeIn_ins fl x r
      unfold sizeIn at *
      simp only [List.map_cons, List.sum_cons, this]
      omega
theorem sizeIn_del (fl : Nat → Fl) (l : List UInt8) : ∀ N : Nm, (N.Pairwise fun p q => bytesBefore p.1 q.1 = true) → sizeIn fl (N.del l) + lenAt fl N l = sizeIn fl N
  | [], _ => rfl
  | p :: r, h => by
    obtain ⟨h1, h2⟩ := List.pairwise_cons.1 h
    have ih := sizeIn_del fl l r h2
    unfold Nm.del sizeIn lenAt Nm.at at *
    rw [List.filter_cons, List.find?_cons]
    by_cases e : p.1 = l
    · have hn : r.find? (fun q => q.1 == l) = none := by
        rw [List.find?_eq_none]
        intro q hq e2
        have e3 : q.1 = l := by simpa using e2
        have := h1 q hq
        rw [e, e3] at this
        exact before_irrefl _ this
      rw [hn] at ih
      simp only [e, beq_self_eq_true, Bool.not_true, Option.map_none] at ih ⊢
      simp only [List.map_cons, List.sum_cons, Option.map_some, Bool.false_eq_true, if_false]
      omega
    · have hb : (p.1 == l) = false := by simpa using e
      simp only [hb, Bool.not_false, if_true, List.map_cons, List.sum_cons]
      omega
theorem sizeIn_put (fl : Nat → Fl) (l : List UInt8) (g : Nat) (N : Nm) (h : N.Pairwise fun p q => bytesBefore p.1 q.1 = true) : sizeIn fl (N.put l g) + lenAt fl N l = sizeIn fl N + (fl g).nw.length := by
  have := sizeIn_del fl l N h
  unfold Nm.put
  rw [sizeIn_ins]
  show (fl g).nw.length + _ + _ = _
  omega

/-- A file all of whose bytes are synced. -/
def Fl.still (x : Fl) : Prop := x.ch = [] ∧ x.sy = x.nw
theorem Fl.survive_id {x : Fl} (h : x.still) (k n : Nat) : x.survive k n = x := by
  unfold Fl.survive
  rw [Fl.survive_still h.1]
  obtain ⟨sy, nw, ch⟩ := x
  obtain ⟨h1, h2⟩ := h
  simp only at h1 h2
  subst h1 h2
  rfl
theorem crashFl_other (ks : List Int) {g : Nat} : ∀ (N : Nm) (i : Nat) (fl : Nat → Fl), g ∉ N.ids → crashFl ks i N fl g = fl g
  | [], _, _, _ => rfl
  | p :: N, i, fl, h => by
    unfold crashFl
    rw [crashFl_other ks N (i + 1) _ (fun e => h (List.mem_cons_of_mem _ e))]
    rw [if_neg (fun e => h (by rw [e]; exact List.mem_cons_self))]
theorem crashFl_stills (ks : List Int) {g : Nat} : ∀ (N : Nm) (i : Nat) (fl : Nat → Fl), g ∈ N.ids → (crashFl ks i N fl g).still
  | [], _, _, h => by cases h
  | p :: N, i, fl, h => by
    unfold crashFl
    by_cases e : g ∈ Nm.ids N
    · exact crashFl_stills ks N (i + 1) _ e
    · rw [crashFl_other ks N (i + 1) _ e]
      rcases List.mem_cons.1 h with h | h
      · rw [if_pos h]
        exact ⟨rfl, rfl⟩
      · exact absurd h e
theorem crashFl_id (ks : List Int) : ∀ (N : Nm) (i : Nat) (fl : Nat → Fl), (∀ g ∈ N.ids, (fl g).still) → crashFl ks i N fl = fl
  | [], _, _, _ => rfl
  | p :: N, i, fl, h => by
    unfold crashFl
    have : (fun k => if k = p.2 then (fl p.2).survive (keptN ks (1 + 2 * i)) (keptN ks (2 + 2 * i)) else fl k) = fl := by
      funext k
      rw [Fl.survive_id (h p.2 List.mem_cons_self)]
      split
      · rename_i e
        rw [e]
      · rfl
    rw [this]
    exact crashFl_id ks N (i + 1) fl fun g hg => h g (List.mem_cons_of_mem _ hg)

/-- A machine whose files, and names, are all synced. -/
structure FsS.calm (S : FsS) : Prop where
  alive : S.dead = false
  moves : S.moves = []
  synced : S.synced = S.names
  still : ∀ g ∈ S.names.ids, (S.fl g).still
theorem crash_calm (S : FsS) (ks : List Int) : (S.crash ks).calm := ⟨rfl, rfl, rfl, fun _ hg => crashFl_stills ks _ 0 _ hg⟩
theorem FsS.calm.crash {S : FsS} (h : S.calm) (ks : List Int) : (S.crash ks).names = S.names ∧ (S.crash ks).fl = S.fl ∧ (S.crash ks).dead = false ∧ (S.crash ks).steps = S.steps := by
  have hd : S.crashDir ks = S.names := by
    unfold FsS.crashDir
    rw [h.moves]
    simp only [List.length_nil, Nat.zero_add, Nat.mod_one]
    exact h.synced
  refine ⟨hd, ?_, rfl, rfl⟩
  show crashFl ks 0 (S.crashDir ks) S.fl = _
  rw [hd]
  exact crashFl_id ks _ 0 _ h.still
theorem FsS.calm.read_crash {S : FsS} (h : S.calm) (ks : List Int) (l : List UInt8) : (S.crash ks).read l = S.read l := by
  obtain ⟨h1, h2, h3, _⟩ := h.crash ks
  unfold FsS.read FsS.of
  rw [h1, h2, h3, h.alive]
theorem read_there {S : FsS} (hd : S.dead = false) (hN : S.names.ok) {x : List UInt8} (hx : x ∈ S.names.keys) : (S.read x).2 = 0 := by
  obtain ⟨p, hp, rfl⟩ := List.mem_map.1 hx
  have : S.names.at p.1 = some p.2 := Nm.at_of_mem hN hp
  unfold FsS.read FsS.of
  rw [hd, this]
  rfl

/-- Names that were listed, and the bytes that were collected. -/
structure Coll (W w : World) (F : Nat → Prop) (lv : Value) (keys : List (List UInt8)) (bv : Value) (l : List (List UInt8)) : Prop where
  names : Safe w F lv keys
  row : w.ownsRow W.heap.size 9 1 bv l.length (l.map fun x => .string (bs x))
  free : ∀ k, bv.ownBlock = some k → ¬ F k
  apart : ∀ k, lv.ownBlock = some k → bv.ownBlock = some k → False

section
variable {W w w1 : World} {G : Nat} {S : FsS} {F F' : Nat → Prop} {lv bv bv' : Value} {keys l : List (List UInt8)}
theorem Coll.turn (h : Coll W w F lv keys bv l) (ht : Turn w w1 F F') : Coll W w1 F' lv keys bv l where
  names := h.names.turn ht
  row := ownsRow_kept h.row ht.kept h.free
  free := fun k hk hF => by
    have := tag_lt (tag_row h.row hk)
    rcases ht.grow k hF with e | e
    · exact h.free k hk e
    · omega
  apart := h.apart
theorem Coll.below (h : Coll W w F lv keys bv l) (hb : Below w.heap.size w w1) : Coll W w1 F lv keys bv l := h.turn (Turn.of_below hb)
theorem Coll.start (h : Safe w F lv keys) : Coll W w F lv keys (.slice none 0 0) [] := ⟨h, World.ownsRow_nil _ _ _ _, (fun k hk => by cases hk), (fun k _ hk => by cases hk)⟩
theorem Coll.push {o : Obj} {x : List UInt8} (m : Mach W w G S F) (h : Coll W w F lv keys bv l) (hown : w1.ownsRow W.heap.size 9 1 bv' (l.length + 1) ((l.map fun x => .string (bs x)) ++ [.string (bs x)]))
    (hg : (w.alloc o).grownBy w1 bv.ownBlock) (hloc : bv'.ownBlock = bv.ownBlock ∨ bv'.ownBlock = some (w.alloc o).heap.size) : Mach W w1 G S F ∧ Coll W w1 F lv keys bv' (l ++ [x]) := by
  have m1 := m.below (one_step w o)
  have h1 := h.below (one_step w o)
  have hk : Kept (w.alloc o) w1 (fun k => bv.ownBlock = some k) := Kept.of_grown hg fun k e => e
  obtain ⟨⟨base, hn⟩, hnF⟩ := h1.names
  refine ⟨⟨m1.mem.kept hk fun i hi e => h1.free i e hi, m1.bel.trans (hk.below m1.bel.size fun k hk' => ?_), m1.base, m1.ok⟩, ⟨⟨⟨base, ⟨ownsRow_kept hn.1 hk fun k e1 e2 => h1.apart k e1 e2, hn.2⟩⟩, hnF⟩, ?_, fun k hk' hF => ?_, fun k e1 e2 => ?_⟩⟩
  · rcases h1.row.2 with ⟨e, _⟩ | ⟨g, cap, cur, e, e3, _⟩
    · rw [e] at hk'; cases hk'
    · rw [e] at hk'
      obtain rfl : g = k := Option.some.inj hk'
      exact e3
  · rw [List.length_append, List.map_append]
    exact hown
  · rcases hloc with e | e
    · exact h1.free k (e ▸ hk') hF
    · rw [e] at hk'
      have := m1.mem.lt k hF
      have := Option.some.inj hk'
      omega
  · rcases hloc with e | e
    · exact h1.apart k e1 (e ▸ e2)
    · rw [e] at e2
      have := tag_lt (tag_row hn.1 e1)
      have := Option.some.inj e2
      omega
theorem Safe.cell {la : Option Addr} {lc : Nat} {j : Nat} {x : List UInt8} (h : Safe w F (.slice la l.length lc) l) (hx : l[j]? = some x) : ∃ g, la = some ⟨g, 0, none⟩ ∧ w.cell? ⟨g, j, none⟩ = some (.string (bs x)) := by
  obtain ⟨⟨base, h1⟩, _⟩ := h
  obtain ⟨a, c, e, _, _, hc⟩ := h1.form
  cases e
  exact hc j x hx
theorem Coll.cell {ba : Option Addr} {bn bc : Nat} {j : Nat} {x : List UInt8} (h : Coll W w F lv keys (.slice ba bn bc) l) (hx : l[j]? = some x) : bn = l.length ∧ ∃ g, ba = some ⟨g, 0, none⟩ ∧ w.cell? ⟨g, j, none⟩ = some (.string (bs x)) := by
  have hr := h.row
  rcases hr.2 with ⟨e, e2⟩ | ⟨g, cap, cur, e, _⟩
  · rw [List.length_eq_zero_iff.1 e2] at hx; simp at hx
  · cases e
    exact ⟨rfl, g, rfl, owned_cell hr j (by rw [List.getElem?_map, hx]; rfl)⟩
theorem Coll.form (h : Coll W w F lv keys bv l) : ∃ ba bc, bv = .slice ba l.length bc := by
  rcases h.row.2 with ⟨e, e2⟩ | ⟨g, cap, cur, e, _⟩
  · exact ⟨none, 0, by rw [e, e2]⟩
  · exact ⟨_, _, e⟩
end
theorem info_string : ∃ i : TypeInfo, Tryz.prog.info? 9 = some i ∧ i.zero = some (.string ⟨#[]⟩) ∧ i.size = 1 ∧ i.bytes = 16 := info_parts (by kernel_rfl)
end Go.Proofs.YtgagcncmlonciaaGreatDoor
