/- Arguments that are slices, read as plain lists. Over any program. Arguments of the laws of layer 10, read as plain lists; and what the laws ask of them first. The law WalNothing: the walk. -/
import Derived.Test.YtipdeiiipdnacaaGreatGA
import Derived.Deep.Slices
import Derived.ChangeArms
import Derived.OpenShut
import Derived.Test.YtipdeiiipdnacaaGreatGE
import Derived.Test.YtipdeiiipdnacaaGreatGL
namespace Go.Proofs.YtipdeiiipdnacaaGreat
open Go.RowKit Go.ChangeShapes Go.WideShapes Go.Deep

theorem exists_list {α β : Type} {R : α → β → Prop} : ∀ (L : List α), (∀ x ∈ L, ∃ y, R x y) → ∃ l : List β, l.length = L.length ∧ ∀ (i : Nat) y, l[i]? = some y → ∃ x, L[i]? = some x ∧ R x y
  | [], _ => ⟨[], rfl, fun i y h => by simp at h⟩
  | x :: L, h => by
    obtain ⟨y, hy⟩ := h x (by simp)
    obtain ⟨l, h1, h2⟩ := exists_list L fun x hx => h x (by simp [hx])
    refine ⟨y :: l, by simp [h1], fun i z hz => ?_⟩
    cases i with
    | zero =>
      obtain rfl : y = z := by simpa using hz
      exact ⟨x, rfl, hy⟩
    | succ i => simpa using h2 i z (by simpa using hz)

section
variable {H : Type} {enc : TypeId × Value → H} {P : Program} {w : World} {base : Nat} {sp : Nat → Bool} {held : Bool}

/-- The elements of a slice, each as its cells. -/
theorem rows_of_trod {t e n : Nat} {fuel : Nat} {sa : Option Addr} {sl sc : Nat} {x : DataW H × List MemPlace} (ht : P.underlying t = some (.slice e)) (hn : P.cellsOf e = n) (hpos : 0 < n)
    (h : DataW.trod enc P w base sp held fuel t [.slice sa sl sc] = some x) :
    sl ≤ maxLen ∧ ∃ L : List (List Value), L.length = sl ∧ (∀ (i : Nat) cs, L[i]? = some cs → cs.length = n ∧ ∃ b o, sa = some ⟨b, o, none⟩ ∧ ∀ (j : Nat) u, cs[j]? = some u → w.cell? ⟨b, o + i * n + j, none⟩ = some u) ∧
      ∀ cs ∈ L, ∃ m y, DataW.trod enc P w base sp held m e cs = some y := by
  rcases open_slice ht h with ⟨h0, _⟩ | ⟨a, len, cap, m, k, D, Pl, h0, hb, hl, hm, hmm, rfl, hx⟩
  · simp only [List.cons.injEq, Value.slice.injEq, and_true] at h0
    obtain ⟨rfl, rfl, rfl⟩ := h0
    exact ⟨by simp, [], rfl, fun i cs h => by simp at h, fun cs h => by cases h⟩
  · simp only [List.cons.injEq, Value.slice.injEq, and_true] at h0
    obtain ⟨rfl, rfl, rfl⟩ := h0
    have hlm : sl ≤ m := by rw [hmm]; split <;> omega
    have each : ∀ i ∈ List.range sl, ∃ cs : List Value, (w.cells? base (a.add (i * n)) n = some cs) ∧ ∃ m y, DataW.trod enc P w base sp held m e cs = some y := fun i hi => by
      obtain ⟨cs, h1, h2⟩ := hx i (by have := List.mem_range.1 hi; omega)
      rw [hn] at h1
      exact ⟨cs, h1, k, _, h2⟩
    have hspot0 : 0 < sl → a.spot = none := fun h0 => by
      obtain ⟨cs, h1, _⟩ := hx 0 (by omega)
      rw [hn] at h1
      obtain ⟨_, hlen, hcell⟩ := World.cells?_some h1
      have h3 := hcell 0 hpos
      rw [List.getElem?_eq_getElem (by omega)] at h3
      simpa [Addr.add] using World.cell?_spot h3
    obtain ⟨L, h1, h2⟩ := exists_list (List.range sl) each
    refine ⟨by omega, L, by simpa using h1, fun i cs hi => ?_, fun cs hc => ?_⟩
    · obtain ⟨i', e1, e2, _⟩ := h2 i cs hi
      have hlt : i < sl := by
        have := (List.getElem?_eq_some_iff.1 hi).1
        simpa [h1] using this
      obtain rfl : i = i' := by simpa [hlt] using e1
      obtain ⟨_, hlen, hcell⟩ := World.cells?_some e2
      obtain ⟨b, o, spot⟩ := a
      have hspot : spot = none := hspot0 (by omega)
      subst hspot
      refine ⟨hlen, b, o, rfl, fun j u hj => ?_⟩
      have hjl : j < cs.length := (List.getElem?_eq_some_iff.1 hj).1
      have h4 := hcell j (by omega)
      rw [add_add, Addr.add_lit] at h4
      rw [show o + i * n + j = o + (i * n + j) by omega, h4, hj]
    · obtain ⟨i, hi⟩ := List.getElem?_of_mem hc
      obtain ⟨_, _, _, e3⟩ := h2 i cs hi
      exact e3

/-- All fields are one cell wide, one behind the other. -/
def flatB (P : Program) (fs : Array Field) : Bool := (List.range fs.size).all fun i => match fs[i]? with
  | some f => decide (f.offset = i) && decide (P.cellsOf f.type = 1)
  | none => true
theorem trod_flat {t fuel : Nat} {fs : Array Field} {cs : List Value} {x : DataW H × List MemPlace} (ht : P.underlying t = some (.struct fs)) (hB : flatB P fs = true) (hc : P.cellsOf t = fs.size) (h : DataW.trod enc P w base sp held fuel t cs = some x) :
    cs.length = fs.size ∧ ∃ k, ∀ (i : Nat) f v, fs[i]? = some f → cs[i]? = some v → ∃ y, DataW.trod enc P w base sp held k f.type [v] = some y := by
  obtain ⟨xs, k, _, _, hlen, hxl, hf⟩ := DataW.trod_struct ht h
  refine ⟨hlen.trans hc, k, fun i f v hi hv => ?_⟩
  have hlt : i < fs.size := (Array.getElem?_eq_some_iff.1 hi).1
  unfold flatB at hB
  have := List.all_eq_true.1 hB i (List.mem_range.2 hlt)
  rw [hi] at this
  simp only [Bool.and_eq_true, decide_eq_true_eq] at this
  have h1 := hf i f hi
  rw [this.1, this.2] at h1
  have hvl : i < cs.length := (List.getElem?_eq_some_iff.1 hv).1
  have h2 : (cs.drop i).take 1 = [v] := by
    rw [List.drop_eq_getElem_cons hvl]
    have : cs[i] = v := by rw [List.getElem?_eq_getElem hvl] at hv; exact Option.some.inj hv
    simp [this]
  rw [h2] at h1
  rw [List.getElem?_eq_getElem (by rw [hxl]; exact hlt)] at h1
  exact ⟨_, h1⟩
end
end Go.Proofs.YtipdeiiipdnacaaGreat
namespace Go.Proofs.YtipdeiiipdnacaaGreat
open Go.RowKit Go.Maps Go.WideMaps Go.ChangeShapes Go.WideShapes Go.Deep
attribute [local go_sem] bs_toList bs_size

/-- Labels, as many and as long as they may come. -/
def LabsOpen (w : World) (v : Value) (L : List Lb) : Prop :=
  ∃ a c, v = .slice a L.length c ∧ L.length ≤ maxLen ∧ ∀ (i : Nat) x, L[i]? = some x → ∃ b o, a = some ⟨b, o, none⟩ ∧ w.cell? ⟨b, o + i * 2, none⟩ = some (.string (bs x.1)) ∧ w.cell? ⟨b, o + i * 2 + 1, none⟩ = some (.string (bs x.2)) ∧ x.1.length ≤ maxLen ∧ x.2.length ≤ maxLen
def RecOpen (w : World) (b o : Nat) (x : Rc) : Prop := x.ok ∧ ∃ sl, w.cell? ⟨b, o, none⟩ = some (.int .i64 x.kind) ∧ w.cell? ⟨b, o + 1, none⟩ = some sl ∧ LabsOpen w sl x.labels ∧ w.cell? ⟨b, o + 2, none⟩ = some (.int .i64 x.t) ∧ w.cell? ⟨b, o + 3, none⟩ = some (.int .i64 x.u) ∧ w.cell? ⟨b, o + 4, none⟩ = some (.int .u64 (x.v : Int))
def RecsOpen (w : World) (v : Value) (R : List Rc) : Prop :=
  ∃ a c, v = .slice a R.length c ∧ R.length ≤ maxLen ∧ ∀ (i : Nat) x, R[i]? = some x → ∃ b o, a = some ⟨b, o, none⟩ ∧ RecOpen w b (o + i * 5) x
def KeysOpen (w : World) (v : Value) (K : List (List UInt8)) : Prop :=
  ∃ a c, v = .slice a K.length c ∧ K.length ≤ maxLen ∧ ∀ (i : Nat) x, K[i]? = some x → ∃ b o, a = some ⟨b, o, none⟩ ∧ w.cell? ⟨b, o + i, none⟩ = some (.string (bs x)) ∧ x.length ≤ maxLen
theorem LabsOpen.below {w w' : World} {v : Value} {L : List Lb} (h : LabsOpen w v L) (hb : Below w.heap.size w w') : LabsOpen w' v L := by
  obtain ⟨a, c, h1, h2, h3⟩ := h
  refine ⟨a, c, h1, h2, fun i x hx => ?_⟩
  obtain ⟨b, o, h4, h5, h6, h7⟩ := h3 i x hx
  have f : ∀ {p : Addr} {v : Value}, w.cell? p = some v → w'.cell? p = some v := fun h => (Below.cell hb (World.block_lt_of_cell? _ _ h)).trans h
  exact ⟨b, o, h4, f h5, f h6, h7⟩
theorem RecsOpen.below {w w' : World} {v : Value} {R : List Rc} (h : RecsOpen w v R) (hb : Below w.heap.size w w') : RecsOpen w' v R := by
  obtain ⟨a, c, h1, h2, h3⟩ := h
  refine ⟨a, c, h1, h2, fun i x hx => ?_⟩
  obtain ⟨b, o, h4, h5, sl, e0, e1, hL, e2, e3, e4⟩ := h3 i x hx
  have f : ∀ {p : Addr} {v : Value}, w.cell? p = some v → w'.cell? p = some v := fun h => (Below.cell hb (World.block_lt_of_cell? _ _ h)).trans h
  exact ⟨b, o, h4, h5, sl, f e0, f e1, hL.below hb, f e2, f e3, f e4⟩
theorem KeysOpen.below {w w' : World} {v : Value} {K : List (List UInt8)} (h : KeysOpen w v K) (hb : Below w.heap.size w w') : KeysOpen w' v K := by
  obtain ⟨a, c, h1, h2, h3⟩ := h
  refine ⟨a, c, h1, h2, fun i x hx => ?_⟩
  obtain ⟨b, o, h4, h5, h6⟩ := h3 i x hx
  exact ⟨b, o, h4, (Below.cell hb (World.block_lt_of_cell? _ _ h5)).trans h5, h6⟩
def fewL (L : List Lb) : Prop := L.length ≤ 10 ∧ ∀ x ∈ L, x.1.length ≤ 300 ∧ x.2.length ≤ 300
def fewR (R : List Rc) : Prop := R.length ≤ 40 ∧ ∀ x ∈ R, fewL x.labels
def fewK (K : List (List UInt8)) : Prop := K.length ≤ 30 ∧ ∀ x ∈ K, x.length ≤ 700
theorem LabsOpen.at {w : World} {v : Value} {L : List Lb} (h : LabsOpen w v L) (hf : fewL L) : LabsAt w v L := by
  obtain ⟨a, c, h1, h2, h3⟩ := h
  refine ⟨a, c, h1, by have := hf.1; omega, fun i x hx => ?_⟩
  obtain ⟨b, o, h4, h5, h6, h7⟩ := h3 i x hx
  have := hf.2 x (List.mem_of_getElem? hx)
  exact ⟨by omega, by omega, b, o, h4, h5, h6⟩
theorem RecsOpen.at {w : World} {v : Value} {R : List Rc} (h : RecsOpen w v R) (hf : fewR R) : RecsAt w v R := by
  obtain ⟨a, c, h1, h2, h3⟩ := h
  refine ⟨a, c, h1, by have := hf.1; omega, fun i x hx => ?_⟩
  obtain ⟨b, o, h4, h5, sl, e0, e1, hL, e2, e3, e4⟩ := h3 i x hx
  exact ⟨b, o, h4, h5, sl, e0, e1, hL.at (hf.2 x (List.mem_of_getElem? hx)), e2, e3, e4⟩
theorem KeysOpen.at {w : World} {v : Value} {K : List (List UInt8)} (h : KeysOpen w v K) (hf : fewK K) : KeysAt w v K := by
  obtain ⟨a, c, h1, h2, h3⟩ := h
  refine ⟨a, c, h1, by have := hf.1; omega, fun i x hx => ?_⟩
  obtain ⟨b, o, h4, h5, h6⟩ := h3 i x hx
  have := hf.2 x (List.mem_of_getElem? hx)
  exact ⟨by omega, b, o, h4, h5⟩

section
variable {H : Type} {enc : TypeId × Value → H} {w : World} {base : Nat} {sp : Nat → Bool} {held : Bool}
set_option maxRecDepth 100000 in
theorem labs_of_trod {fuel : Nat} {v : Value} {x : DataW H × List MemPlace} (h : DataW.trod enc Tryz.prog w base sp held fuel 48 [v] = some x) (hv : ∃ sa sl sc, v = .slice sa sl sc) : ∃ L, LabsOpen w v L := by
  obtain ⟨sa, sl, sc, rfl⟩ := hv
  obtain ⟨h1, L, h2, h3, h4⟩ := rows_of_trod Tryz.underlying48 (n := 2) (by kernel_rfl) (by omega) h
  obtain ⟨l, k1, k2⟩ := exists_list (R := fun cs (a : Lb) => cs = [.string (bs a.1), .string (bs a.2)] ∧ a.1.length ≤ maxLen ∧ a.2.length ≤ maxLen) L fun cs hc => by
    obtain ⟨m, y, hy⟩ := h4 cs hc
    obtain ⟨hlen, k, hf⟩ := trod_flat Tryz.underlying53 (by kernel_rfl) (by kernel_rfl) hy
    match cs, hlen with
    | [v0, v1], _ =>
      obtain ⟨y0, g0⟩ := hf 0 _ v0 rfl rfl
      obtain ⟨y1, g1⟩ := hf 1 _ v1 rfl rfl
      obtain ⟨sA, e1, _, w1⟩ := DataW.trod_string Tryz.underlying9 g0
      obtain ⟨sB, e2, _, w2⟩ := DataW.trod_string Tryz.underlying9 g1
      obtain ⟨lA, rfl⟩ := bs_ex sA
      obtain ⟨lB, rfl⟩ := bs_ex sB
      rw [bs_size] at w1 w2
      simp only [List.cons.injEq, and_true] at e1 e2
      subst e1 e2
      exact ⟨(lA, lB), rfl, w1, w2⟩
  refine ⟨l, sa, sc, by rw [k1, h2], by omega, fun i a ha => ?_⟩
  obtain ⟨cs, e1, rfl, e2, e3⟩ := k2 i a ha
  obtain ⟨_, b, o, f1, f2⟩ := h3 i _ e1
  exact ⟨b, o, f1, by simpa using f2 0 _ rfl, f2 1 _ rfl, e2, e3⟩
set_option maxRecDepth 100000 in
theorem recs_of_trod {fuel : Nat} {sa : Option Addr} {sl sc : Nat} {x : DataW H × List MemPlace} (h : DataW.trod enc Tryz.prog w base sp held fuel 25 [.slice sa sl sc] = some x) : ∃ R, RecsOpen w (.slice sa sl sc) R := by
  obtain ⟨h1, L, h2, h3, h4⟩ := rows_of_trod Tryz.underlying25 (n := 5) (by kernel_rfl) (by omega) h
  obtain ⟨l, k1, k2⟩ := exists_list (R := fun cs (a : Rc) => a.ok ∧ ∃ kv, cs = [.int .i64 a.kind, kv, .int .i64 a.t, .int .i64 a.u, .int .u64 (a.v : Int)] ∧ LabsOpen w kv a.labels) L fun cs hc => by
    obtain ⟨m, y, hy⟩ := h4 cs hc
    obtain ⟨hlen, k, hf⟩ := trod_flat Tryz.underlying51 (by kernel_rfl) (by kernel_rfl) hy
    match cs, hlen with
    | [v0, v1, v2, v3, v4], _ =>
      obtain ⟨y0, g0⟩ := hf 0 _ v0 rfl rfl
      obtain ⟨y1, g1⟩ := hf 1 _ v1 rfl rfl
      obtain ⟨y2, g2⟩ := hf 2 _ v2 rfl rfl
      obtain ⟨y3, g3⟩ := hf 3 _ v3 rfl rfl
      obtain ⟨y4, g4⟩ := hf 4 _ v4 rfl rfl
      obtain ⟨K, e0, _, w0⟩ := DataW.trod_int Tryz.underlying3 g0
      obtain ⟨T, e2, _, w2⟩ := DataW.trod_int Tryz.underlying2 g2
      obtain ⟨U, e3, _, w3⟩ := DataW.trod_int Tryz.underlying2 g3
      obtain ⟨V, e4, _, w4⟩ := DataW.trod_int Tryz.underlying49 g4
      have e1 : ∃ sa sl sc, v1 = .slice sa sl sc := by
        rcases open_slice Tryz.underlying48 g1 with ⟨e, _⟩ | ⟨_, _, _, _, _, _, _, e, _⟩
        · exact ⟨_, _, _, by simpa using e⟩
        · exact ⟨_, _, _, by simpa using e⟩
      obtain ⟨ks, hks⟩ := labs_of_trod g1 e1
      simp only [List.cons.injEq, and_true] at e0 e2 e3 e4
      subst e0 e2 e3 e4
      obtain ⟨n, rfl, hn⟩ : ∃ k : Nat, V = k ∧ k < 18446744073709551616 := by
        have := bounds_u64 w4
        exact ⟨V.toNat, by omega, by omega⟩
      have b0 := bounds_i64 w0
      have b2 := bounds_i64 w2
      have b3 := bounds_i64 w3
      exact ⟨⟨K, ks, T, U, n⟩, ⟨b0.1, b0.2, b2.1, b2.2, b3.1, b3.2, hn⟩, v1, rfl, hks⟩
  refine ⟨l, sa, sc, by rw [k1, h2], by omega, fun i a ha => ?_⟩
  obtain ⟨cs, e1, hok, kv, rfl, e2⟩ := k2 i a ha
  obtain ⟨_, b, o, f1, f2⟩ := h3 i _ e1
  exact ⟨b, o, f1, hok, kv, by simpa using f2 0 _ rfl, f2 1 _ rfl, e2, f2 2 _ rfl, f2 3 _ rfl, f2 4 _ rfl⟩
theorem keys_of_trod {fuel : Nat} {sa : Option Addr} {sl sc : Nat} {x : DataW H × List MemPlace} (h : DataW.trod enc Tryz.prog w base sp held fuel 30 [.slice sa sl sc] = some x) : ∃ K, KeysOpen w (.slice sa sl sc) K := by
  obtain ⟨h1, L, h2, h3, h4⟩ := rows_of_trod Tryz.underlying30 (n := 1) (by kernel_rfl) (by omega) h
  obtain ⟨ks, k1, k2⟩ := exists_list (R := fun cs (z : List UInt8) => cs = [.string (bs z)] ∧ z.length ≤ maxLen) L fun cs hc => by
    obtain ⟨m, y, hy⟩ := h4 cs hc
    obtain ⟨sA, e1, _, w1⟩ := DataW.trod_string Tryz.underlying9 hy
    obtain ⟨lA, rfl⟩ := bs_ex sA
    rw [bs_size] at w1
    exact ⟨lA, e1, w1⟩
  refine ⟨ks, sa, sc, by rw [k1, h2], by omega, fun i z hz => ?_⟩
  obtain ⟨cs, e1, rfl, e2⟩ := k2 i z hz
  obtain ⟨_, b, o, e3, e4⟩ := h3 i _ e1
  exact ⟨b, o, e3, by simpa using e4 0 _ rfl, e2⟩
end

set_option maxRecDepth 100000 in
set_option maxHeartbeats 1000000 in
theorem Few_any {w : World} {v : Value} {L : List Lb} (h : LabsOpen w v L) :
    Calls Tryz.prog 17 #[v] w fun e w' => ∃ b, e = .returned (.bool b) ∧ Below w.heap.size w w' ∧ (b = true → fewL L) := by
  obtain ⟨a, c, rfl, hn, hc⟩ := h
  have HC := Lib.hid hc
  unfold maxLen at hn
  clear hc
  go_enter Tryz.func17, Tryz.ntmps17
  go_wp2
  go_loopw [3] (fun vi wr => ∃ i : Nat, i ≤ L.length ∧ i ≤ 11 ∧ vi = .int .i64 (i : Int) ∧ (∀ x ∈ L.take i, x.1.length ≤ 300 ∧ x.2.length ≤ 300) ∧ Below w.heap.size w wr) (fun vi _ => 11 - (intOf vi).toNat)
  case atStart => exact ⟨0, Nat.zero_le _, by omega, rfl, by simp, Below.refl _ _⟩
  obtain ⟨i, hi, hi2, rfl, hp, hb⟩ := hrel
  have HP := Lib.hid hp
  clear hp
  by_cases hil : i < L.length
  · by_cases hi3 : i ≤ 10
    · obtain ⟨b, o, rfl, d0, d1, l0, l1⟩ := HC.out i _ (List.getElem?_eq_getElem hil)
      have HT := Lib.hid (show L.take i ++ [L[i]] = L.take (i + 1) from (List.take_succ_eq_append_getElem hil).symm)
      have e0 := (hb.cell (World.block_lt_of_cell? _ _ d0)).trans d0
      have e1 := (hb.cell (World.block_lt_of_cell? _ _ d1)).trans d1
      generalize L[i] = x at *
      clear d0 d1
      unfold maxLen at l0 l1
      by_cases h1 : 300 < x.1.length
      · have f1 : decide ((300 : Int) < (x.1.length : Int)) = true := by simp; omega
        have f1' : decide (300 < x.1.length) = true := by simpa using h1
        go_wp2
        go_ret
        exact ⟨false, rfl, hb, fun e => by cases e⟩
      have f1 : decide ((300 : Int) < (x.1.length : Int)) = false := by simp; omega
      have f1' : decide (300 < x.1.length) = false := by simpa using h1
      by_cases h2 : 300 < x.2.length
      · have f2 : decide ((300 : Int) < (x.2.length : Int)) = true := by simp; omega
        have f2' : decide (300 < x.2.length) = true := by simpa using h2
        go_wp2
        go_ret
        exact ⟨false, rfl, hb, fun e => by cases e⟩
      have f2 : decide ((300 : Int) < (x.2.length : Int)) = false := by simp; omega
      have f2' : decide (300 < x.2.length) = false := by simpa using h2
      go_wp2
      go_roundw
      case rel =>
        refine ⟨i + 1, by omega, by omega, by go_num, fun y hy => ?_, hb⟩
        rw [← HT.out] at hy
        rcases List.mem_append.1 hy with hy | hy
        · exact HP.out y hy
        · obtain rfl := List.mem_singleton.1 hy
          exact ⟨by omega, by omega⟩
      case measure => simp [intOf]; omega
    · have f1 : decide ((i : Int) ≤ 10) = false := by simp; omega
      have f1' : decide (i ≤ 10) = false := by simpa using hi3
      have f2 : decide ((L.length : Int) ≤ 10) = false := by simp; omega
      have f2' : decide (L.length ≤ 10) = false := by simp; omega
      go_wp2
      go_ret
      exact ⟨false, rfl, hb, fun e => by cases e⟩
  · obtain rfl : i = L.length := by omega
    rw [List.take_length] at HP
    go_wp2
    go_ret
    exact ⟨_, rfl, hb, fun e => ⟨by (have h : (L.length : Int) ≤ 10 := by simpa using e); omega, HP.out⟩⟩
set_option maxRecDepth 100000 in
set_option maxHeartbeats 1000000 in
theorem FewRecs_any {w : World} {v : Value} {R : List Rc} (h : RecsOpen w v R) :
    Calls Tryz.prog 8 #[v] w fun e w' => ∃ b, e = .returned (.bool b) ∧ Below w.heap.size w w' ∧ (b = true → fewR R) := by
  obtain ⟨a, c, rfl, hn, hc⟩ := h
  have HC := Lib.hid hc
  unfold maxLen at hn
  clear hc
  go_enter Tryz.func8, Tryz.ntmps8
  go_wp2
  go_loopw [3] (fun vi wr => ∃ i : Nat, i ≤ R.length ∧ i ≤ 41 ∧ vi = .int .i64 (i : Int) ∧ (∀ x ∈ R.take i, fewL x.labels) ∧ Below w.heap.size w wr) (fun vi _ => 41 - (intOf vi).toNat)
  case atStart => exact ⟨0, Nat.zero_le _, by omega, rfl, by simp, Below.refl _ _⟩
  obtain ⟨i, hi, hi2, rfl, hp, hb⟩ := hrel
  have HP := Lib.hid hp
  clear hp
  by_cases hil : i < R.length
  · by_cases hi3 : i ≤ 40
    · obtain ⟨b, o, rfl, hok, sl, d0, d1, hL, _⟩ := HC.out i _ (List.getElem?_eq_getElem hil)
      have HT := Lib.hid (show R.take i ++ [R[i]] = R.take (i + 1) from (List.take_succ_eq_append_getElem hil).symm)
      have e1 := (hb.cell (World.block_lt_of_cell? _ _ d1)).trans d1
      have q := Lib.hid (Few_any (hL.below (hb.mono (Nat.le_refl _))))
      generalize R[i] = x at *
      obtain ⟨va, vc, rfl, _⟩ := hL
      clear d0 d1
      go_wp2_with fail
      refine q.out.mono ?_
      rintro e W2 ⟨b2, rfl, hb2, hf⟩
      have HF := Lib.hid hf
      clear hf q
      have hbb := hb.trans (hb2.mono hb.size)
      cases b2 with
      | false =>
        go_wp2
        go_ret
        exact ⟨false, rfl, hbb, fun e => by cases e⟩
      | true =>
        go_wp2
        go_roundw
        case rel =>
          refine ⟨i + 1, by omega, by omega, by go_num, fun y hy => ?_, hbb⟩
          rw [← HT.out] at hy
          rcases List.mem_append.1 hy with hy | hy
          · exact HP.out y hy
          · obtain rfl := List.mem_singleton.1 hy
            exact HF.out trivial
        case measure => simp [intOf]; omega
    · have f1 : decide ((i : Int) ≤ 40) = false := by simp; omega
      have f1' : decide (i ≤ 40) = false := by simpa using hi3
      have f2 : decide ((R.length : Int) ≤ 40) = false := by simp; omega
      have f2' : decide (R.length ≤ 40) = false := by simp; omega
      go_wp2
      go_ret
      exact ⟨false, rfl, hb, fun e => by cases e⟩
  · obtain rfl : i = R.length := by omega
    rw [List.take_length] at HP
    go_wp2
    go_ret
    exact ⟨_, rfl, hb, fun e => ⟨by (have h : (R.length : Int) ≤ 40 := by simpa using e); omega, HP.out⟩⟩
set_option maxRecDepth 100000 in
set_option maxHeartbeats 1000000 in
theorem fewKeys_any {w : World} {v : Value} {K : List (List UInt8)} (h : KeysOpen w v K) :
    Calls Tryz.prog 14 #[v] w fun e w' => ∃ b, e = .returned (.bool b) ∧ Below w.heap.size w w' ∧ (b = true → fewK K) := by
  obtain ⟨a, c, rfl, hn, hc⟩ := h
  have HC := Lib.hid hc
  unfold maxLen at hn
  clear hc
  go_enter Tryz.func14, Tryz.ntmps14
  go_wp2
  go_loopw [3] (fun vi wr => ∃ i : Nat, i ≤ K.length ∧ i ≤ 31 ∧ vi = .int .i64 (i : Int) ∧ (∀ x ∈ K.take i, x.length ≤ 700) ∧ Below w.heap.size w wr) (fun vi _ => 31 - (intOf vi).toNat)
  case atStart => exact ⟨0, Nat.zero_le _, by omega, rfl, by simp, Below.refl _ _⟩
  obtain ⟨i, hi, hi2, rfl, hp, hb⟩ := hrel
  have HP := Lib.hid hp
  clear hp
  by_cases hil : i < K.length
  · by_cases hi3 : i ≤ 30
    · obtain ⟨b, o, rfl, d0, l0⟩ := HC.out i _ (List.getElem?_eq_getElem hil)
      have HT := Lib.hid (show K.take i ++ [K[i]] = K.take (i + 1) from (List.take_succ_eq_append_getElem hil).symm)
      have e0 := (hb.cell (World.block_lt_of_cell? _ _ d0)).trans d0
      generalize K[i] = x at *
      clear d0
      unfold maxLen at l0
      by_cases h1 : 700 < x.length
      · have f1 : decide ((700 : Int) < (x.length : Int)) = true := by simp; omega
        have f1' : decide (700 < x.length) = true := by simpa using h1
        go_wp2
        go_ret
        exact ⟨false, rfl, hb, fun e => by cases e⟩
      have f1 : decide ((700 : Int) < (x.length : Int)) = false := by simp; omega
      have f1' : decide (700 < x.length) = false := by simpa using h1
      go_wp2
      go_roundw
      case rel =>
        refine ⟨i + 1, by omega, by omega, by go_num, fun y hy => ?_, hb⟩
        rw [← HT.out] at hy
        rcases List.mem_append.1 hy with hy | hy
        · exact HP.out y hy
        · obtain rfl := List.mem_singleton.1 hy
          omega
      case measure => simp [intOf]; omega
    · have f1 : decide ((i : Int) ≤ 30) = false := by simp; omega
      have f1' : decide (i ≤ 30) = false := by simpa using hi3
      have f2 : decide ((K.length : Int) ≤ 30) = false := by simp; omega
      have f2' : decide (K.length ≤ 30) = false := by simp; omega
      go_wp2
      go_ret
      exact ⟨false, rfl, hb, fun e => by cases e⟩
  · obtain rfl : i = K.length := by omega
    rw [List.take_length] at HP
    go_wp2
    go_ret
    exact ⟨_, rfl, hb, fun e => ⟨by (have h : (K.length : Int) ≤ 30 := by simpa using e); omega, HP.out⟩⟩
end Go.Proofs.YtipdeiiipdnacaaGreat
namespace Go.Proofs.YtipdeiiipdnacaaGreat
open Go.RowKit Go.Maps Go.WideMaps Go.ChangeShapes Go.WideShapes Go.Deep
attribute [local go_sem] bs_toList bs_size

set_option maxRecDepth 100000 in
set_option maxHeartbeats 1000000 in
theorem Texts_any {w : World} {v1 v2 : Value} {a b : List (List UInt8)} (h1 : KeysOpen w v1 a) (h2 : KeysOpen w v2 b) :
    Calls Tryz.prog 15 #[v1, v2] w fun e w' => e = .returned (.bool (decide (a = b))) ∧ Below w.heap.size w w' := by
  obtain ⟨s1, c1, rfl, l1, x1⟩ := h1
  obtain ⟨s2, c2, rfl, l2, x2⟩ := h2
  unfold maxLen at l1 l2
  by_cases hlen : a.length = b.length
  · rw [← hlen]
    generalize hna : a.length = n at *
    have hnA := Lib.hid hna
    have hnB := Lib.hid hlen
    clear hna hlen l2
    go_enter Tryz.func15, Tryz.ntmps15
    go_wp2_with fail
    go_loopw [5] (fun i wr => ∃ j : Nat, j ≤ n ∧ i = .int .i64 (j : Int) ∧ a.take j = b.take j ∧ Below w.heap.size w wr) (fun i _ => n - (intOf i).toNat)
    case atStart => exact ⟨0, Nat.zero_le _, rfl, rfl, Below.refl _ _⟩
    case round =>
      obtain ⟨j, hj, rfl, hpre, hbw⟩ := hrel
      by_cases hjn : j < n
      · have hja : j < a.length := by rw [hnA.out]; exact hjn
        obtain ⟨b1, o1, rfl, d1, _⟩ := x1 j a[j] (List.getElem?_eq_getElem hja)
        have hjb : j < b.length := by rw [← hnB.out]; exact hjn
        obtain ⟨b2, o2, rfl, d2, _⟩ := x2 j b[j] (List.getElem?_eq_getElem hjb)
        have g1 := (Below.cell hbw (World.block_lt_of_cell? _ _ d1)).trans d1
        have g2 := (Below.cell hbw (World.block_lt_of_cell? _ _ d2)).trans d2
        have hta : a.take (j + 1) = a.take j ++ [a[j]] := by rw [List.take_succ_eq_append_getElem hja]
        have htb : b.take (j + 1) = b.take j ++ [b[j]] := by rw [List.take_succ_eq_append_getElem hjb]
        by_cases hx : a[j] = b[j]
        · have hnext := Lib.hid (show a.take (j + 1) = b.take (j + 1) by rw [hta, htb, hpre, hx])
          rw [← hx] at g2
          clear hta htb hpre hx d1 d2 x1 x2
          generalize a[j] = y at *
          go_wp2_with fail
          go_quiet (fail)
          go_wp2
          go_roundw
          case rel => exact ⟨j + 1, by omega, by go_num, hnext.out, below_drewN hbw _⟩
          case measure => simp [intOf]; omega
        · have hd : decide (a = b) = false := by
            simp only [decide_eq_false_iff_not]
            intro e
            subst e
            exact hx rfl
          have hne : (a[j] == b[j]) = false := by simpa using hx
          have HD := Lib.hid hd
          clear hd
          clear hta htb hpre hx d1 d2 x1 x2
          generalize a[j] = y at *
          generalize b[j] = z at *
          go_wp2_with fail
          go_quiet (fail)
          go_wp2
          go_ret
          exact ⟨by rw [HD.out]; rfl, below_drewN hbw _⟩
      · have hab : a = b := by
          rw [List.take_of_length_le (by rw [hnA.out]; omega), List.take_of_length_le (by rw [← hnB.out]; omega)] at hpre
          exact hpre
        have hd : decide (a = b) = true := by simpa using hab
        have HD := Lib.hid hd
        clear hd hab hpre
        go_wp2
        go_ret
        exact ⟨by rw [HD.out]; rfl, hbw⟩
  · have hne : ((a.length : Int) == (b.length : Int)) = false := by simp; omega
    have hd : decide (a = b) = false := by
      simp only [decide_eq_false_iff_not]
      intro e
      exact hlen (by rw [e])
    rw [hd]
    go_enter Tryz.func15, Tryz.ntmps15
    go_wp2
    go_ret
    exact ⟨rfl, Below.refl _ _⟩

theorem deq (K : List (List UInt8)) : decide (K = K) = true := by simp
theorem KeysAt.open {w : World} {v : Value} {K : List (List UInt8)} (h : KeysAt w v K) : KeysOpen w v K := by
  obtain ⟨a, c, h1, h2, h3⟩ := h
  refine ⟨a, c, h1, by unfold maxLen; omega, fun i x hx => ?_⟩
  obtain ⟨h4, b, o, h5, h6⟩ := h3 i x hx
  exact ⟨b, o, h5, h6, by unfold maxLen; omega⟩
theorem namesPut_grow (K : List (List UInt8)) (L : List Lb) : K.length ≤ (namesPut K L).2.length := by
  unfold namesPut
  split
  · exact Nat.le_refl _
  · simp
theorem smallOne_grow (K : List (List UInt8)) (x : Rc) : K.length ≤ (smallOne K x).2.length := by
  unfold smallOne
  split
  · exact namesPut_grow K _
  · split
    · exact namesPut_grow K _
    · exact Nat.le_refl _
theorem smallPut_grow : ∀ (R : List Rc) (K : List (List UInt8)), K.length ≤ (smallPut K R).2.length
  | [], K => Nat.le_refl _
  | x :: R, K => by
    have h1 := smallOne_grow K x
    unfold smallPut
    split
    · exact h1
    · exact Nat.le_trans h1 (smallPut_grow R _)
theorem batOne_grow (K : List (List UInt8)) (lt : Int) (lv : Nat) (x : Rc) : K.length ≤ (batOne K lt lv x).2.1.length := by
  unfold batOne
  split
  · exact namesPut_grow K _
  · exact smallOne_grow K x
theorem batLoop_grow : ∀ (R : List Rc) (K : List (List UInt8)) (lt : Int) (lv : Nat), K.length ≤ (batLoop K lt lv R).2.length
  | [], K, _, _ => Nat.le_refl _
  | x :: R, K, lt, lv => by
    have h1 := batOne_grow K lt lv x
    unfold batLoop
    exact Nat.le_trans h1 (batLoop_grow R _ _ _)
theorem putBy_grow (g : Int) (K : List (List UInt8)) (R : List Rc) : K.length ≤ (putBy g K R).2.length := by
  unfold putBy
  split
  · exact Nat.le_refl _
  · split
    · exact smallPut_grow R K
    · unfold batPut
      split
      · exact Nat.le_refl _
      · exact batLoop_grow R K 0 0
theorem walPut_grow (g : Int) (K K' : List (List UInt8)) (R : List Rc) (h : (walPut g K R).2.1 = some K') : K.length ≤ K'.length := by
  have hg := putBy_grow g K R
  unfold walPut at h
  split at h
  · cases h
  · split at h
    · cases h
    · split at h
      · cases h
      · rename_i s K2 hp
        rw [hp] at hg
        obtain rfl := Option.some.inj h
        exact hg
theorem walPut_nil (g : Int) (K : List (List UInt8)) (h : knownB g = true) : walPut g K [] = ([], some K, 0) := by
  unfold walPut
  rw [if_neg (by rw [h]; simp), if_neg (by simp [firstE])]
  by_cases h1 : g = 1
  · subst h1; rfl
  · by_cases h2 : g = 2
    · subst h2; rfl
    · have : putBy g K [] = (some [], K) := by
        unfold putBy
        rw [if_neg h1, if_neg h2]
        rfl
      rw [this]
theorem walPut_unknown (g : Int) (K : List (List UInt8)) (R : List Rc) (h : knownB g = false) : walPut g K R = ([], none, 1) := by
  unfold walPut
  rw [if_pos h]
theorem recs_nil (W : World) : RecsAt W (.slice none 0 0) [] := ⟨none, 0, rfl, by simp, fun i x hx => by simp at hx⟩
theorem putNil_is {W W' : World} {g : Int} {kv : Value} {K : List (List UInt8)} {e : Ending} (h : PutIs W g kv K [] e W') (hK : KeysAt W kv K) : Below W.heap.size W W' ∧ ∃ a c, e = .returned (.tuple #[.string ⟨#[]⟩, .agg #[.int .i64 g, .slice a K.length c], .int .i64 (if knownB g then 0 else 1)]) ∧ KeysAt W' (.slice a K.length c) K := by
  unfold PutIs at h
  cases hk : knownB g with
  | false =>
    rw [walPut_unknown g K [] hk] at h
    obtain ⟨hb, he⟩ := h
    have hK := hK.below hb
    obtain ⟨a, c, rfl, _⟩ := id hK
    exact ⟨hb, a, c, he, hK⟩
  | true =>
    rw [walPut_nil g K hk] at h
    obtain ⟨hb, kv', he, hK', _⟩ := h
    obtain ⟨a, c, rfl, _⟩ := id hK'
    exact ⟨hb, a, c, he, hK'⟩
theorem put_is {W W' : World} {g : Int} {kv : Value} {K : List (List UInt8)} {R : List Rc} {e : Ending} (h : PutIs W g kv K R e W') (hK : KeysAt W kv K) : Below W.heap.size W W' ∧ ∃ t a c er K2, e = .returned (.tuple #[.string (bs t), .agg #[.int .i64 g, .slice a K2.length c], .int .i64 er]) ∧ KeysAt W' (.slice a K2.length c) K2 ∧ K.length ≤ K2.length ∧ (er ≠ 0 → t = [] ∧ K2 = K) := by
  unfold PutIs at h
  obtain ⟨hb, h⟩ := h
  cases ho : (walPut g K R).2.1 with
  | none =>
    rw [ho] at h
    have hK := hK.below hb
    obtain ⟨a, c, rfl, _⟩ := id hK
    exact ⟨hb, [], a, c, _, K, h, hK, Nat.le_refl _, fun _ => ⟨rfl, rfl⟩⟩
  | some K' =>
    have hg := walPut_grow g K K' R ho
    rw [ho] at h
    obtain ⟨kv', he, hK', _⟩ := h
    obtain ⟨a, c, rfl, _⟩ := id hK'
    exact ⟨hb, _, a, c, 0, K', he, hK', hg, fun e => absurd rfl e⟩

set_option maxRecDepth 100000 in
set_option maxHeartbeats 4000000 in
theorem WalNothing_walk {H : Type} {enc : TypeId × Value → H} {d1 d2 : DataW H} {p1 p2 : List MemPlace} (g : Int) (sa1 : Option Addr) (sl1 sc1 : Nat) (sa2 : Option Addr) (sl2 sc2 : Nat) (W : World)
    (g1 : -9223372036854775808 ≤ g) (g2 : g ≤ 9223372036854775807)
    (h1 : DataW.Trod enc Tryz.prog W 0 (fun _ => true) true 30 (.slice sa1 sl1 sc1) d1 p1) (h2 : DataW.Trod enc Tryz.prog W 0 (fun _ => true) true 25 (.slice sa2 sl2 sc2) d2 p2) :
    Calls Tryz.prog 6 #[.int .i64 g, .slice sa1 sl1 sc1, .slice sa2 sl2 sc2] W fun e w' => e = .returned (.bool true) ∧ Below W.heap.size W w' := by
  obtain ⟨_, h1⟩ := h1
  obtain ⟨_, h2⟩ := h2
  obtain ⟨K, hK⟩ := keys_of_trod h1
  obtain ⟨R, hR⟩ := recs_of_trod h2
  clear h1 h2
  have q0 := Lib.hid (works_any W)
  go_enter Tryz.func6, Tryz.ntmps6
  go_wp2_with fail
  refine q0.out.mono ?_
  rintro e W1 ⟨rfl, b1⟩
  have hR1 := hR.below b1
  have hK1 := hK.below b1
  have q1 := Lib.hid (FewRecs_any hR1)
  clear q0 hR hK
  go_wp2_with fail
  refine q1.out.mono ?_
  rintro e W2 ⟨f1, rfl, b2, hf1⟩
  have HF1 := Lib.hid hf1
  have B2 := b1.trans (b2.mono b1.size)
  clear hf1 q1
  cases f1 with
  | false =>
    go_wp2
    go_ret
    exact ⟨rfl, B2⟩
  | true =>
    have hR2 := (hR1.below b2).at (HF1.out rfl)
    have hR40 := (HF1.out rfl).1
    have hK2 := hK1.below b2
    have q2 := Lib.hid (fewKeys_any hK2)
    clear hR1 hK1 HF1 b1 b2
    go_wp2_with fail
    refine q2.out.mono ?_
    rintro e W3 ⟨f2, rfl, b3, hf2⟩
    have HF2 := Lib.hid hf2
    have B3 := B2.trans (b3.mono B2.size)
    clear hf2 q2
    cases f2 with
    | false =>
      go_wp2
      go_ret
      exact ⟨rfl, B3⟩
    | true =>
      have hR3 := hR2.below b3
      have hK3 := (hK2.below b3).at (HF2.out rfl)
      have hK30 := (HF2.out rfl).1
      clear hR2 hK2 HF2 B2 b3
      obtain ⟨_, _, e1, _⟩ := id hK3
      obtain ⟨rfl, rfl, rfl⟩ := Value.slice.inj e1
      clear e1
      have k0 := Blk.new W3 32 #[.int .i64 g, .slice sa1 K.length sc1]
      have b4 := one_alloc W3 (.cells #[.int .i64 g, .slice sa1 K.length sc1] 32)
      have hR4 := hR3.below b4
      have hK4 := hK3.below b4
      have B4 := B3.trans (b4.mono B3.size)
      obtain ⟨⟨c0, c1⟩, _⟩ := cells2 k0
      have qP := Lib.hid (Put_any g (.slice sa1 K.length sc1) (.slice none 0 0) K [] _ hK4 (recs_nil _) (by omega) (by simp) g1 g2)
      rw [show writerV g (.slice sa1 K.length sc1) = .agg #[.int .i64 g, .slice sa1 K.length sc1] from rfl] at qP
      clear hR3 hK3 B3 b4
      go_wp2_with fail
      refine qP.out.mono ?_
      rintro e W4 hP
      obtain ⟨b5, a3, c3, rfl, hK5⟩ := putNil_is hP hK4
      have hE1 : (1 ≤ g ∧ g ≤ 3 → (if knownB g then (0 : Int) else 1) = 0) ∧ (¬ (1 ≤ g ∧ g ≤ 3) → (if knownB g then (0 : Int) else 1) = 1) := by
        unfold knownB
        refine ⟨fun h => by simp [h.1, h.2], fun h => if_neg (by simp; omega)⟩
      have HE1 := Lib.hid hE1
      clear hE1 hP qP c0 c1
      generalize (if knownB g then (0 : Int) else 1) = e1 at *
      have k5 := Blk.below k0 b5 k0.lt
      have kx := Blk.new W4 32 #[.int .i64 g, .slice a3 K.length c3]
      have b6 := one_alloc W4 (.cells #[.int .i64 g, .slice a3 K.length c3] 32)
      have k6 := Blk.below k5 b6 k5.lt
      have b46 := b5.trans (b6.mono b5.size)
      have B6 := B4.trans (b46.mono B4.size)
      have hR6 := hR4.below b46
      have hK6 := hK4.below b46
      have hX6 := hK5.below b6
      obtain ⟨⟨c0, c1⟩, _⟩ := cells2 k6
      have qP := Lib.hid (Put_any g (.slice sa1 K.length sc1) (.slice sa2 sl2 sc2) K R _ hK6 hR6 (by omega) (by omega) g1 g2)
      rw [show writerV g (.slice sa1 K.length sc1) = .agg #[.int .i64 g, .slice sa1 K.length sc1] from rfl] at qP
      clear hR4 hK4 B4 b5 b46 k0 k5 hK5 b6
      generalize W3.heap.size = gw at *
      go_wp2_with fail
      generalize W4.alloc (.cells #[.int .i64 g, .slice a3 K.length c3] 32) = W5 at *
      generalize W4.heap.size = gx at *
      refine qP.out.mono ?_
      rintro e W6 hP
      obtain ⟨b7, t, a4, c4, er, K2, rfl, hK7, hlen, herr⟩ := put_is hP hK6
      have ky := Blk.new W6 32 #[.int .i64 g, .slice a4 K2.length c4]
      have b8 := one_alloc W6 (.cells #[.int .i64 g, .slice a4 K2.length c4] 32)
      have b68 := b7.trans (b8.mono b7.size)
      have B8 := B6.trans (b68.mono B6.size)
      have kx8 := Blk.below kx b68 kx.lt
      have hK8 := hK6.below b68
      have hX8 := hX6.below b68
      have hY8 := hK7.below b8
      obtain ⟨⟨x0, x1⟩, _⟩ := cells2 kx8
      obtain ⟨⟨y0, y1⟩, _⟩ := cells2 ky
      have hle : decide ((K.length : Int) ≤ (K2.length : Int)) = true := by simp; omega
      have hle' : decide (K.length ≤ K2.length) = true := by simpa using hlen
      clear hP qP c0 c1 hK6 hX6 hR6 kx k6 B6 b7 b68 hK7
      have q5 := Lib.hid (Texts_any hX8.open hK8.open)
      rw [deq] at q5
      by_cases her : er = 0
      · subst her
        clear herr hK8 hX8 hY8 b8
        go_wp2_with fail
        generalize W6.alloc (.cells #[.int .i64 g, .slice a4 K2.length c4] 32) = W7 at *
        refine q5.out.mono ?_
        rintro e W8 ⟨rfl, b9⟩
        have B9 := B8.trans (b9.mono B8.size)
        have y1' := (b9.cell (World.block_lt_of_cell? _ _ y1)).trans y1
        clear q5
        rcases (show 1 ≤ g ∧ g ≤ 3 ∨ (1 ≤ g ∧ ¬ g ≤ 3) ∨ ¬ 1 ≤ g by omega) with ⟨i1, i2⟩ | ⟨i1, i2⟩ | i1
        · have f1 : decide (1 ≤ g) = true := by simpa using i1
          have f2 : decide (g ≤ 3) = true := by simpa using i2
          obtain rfl := HE1.out.1 ⟨i1, i2⟩
          go_wp2
          go_ret
          exact ⟨rfl, B9⟩
        · have f1 : decide (1 ≤ g) = true := by simpa using i1
          have f2 : decide (g ≤ 3) = false := by simpa using i2
          obtain rfl := HE1.out.2 (fun h => i2 h.2)
          go_wp2
          go_ret
          exact ⟨rfl, B9⟩
        · have f1 : decide (1 ≤ g) = false := by simpa using i1
          obtain rfl := HE1.out.2 (fun h => i1 h.1)
          go_wp2
          go_ret
          exact ⟨rfl, B9⟩
      · obtain ⟨rfl, rfl⟩ := herr her
        have hz : (er != 0) = true := by simpa using her
        rw [show bs [] = ⟨#[]⟩ from rfl]
        have q6 := Lib.hid (Texts_any hY8.open hK8.open)
        rw [deq] at q6
        clear herr b8
        go_wp2_with fail
        generalize W6.alloc (.cells #[.int .i64 g, .slice a4 K2.length c4] 32) = W7 at *
        refine q6.out.mono ?_
        rintro e W8 ⟨rfl, b9⟩
        have B9 := B8.trans (b9.mono B8.size)
        have hK9 := hK8.below b9
        have hX9 := hX8.below b9
        have x0' := (b9.cell (World.block_lt_of_cell? _ _ x0)).trans x0
        have x1' := (b9.cell (World.block_lt_of_cell? _ _ x1)).trans x1
        have y1' := (b9.cell (World.block_lt_of_cell? _ _ y1)).trans y1
        have q7 := Lib.hid (Texts_any hX9.open hK9.open)
        rw [deq] at q7
        clear q5 q6 hK8 hX8 hY8 x0 x1 y0 y1
        go_wp2_with fail
        refine q7.out.mono ?_
        rintro e W9 ⟨rfl, b10⟩
        have B10 := B9.trans (b10.mono B9.size)
        have y1'' := (b10.cell (World.block_lt_of_cell? _ _ y1')).trans y1'
        clear q7
        rcases (show 1 ≤ g ∧ g ≤ 3 ∨ (1 ≤ g ∧ ¬ g ≤ 3) ∨ ¬ 1 ≤ g by omega) with ⟨i1, i2⟩ | ⟨i1, i2⟩ | i1
        · have f1 : decide (1 ≤ g) = true := by simpa using i1
          have f2 : decide (g ≤ 3) = true := by simpa using i2
          obtain rfl := HE1.out.1 ⟨i1, i2⟩
          go_wp2
          go_ret
          exact ⟨rfl, B10⟩
        · have f1 : decide (1 ≤ g) = true := by simpa using i1
          have f2 : decide (g ≤ 3) = false := by simpa using i2
          obtain rfl := HE1.out.2 (fun h => i2 h.2)
          go_wp2
          go_ret
          exact ⟨rfl, B10⟩
        · have f1 : decide (1 ≤ g) = false := by simpa using i1
          obtain rfl := HE1.out.2 (fun h => i1 h.1)
          go_wp2
          go_ret
          exact ⟨rfl, B10⟩
end Go.Proofs.YtipdeiiipdnacaaGreat
