/- Arguments that are slices, read as plain lists. Over any program. Labels as arguments, read as plain lists; and what the laws ask of them first. Entries as arguments, read as plain lists; and what the laws of layer 12 ask of them first. The law IndexApart: the walk. -/
import Derived.Test.YtpeahjocimhneaaGreatDoorGA
import Derived.Deep.Slices
import Derived.ChangeArms
import Derived.OpenShut
import Derived.Test.YtpeahjocimhneaaGreatDoorGE
import Derived.Test.YtpeahjocimhneaaGreatDoorGL
namespace Go.Proofs.YtpeahjocimhneaaGreatDoor
open Go.RowKit Go.ChangeShapes Go.WideShapes Go.Deep

theorem exists_list {α β : Type} {R : α → β → Prop} : ∀ (L : List α), (∀ x ∈ L, ∃ y, R x y) → ∃ l : List β, l.length = L.length ∧ ∀ (i : Nat) y, l[i]? = some y → ∃ x, L[i]? = some x ∧ R x y
  | [], _ => ⟨[], rfl, fun i y h => by simp at h⟩
  | x :: L, h => by
    obtain ⟨y, hy⟩ := h x (by simp)
    obtain ⟨l, h1, h2⟩ := exists_list L fun x hx => h x (by simp [hx])
    refine ⟨y :: l, by simp [h1], fun i z hz => ?_⟩
    cases i with
    | zero =>
      obtain rfl : y = z := by simpa using hz
      exact ⟨x, rfl, hy⟩
    | succ i => simpa using h2 i z (by simpa using hz)

section
variable {H : Type} {enc : TypeId × Value → H} {P : Program} {w : World} {base : Nat} {sp : Nat → Bool} {held : Bool}

/-- The elements of a slice, each as its cells. -/
theorem rows_of_trod {t e n : Nat} {fuel : Nat} {sa : Option Addr} {sl sc : Nat} {x : DataW H × List MemPlace} (ht : P.underlying t = some (.slice e)) (hn : P.cellsOf e = n) (hpos : 0 < n)
    (h : DataW.trod enc P w base sp held fuel t [.slice sa sl sc] = some x) :
    sl ≤ maxLen ∧ ∃ L : List (List Value), L.length = sl ∧ (∀ (i : Nat) cs, L[i]? = some cs → cs.length = n ∧ ∃ b o, sa = some ⟨b, o, none⟩ ∧ ∀ (j : Nat) u, cs[j]? = some u → w.cell? ⟨b, o + i * n + j, none⟩ = some u) ∧
      ∀ cs ∈ L, ∃ m y, DataW.trod enc P w base sp held m e cs = some y := by
  rcases open_slice ht h with ⟨h0, _⟩ | ⟨a, len, cap, m, k, D, Pl, h0, hb, hl, hm, hmm, rfl, hx⟩
  · simp only [List.cons.injEq, Value.slice.injEq, and_true] at h0
    obtain ⟨rfl, rfl, rfl⟩ := h0
    exact ⟨by simp, [], rfl, fun i cs h => by simp at h, fun cs h => by cases h⟩
  · simp only [List.cons.injEq, Value.slice.injEq, and_true] at h0
    obtain ⟨rfl, rfl, rfl⟩ := h0
    have hlm : sl ≤ m := by rw [hmm]; split <;> omega
    have each : ∀ i ∈ List.range sl, ∃ cs : List Value, (w.cells? base (a.add (i * n)) n = some cs) ∧ ∃ m y, DataW.trod enc P w base sp held m e cs = some y := fun i hi => by
      obtain ⟨cs, h1, h2⟩ := hx i (by have := List.mem_range.1 hi; omega)
      rw [hn] at h1
      exact ⟨cs, h1, k, _, h2⟩
    have hspot0 : 0 < sl → a.spot = none := fun h0 => by
      obtain ⟨cs, h1, _⟩ := hx 0 (by omega)
      rw [hn] at h1
      obtain ⟨_, hlen, hcell⟩ := World.cells?_some h1
      have h3 := hcell 0 hpos
      rw [List.getElem?_eq_getElem (by omega)] at h3
      simpa [Addr.add] using World.cell?_spot h3
    obtain ⟨L, h1, h2⟩ := exists_list (List.range sl) each
    refine ⟨by omega, L, by simpa using h1, fun i cs hi => ?_, fun cs hc => ?_⟩
    · obtain ⟨i', e1, e2, _⟩ := h2 i cs hi
      have hlt : i < sl := by
        have := (List.getElem?_eq_some_iff.1 hi).1
        simpa [h1] using this
      obtain rfl : i = i' := by simpa [hlt] using e1
      obtain ⟨_, hlen, hcell⟩ := World.cells?_some e2
      obtain ⟨b, o, spot⟩ := a
      have hspot : spot = none := hspot0 (by omega)
      subst hspot
      refine ⟨hlen, b, o, rfl, fun j u hj => ?_⟩
      have hjl : j < cs.length := (List.getElem?_eq_some_iff.1 hj).1
      have h4 := hcell j (by omega)
      rw [add_add, Addr.add_lit] at h4
      rw [show o + i * n + j = o + (i * n + j) by omega, h4, hj]
    · obtain ⟨i, hi⟩ := List.getElem?_of_mem hc
      obtain ⟨_, _, _, e3⟩ := h2 i cs hi
      exact e3

/-- All fields are one cell wide, one behind the other. -/
def flatB (P : Program) (fs : Array Field) : Bool := (List.range fs.size).all fun i => match fs[i]? with
  | some f => decide (f.offset = i) && decide (P.cellsOf f.type = 1)
  | none => true
theorem trod_flat {t fuel : Nat} {fs : Array Field} {cs : List Value} {x : DataW H × List MemPlace} (ht : P.underlying t = some (.struct fs)) (hB : flatB P fs = true) (hc : P.cellsOf t = fs.size) (h : DataW.trod enc P w base sp held fuel t cs = some x) :
    cs.length = fs.size ∧ ∃ k, ∀ (i : Nat) f v, fs[i]? = some f → cs[i]? = some v → ∃ y, DataW.trod enc P w base sp held k f.type [v] = some y := by
  obtain ⟨xs, k, _, _, hlen, hxl, hf⟩ := DataW.trod_struct ht h
  refine ⟨hlen.trans hc, k, fun i f v hi hv => ?_⟩
  have hlt : i < fs.size := (Array.getElem?_eq_some_iff.1 hi).1
  unfold flatB at hB
  have := List.all_eq_true.1 hB i (List.mem_range.2 hlt)
  rw [hi] at this
  simp only [Bool.and_eq_true, decide_eq_true_eq] at this
  have h1 := hf i f hi
  rw [this.1, this.2] at h1
  have hvl : i < cs.length := (List.getElem?_eq_some_iff.1 hv).1
  have h2 : (cs.drop i).take 1 = [v] := by
    rw [List.drop_eq_getElem_cons hvl]
    have : cs[i] = v := by rw [List.getElem?_eq_getElem hvl] at hv; exact Option.some.inj hv
    simp [this]
  rw [h2] at h1
  rw [List.getElem?_eq_getElem (by rw [hxl]; exact hlt)] at h1
  exact ⟨_, h1⟩
end
end Go.Proofs.YtpeahjocimhneaaGreatDoor
namespace Go.Proofs.YtpeahjocimhneaaGreatDoor
open Go.RowKit Go.Maps Go.WideMaps Go.ChangeShapes Go.WideShapes Go.Deep
attribute [local go_sem] bs_toList bs_size

/-- Labels, as many and as long as they may come. -/
def LabsOpen (w : World) (v : Value) (L : List Lb) : Prop :=
  ∃ a c, v = .slice a L.length c ∧ L.length ≤ maxLen ∧ ∀ (i : Nat) x, L[i]? = some x → ∃ b o, a = some ⟨b, o, none⟩ ∧ w.cell? ⟨b, o + i * 2, none⟩ = some (.string (bs x.1)) ∧ w.cell? ⟨b, o + i * 2 + 1, none⟩ = some (.string (bs x.2)) ∧ x.1.length ≤ maxLen ∧ x.2.length ≤ maxLen
theorem LabsOpen.below {w w' : World} {v : Value} {L : List Lb} (h : LabsOpen w v L) (hb : Below w.heap.size w w') : LabsOpen w' v L := by
  obtain ⟨a, c, h1, h2, h3⟩ := h
  refine ⟨a, c, h1, h2, fun i x hx => ?_⟩
  obtain ⟨b, o, h4, h5, h6, h7⟩ := h3 i x hx
  have f : ∀ {p : Addr} {v : Value}, w.cell? p = some v → w'.cell? p = some v := fun h => (Below.cell hb (World.block_lt_of_cell? _ _ h)).trans h
  exact ⟨b, o, h4, f h5, f h6, h7⟩
def fewL (L : List Lb) : Prop := L.length ≤ 10 ∧ ∀ x ∈ L, x.1.length ≤ 300 ∧ x.2.length ≤ 300
theorem LabsOpen.at {w : World} {v : Value} {L : List Lb} (h : LabsOpen w v L) (hf : fewL L) : LabsAt w v L := by
  obtain ⟨a, c, h1, h2, h3⟩ := h
  refine ⟨a, c, h1, by have := hf.1; omega, fun i x hx => ?_⟩
  obtain ⟨b, o, h4, h5, h6, h7⟩ := h3 i x hx
  have := hf.2 x (List.mem_of_getElem? hx)
  exact ⟨by omega, by omega, b, o, h4, h5, h6⟩
section
variable {H : Type} {enc : TypeId × Value → H} {w : World} {base : Nat} {sp : Nat → Bool} {held : Bool}
set_option maxRecDepth 100000 in
theorem labs_of_trod {fuel : Nat} {v : Value} {x : DataW H × List MemPlace} (h : DataW.trod enc Tryz.prog w base sp held fuel 57 [v] = some x) (hv : ∃ sa sl sc, v = .slice sa sl sc) : ∃ L, LabsOpen w v L := by
  obtain ⟨sa, sl, sc, rfl⟩ := hv
  obtain ⟨h1, L, h2, h3, h4⟩ := rows_of_trod Tryz.underlying57 (n := 2) (by kernel_rfl) (by omega) h
  obtain ⟨l, k1, k2⟩ := exists_list (R := fun cs (a : Lb) => cs = [.string (bs a.1), .string (bs a.2)] ∧ a.1.length ≤ maxLen ∧ a.2.length ≤ maxLen) L fun cs hc => by
    obtain ⟨m, y, hy⟩ := h4 cs hc
    obtain ⟨hlen, k, hf⟩ := trod_flat Tryz.underlying37 (by kernel_rfl) (by kernel_rfl) hy
    match cs, hlen with
    | [v0, v1], _ =>
      obtain ⟨y0, g0⟩ := hf 0 _ v0 rfl rfl
      obtain ⟨y1, g1⟩ := hf 1 _ v1 rfl rfl
      obtain ⟨sA, e1, _, w1⟩ := DataW.trod_string Tryz.underlying9 g0
      obtain ⟨sB, e2, _, w2⟩ := DataW.trod_string Tryz.underlying9 g1
      obtain ⟨lA, rfl⟩ := bs_ex sA
      obtain ⟨lB, rfl⟩ := bs_ex sB
      rw [bs_size] at w1 w2
      simp only [List.cons.injEq, and_true] at e1 e2
      subst e1 e2
      exact ⟨(lA, lB), rfl, w1, w2⟩
  refine ⟨l, sa, sc, by rw [k1, h2], by omega, fun i a ha => ?_⟩
  obtain ⟨cs, e1, rfl, e2, e3⟩ := k2 i a ha
  obtain ⟨_, b, o, f1, f2⟩ := h3 i _ e1
  exact ⟨b, o, f1, by simpa using f2 0 _ rfl, f2 1 _ rfl, e2, e3⟩
end
set_option maxRecDepth 100000 in
set_option maxHeartbeats 1000000 in
theorem Few_any {w : World} {v : Value} {L : List Lb} (h : LabsOpen w v L) :
    Calls Tryz.prog 29 #[v] w fun e w' => ∃ b, e = .returned (.bool b) ∧ Below w.heap.size w w' ∧ (b = true → fewL L) := by
  obtain ⟨a, c, rfl, hn, hc⟩ := h
  have HC := Lib.hid hc
  unfold maxLen at hn
  clear hc
  go_enter Tryz.func29, Tryz.ntmps29
  go_wp2
  go_loopw [3] (fun vi wr => ∃ i : Nat, i ≤ L.length ∧ i ≤ 11 ∧ vi = .int .i64 (i : Int) ∧ (∀ x ∈ L.take i, x.1.length ≤ 300 ∧ x.2.length ≤ 300) ∧ Below w.heap.size w wr) (fun vi _ => 11 - (intOf vi).toNat)
  case atStart => exact ⟨0, Nat.zero_le _, by omega, rfl, by simp, Below.refl _ _⟩
  obtain ⟨i, hi, hi2, rfl, hp, hb⟩ := hrel
  have HP := Lib.hid hp
  clear hp
  by_cases hil : i < L.length
  · by_cases hi3 : i ≤ 10
    · obtain ⟨b, o, rfl, d0, d1, l0, l1⟩ := HC.out i _ (List.getElem?_eq_getElem hil)
      have HT := Lib.hid (show L.take i ++ [L[i]] = L.take (i + 1) from (List.take_succ_eq_append_getElem hil).symm)
      have e0 := (hb.cell (World.block_lt_of_cell? _ _ d0)).trans d0
      have e1 := (hb.cell (World.block_lt_of_cell? _ _ d1)).trans d1
      generalize L[i] = x at *
      clear d0 d1
      unfold maxLen at l0 l1
      by_cases h1 : 300 < x.1.length
      · have f1 : decide ((300 : Int) < (x.1.length : Int)) = true := by simp; omega
        have f1' : decide (300 < x.1.length) = true := by simpa using h1
        go_wp2
        go_ret
        exact ⟨false, rfl, hb, fun e => by cases e⟩
      have f1 : decide ((300 : Int) < (x.1.length : Int)) = false := by simp; omega
      have f1' : decide (300 < x.1.length) = false := by simpa using h1
      by_cases h2 : 300 < x.2.length
      · have f2 : decide ((300 : Int) < (x.2.length : Int)) = true := by simp; omega
        have f2' : decide (300 < x.2.length) = true := by simpa using h2
        go_wp2
        go_ret
        exact ⟨false, rfl, hb, fun e => by cases e⟩
      have f2 : decide ((300 : Int) < (x.2.length : Int)) = false := by simp; omega
      have f2' : decide (300 < x.2.length) = false := by simpa using h2
      go_wp2
      go_roundw
      case rel =>
        refine ⟨i + 1, by omega, by omega, by go_num, fun y hy => ?_, hb⟩
        rw [← HT.out] at hy
        rcases List.mem_append.1 hy with hy | hy
        · exact HP.out y hy
        · obtain rfl := List.mem_singleton.1 hy
          exact ⟨by omega, by omega⟩
      case measure => simp [intOf]; omega
    · have f1 : decide ((i : Int) ≤ 10) = false := by simp; omega
      have f1' : decide (i ≤ 10) = false := by simpa using hi3
      have f2 : decide ((L.length : Int) ≤ 10) = false := by simp; omega
      have f2' : decide (L.length ≤ 10) = false := by simp; omega
      go_wp2
      go_ret
      exact ⟨false, rfl, hb, fun e => by cases e⟩
  · obtain rfl : i = L.length := by omega
    rw [List.take_length] at HP
    go_wp2
    go_ret
    exact ⟨_, rfl, hb, fun e => ⟨by (have h : (L.length : Int) ≤ 10 := by simpa using e); omega, HP.out⟩⟩
end Go.Proofs.YtpeahjocimhneaaGreatDoor
namespace Go.Proofs.YtpeahjocimhneaaGreatDoor
open Go.RowKit Go.Maps Go.WideMaps Go.ChangeShapes Go.WideShapes Go.Deep
attribute [local go_sem] bs_toList bs_size

def EntOpen (w : World) (b o : Nat) (x : En) : Prop := x.ok ∧ ∃ sl, w.cell? ⟨b, o, none⟩ = some sl ∧ LabsOpen w sl x.labels ∧ w.cell? ⟨b, o + 1, none⟩ = some (.int .i64 x.last) ∧ w.cell? ⟨b, o + 2, none⟩ = some (.int .i64 x.off) ∧ w.cell? ⟨b, o + 3, none⟩ = some (.int .i64 x.len)
def EntsOpen (w : World) (v : Value) (R : List En) : Prop :=
  ∃ a c, v = .slice a R.length c ∧ R.length ≤ maxLen ∧ (a = none → c = 0) ∧ R.length ≤ c ∧ ∀ (i : Nat) x, R[i]? = some x → ∃ b o, a = some ⟨b, o, none⟩ ∧ EntOpen w b (o + i * 4) x
theorem EntsOpen.below {w w' : World} {v : Value} {R : List En} (h : EntsOpen w v R) (hb : Below w.heap.size w w') : EntsOpen w' v R := by
  obtain ⟨a, c, h1, h2, h2a, h2b, h3⟩ := h
  refine ⟨a, c, h1, h2, h2a, h2b, fun i x hx => ?_⟩
  obtain ⟨b, o, h4, h5, sl, e1, hL, e2, e3, e4⟩ := h3 i x hx
  have f : ∀ {p : Addr} {v : Value}, w.cell? p = some v → w'.cell? p = some v := fun h => (Below.cell hb (World.block_lt_of_cell? _ _ h)).trans h
  exact ⟨b, o, h4, h5, sl, f e1, hL.below hb, f e2, f e3, f e4⟩
def fewE (R : List En) : Prop := R.length ≤ 30 ∧ ∀ x ∈ R, fewL x.labels
theorem EntsOpen.at {w : World} {v : Value} {R : List En} (h : EntsOpen w v R) (hf : fewE R) : EntsAt w v R := by
  obtain ⟨a, c, h1, h2, h2a, h2b, h3⟩ := h
  refine ⟨a, c, h1, h2a, by have := hf.1; omega, h2b, fun i x hx => ?_⟩
  obtain ⟨b, o, h4, h5, sl, e1, hL, e2, e3, e4⟩ := h3 i x hx
  have hA := hL.at (hf.2 x (List.mem_of_getElem? hx))
  obtain ⟨la, lc, rfl, _⟩ := hL
  exact ⟨h5, b, o, h4, la, lc, e1, hA, e2, e3, e4⟩
section
variable {H : Type} {enc : TypeId × Value → H} {w : World} {base : Nat} {sp : Nat → Bool} {held : Bool}
set_option maxRecDepth 100000 in
theorem ents_of_trod {fuel : Nat} {sa : Option Addr} {sl sc : Nat} {x : DataW H × List MemPlace} (h : DataW.trod enc Tryz.prog w base sp held fuel 22 [.slice sa sl sc] = some x) : ∃ R, EntsOpen w (.slice sa sl sc) R := by
  have ⟨hsc, hnil⟩ : sl ≤ sc ∧ (sa = none → sc = 0) := by
    rcases open_slice Tryz.underlying22 h with ⟨e, _⟩ | ⟨_, _, _, _, _, _, _, e, _, hl, _⟩
    · simp only [List.cons.injEq, Value.slice.injEq, and_true] at e
      obtain ⟨rfl, rfl, rfl⟩ := e
      exact ⟨Nat.le_refl _, fun _ => rfl⟩
    · simp only [List.cons.injEq, Value.slice.injEq, and_true] at e
      obtain ⟨rfl, rfl, rfl⟩ := e
      exact ⟨hl, fun e => by cases e⟩
  obtain ⟨h1, L, h2, h3, h4⟩ := rows_of_trod Tryz.underlying22 (n := 4) (by kernel_rfl) (by omega) h
  obtain ⟨l, k1, k2⟩ := exists_list (R := fun cs (a : En) => a.ok ∧ ∃ kv, cs = [kv, .int .i64 a.last, .int .i64 a.off, .int .i64 a.len] ∧ LabsOpen w kv a.labels) L fun cs hc => by
    obtain ⟨m, y, hy⟩ := h4 cs hc
    obtain ⟨hlen, k, hf⟩ := trod_flat Tryz.underlying59 (by kernel_rfl) (by kernel_rfl) hy
    match cs, hlen with
    | [v1, v2, v3, v4], _ =>
      obtain ⟨y1, g1⟩ := hf 0 _ v1 rfl rfl
      obtain ⟨y2, g2⟩ := hf 1 _ v2 rfl rfl
      obtain ⟨y3, g3⟩ := hf 2 _ v3 rfl rfl
      obtain ⟨y4, g4⟩ := hf 3 _ v4 rfl rfl
      obtain ⟨T, e2, _, w2⟩ := DataW.trod_int Tryz.underlying2 g2
      obtain ⟨U, e3, _, w3⟩ := DataW.trod_int Tryz.underlying3 g3
      obtain ⟨V, e4, _, w4⟩ := DataW.trod_int Tryz.underlying3 g4
      have e1 : ∃ sa sl sc, v1 = .slice sa sl sc := by
        rcases open_slice Tryz.underlying57 g1 with ⟨e, _⟩ | ⟨_, _, _, _, _, _, _, e, _⟩
        · exact ⟨_, _, _, by simpa using e⟩
        · exact ⟨_, _, _, by simpa using e⟩
      obtain ⟨ks, hks⟩ := labs_of_trod g1 e1
      simp only [List.cons.injEq, and_true] at e2 e3 e4
      subst e2 e3 e4
      have b2 := bounds_i64 w2
      have b3 := bounds_i64 w3
      have b4 := bounds_i64 w4
      exact ⟨⟨ks, T, U, V⟩, ⟨b2, b3, b4⟩, v1, rfl, hks⟩
  refine ⟨l, sa, sc, by rw [k1, h2], by omega, hnil, by omega, fun i a ha => ?_⟩
  obtain ⟨cs, e1, hok, kv, rfl, e2⟩ := k2 i a ha
  obtain ⟨_, b, o, f1, f2⟩ := h3 i _ e1
  exact ⟨b, o, f1, hok, kv, by simpa using f2 0 _ rfl, e2, f2 1 _ rfl, f2 2 _ rfl, f2 3 _ rfl⟩
end
set_option maxRecDepth 100000 in
set_option maxHeartbeats 1000000 in
theorem few12_any {w : World} {v : Value} {R : List En} (h : EntsOpen w v R) :
    Calls Tryz.prog 10 #[v] w fun e w' => ∃ b, e = .returned (.bool b) ∧ Below w.heap.size w w' ∧ (b = true → fewE R) := by
  obtain ⟨a, c, rfl, hn, _, _, hc⟩ := h
  have HC := Lib.hid hc
  unfold maxLen at hn
  clear hc
  go_enter Tryz.func10, Tryz.ntmps10
  go_wp2
  go_loopw [3] (fun vi wr => ∃ i : Nat, i ≤ R.length ∧ i ≤ 31 ∧ vi = .int .i64 (i : Int) ∧ (∀ x ∈ R.take i, fewL x.labels) ∧ Below w.heap.size w wr) (fun vi _ => 31 - (intOf vi).toNat)
  case atStart => exact ⟨0, Nat.zero_le _, by omega, rfl, by simp, Below.refl _ _⟩
  obtain ⟨i, hi, hi2, rfl, hp, hb⟩ := hrel
  have HP := Lib.hid hp
  clear hp
  by_cases hil : i < R.length
  · by_cases hi3 : i ≤ 30
    · obtain ⟨b, o, rfl, hok, sl, d1, hL, _⟩ := HC.out i _ (List.getElem?_eq_getElem hil)
      have HT := Lib.hid (show R.take i ++ [R[i]] = R.take (i + 1) from (List.take_succ_eq_append_getElem hil).symm)
      have e1 := (hb.cell (World.block_lt_of_cell? _ _ d1)).trans d1
      have q := Lib.hid (Few_any (hL.below (hb.mono (Nat.le_refl _))))
      generalize R[i] = x at *
      obtain ⟨va, vc, rfl, _⟩ := hL
      clear d1
      go_wp2_with fail
      refine q.out.mono ?_
      rintro e W2 ⟨b2, rfl, hb2, hf⟩
      have HF := Lib.hid hf
      clear hf q
      have hbb := hb.trans (hb2.mono hb.size)
      cases b2 with
      | false =>
        go_wp2
        go_ret
        exact ⟨false, rfl, hbb, fun e => by cases e⟩
      | true =>
        go_wp2
        go_roundw
        case rel =>
          refine ⟨i + 1, by omega, by omega, by go_num, fun y hy => ?_, hbb⟩
          rw [← HT.out] at hy
          rcases List.mem_append.1 hy with hy | hy
          · exact HP.out y hy
          · obtain rfl := List.mem_singleton.1 hy
            exact HF.out trivial
        case measure => simp [intOf]; omega
    · have f1 : decide ((i : Int) ≤ 30) = false := by simp; omega
      have f1' : decide (i ≤ 30) = false := by simpa using hi3
      have f2 : decide ((R.length : Int) ≤ 30) = false := by simp; omega
      have f2' : decide (R.length ≤ 30) = false := by simp; omega
      go_wp2
      go_ret
      exact ⟨false, rfl, hb, fun e => by cases e⟩
  · obtain rfl : i = R.length := by omega
    rw [List.take_length] at HP
    go_wp2
    go_ret
    exact ⟨_, rfl, hb, fun e => ⟨by (have h : (R.length : Int) ≤ 30 := by simpa using e); omega, HP.out⟩⟩
end Go.Proofs.YtpeahjocimhneaaGreatDoor
namespace Go.Proofs.YtpeahjocimhneaaGreatDoor
open Go.RowKit Go.Maps Go.WideMaps Go.ChangeShapes Go.WideShapes Go.Deep
attribute [local go_sem] bs_toList bs_size

theorem put_err (l : List En) (g : Int) : (putI l g).2 = validI l g := by
  by_cases h : validI l g = 0
  · rw [putI_ok h, h]
  · rw [putI_bad h]
theorem put_none {l : List En} {g : Int} (h : validI l g ≠ 0) : (putI l g).1 = [] := by rw [putI_bad h]
theorem put_small (l : List En) (g : Int) : (putI l g).1.length ≤ 1000004 := by
  by_cases h : validI l g = 0
  · rw [putI_ok h]
    have h1 := body_len l g h
    have ht := tailB_len (bodyI l g)
    simp only [List.length_append]
    omega
  · rw [putI_bad h]
    exact Nat.zero_le _
theorem apart {w : World} {v u : Value} {L M : List En} {g : Int} (h1 : EntsAt w v L) (h2 : EntsAt w u M) (e1 : validI L g = 0) (e2 : validI M g = 0) : ((putI L g).1 == (putI M g).1) = sameI L M := by
  have h3 := sameI_at h1 h2
  cases hs : sameI L M with
  | true =>
    obtain rfl := h3.1 hs
    simp
  | false =>
    have : L ≠ M := fun e => by rw [h3.2 e] at hs; cases hs
    have h4 : (putI L g).1 ≠ (putI M g).1 := fun e => this (putI_inj e1 e2 e)
    simpa using h4
set_option maxRecDepth 100000 in
set_option maxHeartbeats 1000000 in
theorem IndexApart_walk {H : Type} {enc : TypeId × Value → H} {d1 d2 : DataW H} {p1 p2 : List MemPlace} (sa1 : Option Addr) (sl1 sc1 : Nat) (sa2 : Option Addr) (sl2 sc2 : Nat) (g : Int) (W : World)
    (h1 : DataW.Trod enc Tryz.prog W 0 (fun _ => true) true 22 (.slice sa1 sl1 sc1) d1 p1) (h2 : DataW.Trod enc Tryz.prog W 0 (fun _ => true) true 22 (.slice sa2 sl2 sc2) d2 p2)
    (g1 : -9223372036854775808 ≤ g) (g2 : g ≤ 9223372036854775807) :
    Calls Tryz.prog 8 #[.slice sa1 sl1 sc1, .slice sa2 sl2 sc2, .int .i64 g] W fun e w' => e = .returned (.bool true) ∧ Below W.heap.size W w' := by
  obtain ⟨_, h1⟩ := h1
  obtain ⟨_, h2⟩ := h2
  obtain ⟨L, hL⟩ := ents_of_trod h1
  obtain ⟨M, hM⟩ := ents_of_trod h2
  clear h1 h2
  have q0 := Lib.hid (works_any W)
  go_enter Tryz.func8, Tryz.ntmps8
  go_wp2_with fail
  refine q0.out.mono ?_
  rintro e W1 ⟨rfl, b1⟩
  have hL1 := hL.below b1
  have hM1 := hM.below b1
  have q1 := Lib.hid (few12_any hL1)
  clear q0 hL hM
  go_wp2_with fail
  refine q1.out.mono ?_
  rintro e W2 ⟨B1, rfl, b2, hf1⟩
  have HF1 := Lib.hid hf1
  clear hf1 q1
  have c2 := b1.trans (b2.mono b1.size)
  cases B1 with
  | false =>
    go_wp2_with fail
    go_ret
    exact ⟨rfl, c2⟩
  | true =>
    have hL2 := (hL1.below b2).at (HF1.out rfl)
    have hM2 := hM1.below b2
    have q2 := Lib.hid (few12_any hM2)
    clear hL1 hM1 HF1 b1 b2
    go_wp2_with fail
    refine q2.out.mono ?_
    rintro e W3 ⟨B2, rfl, b3, hf2⟩
    have HF2 := Lib.hid hf2
    clear hf2 q2
    have c3 := c2.trans (b3.mono c2.size)
    cases B2 with
    | false =>
      go_wp2_with fail
      go_ret
      exact ⟨rfl, c3⟩
    | true =>
      have hL3 := hL2.below b3
      have hM3 := (hM2.below b3).at (HF2.out rfl)
      clear hL2 hM2 HF2 b3 c2
      have q3 := Lib.hid (IPut_any L _ g W3 hL3 g1 g2)
      have q4 := Lib.hid (fun W' (h : EntsAt W' _ M) => IPut_any M (.slice sa2 sl2 sc2) g W' h g1 g2)
      have q5 := Lib.hid (fun W' h h' => ISame_any L M (.slice sa1 sl1 sc1) (.slice sa2 sl2 sc2) W' h h')
      have hap := Lib.hid (apart (g := g) hL3 hM3)
      have hv := Lib.hid (fun n => valid_take (l := L) (g := g) n)
      have q6 := Lib.hid (fun v n W' h => IValid_any (L.take n) v g W' h g1 g2)
      obtain ⟨_, _, e0, hnil, hlm, hlc, _⟩ := id hL3
      obtain ⟨rfl, rfl, rfl⟩ := Value.slice.inj e0
      unfold putIV at q3 q4
      rw [put_err] at q3 q4
      generalize (putI L g).1 = PA at *
      generalize (putI M g).1 = PB at *
      generalize sameI L M = SM at *
      clear e0
      go_wp2_with fail
      refine q3.out.mono ?_
      rintro e W4 ⟨rfl, b4⟩
      have hL4 := hL3.below b4
      have hM4 := hM3.below b4
      have c4 := c3.trans (b4.mono c3.size)
      clear q3 hL3 hM3 b4 c3
      go_wp2_with fail
      refine (q4.out _ hM4).mono ?_
      rintro e W5 ⟨rfl, b5⟩
      have hL5 := hL4.below b5
      have hM5 := hM4.below b5
      have c5 := c4.trans (b5.mono c4.size)
      clear q4 hL4 hM4 b5 c4
      by_cases hv1 : validI L g = 0
      · have hv1n : ∀ n, validI (L.take n) g = 0 := fun n => hv.out n hv1
        have f1 : ((0 : Int) != 0) = false := rfl
        have HV := Lib.hid hv1n
        clear hv1n hv
        rw [hv1]
        have hw : IntKind.i64.wrap ((L.length : Int) - 1) = (L.length : Int) - 1 := by simp [IntKind.wrap, IntKind.bits, IntKind.signed]; omega
        have HE := Lib.hid (fun (h : L ≠ []) W' (hE : EntsAt W' (.slice sa1 L.length sc1) L) => (q6.out (.slice sa1 (L.length - 1) sc1) (L.length - 1) W' (hE.take (by omega))))
        by_cases hv2 : validI M g = 0
        · have f2 : ((0 : Int) != 0) = false := rfl
          have hq := hap.out hv1 hv2
          rw [hv2]
          clear hap
          cases SM with
          | true =>
            go_wp2_with fail
            refine (q5.out _ hL5 hM5).mono ?_
            rintro e W6 ⟨rfl, b6⟩
            have hL6 := hL5.below b6
            have c6 := c5.trans (b6.mono c5.size)
            clear q5 hL5 hM5 b6 c5
            by_cases hn : L = []
            · subst hn
              go_wp2_with fail
              go_ret
              exact ⟨rfl, c6⟩
            · have hpos : 0 < L.length := List.length_pos_iff.2 hn
              have f5 : ((L.length : Int) == 0) = false := by simp; omega
              have f6 : (L.length == 0) = false := by simp; omega
              have q7 := Lib.hid (HE.out hn _ hL6)
              rw [HV.out] at q7
              clear hn
              go_wp2_with fail
              refine q7.out.mono ?_
              rintro e W7 ⟨rfl, b7⟩
              have c7 := c6.trans (b7.mono c6.size)
              clear q7 b7
              go_wp2_with fail
              go_ret
              exact ⟨rfl, c7⟩
          | false =>
            go_wp2_with fail
            refine (q5.out _ hL5 hM5).mono ?_
            rintro e W6 ⟨rfl, b6⟩
            have hL6 := hL5.below b6
            have c6 := c5.trans (b6.mono c5.size)
            clear q5 hL5 hM5 b6 c5
            by_cases hn : L = []
            · subst hn
              go_wp2_with fail
              go_ret
              exact ⟨rfl, c6⟩
            · have hpos : 0 < L.length := List.length_pos_iff.2 hn
              have f5 : ((L.length : Int) == 0) = false := by simp; omega
              have f6 : (L.length == 0) = false := by simp; omega
              have q7 := Lib.hid (HE.out hn _ hL6)
              rw [HV.out] at q7
              clear hn
              go_wp2_with fail
              refine q7.out.mono ?_
              rintro e W7 ⟨rfl, b7⟩
              have c7 := c6.trans (b7.mono c6.size)
              clear q7 b7
              go_wp2_with fail
              go_ret
              exact ⟨rfl, c7⟩
        · have f2 : (validI M g != 0) = true := by simpa using hv2
          generalize validI M g = V2 at *
          clear hv2 hap q5 hM5
          by_cases hn : L = []
          · subst hn
            go_wp2_with fail
            go_ret
            exact ⟨rfl, c5⟩
          · have hpos : 0 < L.length := List.length_pos_iff.2 hn
            have f5 : ((L.length : Int) == 0) = false := by simp; omega
            have f6 : (L.length == 0) = false := by simp; omega
            have q7 := Lib.hid (HE.out hn _ hL5)
            rw [HV.out] at q7
            clear hn
            go_wp2_with fail
            refine q7.out.mono ?_
            rintro e W7 ⟨rfl, b7⟩
            have c7 := c5.trans (b7.mono c5.size)
            clear q7 b7
            go_wp2_with fail
            go_ret
            exact ⟨rfl, c7⟩
      · have f1 : (validI L g != 0) = true := by simpa using hv1
        generalize validI L g = V1 at *
        generalize validI M g = V2 at *
        clear hv1 q5 q6 hap hv
        go_wp2_with fail
        go_ret
        exact ⟨rfl, c5⟩
end Go.Proofs.YtpeahjocimhneaaGreatDoor
