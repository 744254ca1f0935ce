/- Arguments that are slices, read as plain lists. Over any program. -/
import Derived.Test.YtgagcncmlonciaaGreatDoorGA
import Derived.Deep.Slices
import Derived.ChangeArms
import Derived.OpenShut
namespace Go.Proofs.YtgagcncmlonciaaGreatDoor
open Go.RowKit Go.ChangeShapes Go.WideShapes Go.Deep

theorem exists_list {α β : Type} {R : α → β → Prop} : ∀ (L : List α), (∀ x ∈ L, ∃ y, R x y) → ∃ l : List β, l.length = L.length ∧ ∀ (i : Nat) y, l[i]? = some y → ∃ x, L[i]? = some x ∧ R x y
  | [], _ => ⟨[], rfl, fun i y h => by simp at h⟩
  | x :: L, h => by
    obtain ⟨y, hy⟩ := h x (by simp)
    obtain ⟨l, h1, h2⟩ := exists_list L fun x hx => h x (by simp [hx])
    refine ⟨y :: l, by simp [h1], fun i z hz => ?_⟩
    cases i with
    | zero =>
      obtain rfl : y = z := by simpa using hz
      exact ⟨x, rfl, hy⟩
    | succ i => simpa using h2 i z (by simpa using hz)

section
variable {H : Type} {enc : TypeId × Value → H} {P : Program} {w : World} {base : Nat} {sp : Nat → Bool} {held : Bool}

/-- The elements of a slice, each as its cells. -/
theorem rows_of_trod {t e n : Nat} {fuel : Nat} {sa : Option Addr} {sl sc : Nat} {x : DataW H × List MemPlace} (ht : P.underlying t = some (.slice e)) (hn : P.cellsOf e = n) (hpos : 0 < n)
    (h : DataW.trod enc P w base sp held fuel t [.slice sa sl sc] = some x) :
    sl ≤ maxLen ∧ ∃ L : List (List Value), L.length = sl ∧ (∀ (i : Nat) cs, L[i]? = some cs → cs.length = n ∧ ∃ b o, sa = some ⟨b, o, none⟩ ∧ ∀ (j : Nat) u, cs[j]? = some u → w.cell? ⟨b, o + i * n + j, none⟩ = some u) ∧
      ∀ cs ∈ L, ∃ m y, DataW.trod enc P w base sp held m e cs = some y := by
  rcases open_slice ht h with ⟨h0, _⟩ | ⟨a, len, cap, m, k, D, Pl, h0, hb, hl, hm, hmm, rfl, hx⟩
  · simp only [List.cons.injEq, Value.slice.injEq, and_true] at h0
    obtain ⟨rfl, rfl, rfl⟩ := h0
    exact ⟨by simp, [], rfl, fun i cs h => by simp at h, fun cs h => by cases h⟩
  · simp only [List.cons.injEq, Value.slice.injEq, and_true] at h0
    obtain ⟨rfl, rfl, rfl⟩ := h0
    have hlm : sl ≤ m := by rw [hmm]; split <;> omega
    have each : ∀ i ∈ List.range sl, ∃ cs : List Value, (w.cells? base (a.add (i * n)) n = some cs) ∧ ∃ m y, DataW.trod enc P w base sp held m e cs = some y := fun i hi => by
      obtain ⟨cs, h1, h2⟩ := hx i (by have := List.mem_range.1 hi; omega)
      rw [hn] at h1
      exact ⟨cs, h1, k, _, h2⟩
    have hspot0 : 0 < sl → a.spot = none := fun h0 => by
      obtain ⟨cs, h1, _⟩ := hx 0 (by omega)
      rw [hn] at h1
      obtain ⟨_, hlen, hcell⟩ := World.cells?_some h1
      have h3 := hcell 0 hpos
      rw [List.getElem?_eq_getElem (by omega)] at h3
      simpa [Addr.add] using World.cell?_spot h3
    obtain ⟨L, h1, h2⟩ := exists_list (List.range sl) each
    refine ⟨by omega, L, by simpa using h1, fun i cs hi => ?_, fun cs hc => ?_⟩
    · obtain ⟨i', e1, e2, _⟩ := h2 i cs hi
      have hlt : i < sl := by
        have := (List.getElem?_eq_some_iff.1 hi).1
        simpa [h1] using this
      obtain rfl : i = i' := by simpa [hlt] using e1
      obtain ⟨_, hlen, hcell⟩ := World.cells?_some e2
      obtain ⟨b, o, spot⟩ := a
      have hspot : spot = none := hspot0 (by omega)
      subst hspot
      refine ⟨hlen, b, o, rfl, fun j u hj => ?_⟩
      have hjl : j < cs.length := (List.getElem?_eq_some_iff.1 hj).1
      have h4 := hcell j (by omega)
      rw [add_add, Addr.add_lit] at h4
      rw [show o + i * n + j = o + (i * n + j) by omega, h4, hj]
    · obtain ⟨i, hi⟩ := List.getElem?_of_mem hc
      obtain ⟨_, _, _, e3⟩ := h2 i cs hi
      exact e3

/-- All fields are one cell wide, one behind the other. -/
def flatB (P : Program) (fs : Array Field) : Bool := (List.range fs.size).all fun i => match fs[i]? with
  | some f => decide (f.offset = i) && decide (P.cellsOf f.type = 1)
  | none => true
theorem trod_flat {t fuel : Nat} {fs : Array Field} {cs : List Value} {x : DataW H × List MemPlace} (ht : P.underlying t = some (.struct fs)) (hB : flatB P fs = true) (hc : P.cellsOf t = fs.size) (h : DataW.trod enc P w base sp held fuel t cs = some x) :
    cs.length = fs.size ∧ ∃ k, ∀ (i : Nat) f v, fs[i]? = some f → cs[i]? = some v → ∃ y, DataW.trod enc P w base sp held k f.type [v] = some y := by
  obtain ⟨xs, k, _, _, hlen, hxl, hf⟩ := DataW.trod_struct ht h
  refine ⟨hlen.trans hc, k, fun i f v hi hv => ?_⟩
  have hlt : i < fs.size := (Array.getElem?_eq_some_iff.1 hi).1
  unfold flatB at hB
  have := List.all_eq_true.1 hB i (List.mem_range.2 hlt)
  rw [hi] at this
  simp only [Bool.and_eq_true, decide_eq_true_eq] at this
  have h1 := hf i f hi
  rw [this.1, this.2] at h1
  have hvl : i < cs.length := (List.getElem?_eq_some_iff.1 hv).1
  have h2 : (cs.drop i).take 1 = [v] := by
    rw [List.drop_eq_getElem_cons hvl]
    have : cs[i] = v := by rw [List.getElem?_eq_getElem hvl] at hv; exact Option.some.inj hv
    simp [this]
  rw [h2] at h1
  rw [List.getElem?_eq_getElem (by rw [hxl]; exact hlt)] at h1
  exact ⟨_, h1⟩
end
end Go.Proofs.YtgagcncmlonciaaGreatDoor
