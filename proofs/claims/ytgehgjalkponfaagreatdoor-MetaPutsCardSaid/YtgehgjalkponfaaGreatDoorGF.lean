/- Arguments that are slices, read as plain lists. Over any program. A meta as an argument, read as plain numbers. -/
import Derived.Test.YtgehgjalkponfaaGreatDoorGA
import Derived.Deep.Slices
import Derived.ChangeArms
import Derived.OpenShut
import Derived.Test.YtgehgjalkponfaaGreatDoorGE
namespace Go.Proofs.YtgehgjalkponfaaGreatDoor
open Go.RowKit Go.ChangeShapes Go.WideShapes Go.Deep

theorem exists_list {α β : Type} {R : α → β → Prop} : ∀ (L : List α), (∀ x ∈ L, ∃ y, R x y) → ∃ l : List β, l.length = L.length ∧ ∀ (i : Nat) y, l[i]? = some y → ∃ x, L[i]? = some x ∧ R x y
  | [], _ => ⟨[], rfl, fun i y h => by simp at h⟩
  | x :: L, h => by
    obtain ⟨y, hy⟩ := h x (by simp)
    obtain ⟨l, h1, h2⟩ := exists_list L fun x hx => h x (by simp [hx])
    refine ⟨y :: l, by simp [h1], fun i z hz => ?_⟩
    cases i with
    | zero =>
      obtain rfl : y = z := by simpa using hz
      exact ⟨x, rfl, hy⟩
    | succ i => simpa using h2 i z (by simpa using hz)

section
variable {H : Type} {enc : TypeId × Value → H} {P : Program} {w : World} {base : Nat} {sp : Nat → Bool} {held : Bool}

/-- The elements of a slice, each as its cells. -/
theorem rows_of_trod {t e n : Nat} {fuel : Nat} {sa : Option Addr} {sl sc : Nat} {x : DataW H × List MemPlace} (ht : P.underlying t = some (.slice e)) (hn : P.cellsOf e = n) (hpos : 0 < n)
    (h : DataW.trod enc P w base sp held fuel t [.slice sa sl sc] = some x) :
    sl ≤ maxLen ∧ ∃ L : List (List Value), L.length = sl ∧ (∀ (i : Nat) cs, L[i]? = some cs → cs.length = n ∧ ∃ b o, sa = some ⟨b, o, none⟩ ∧ ∀ (j : Nat) u, cs[j]? = some u → w.cell? ⟨b, o + i * n + j, none⟩ = some u) ∧
      ∀ cs ∈ L, ∃ m y, DataW.trod enc P w base sp held m e cs = some y := by
  rcases open_slice ht h with ⟨h0, _⟩ | ⟨a, len, cap, m, k, D, Pl, h0, hb, hl, hm, hmm, rfl, hx⟩
  · simp only [List.cons.injEq, Value.slice.injEq, and_true] at h0
    obtain ⟨rfl, rfl, rfl⟩ := h0
    exact ⟨by simp, [], rfl, fun i cs h => by simp at h, fun cs h => by cases h⟩
  · simp only [List.cons.injEq, Value.slice.injEq, and_true] at h0
    obtain ⟨rfl, rfl, rfl⟩ := h0
    have hlm : sl ≤ m := by rw [hmm]; split <;> omega
    have each : ∀ i ∈ List.range sl, ∃ cs : List Value, (w.cells? base (a.add (i * n)) n = some cs) ∧ ∃ m y, DataW.trod enc P w base sp held m e cs = some y := fun i hi => by
      obtain ⟨cs, h1, h2⟩ := hx i (by have := List.mem_range.1 hi; omega)
      rw [hn] at h1
      exact ⟨cs, h1, k, _, h2⟩
    have hspot0 : 0 < sl → a.spot = none := fun h0 => by
      obtain ⟨cs, h1, _⟩ := hx 0 (by omega)
      rw [hn] at h1
      obtain ⟨_, hlen, hcell⟩ := World.cells?_some h1
      have h3 := hcell 0 hpos
      rw [List.getElem?_eq_getElem (by omega)] at h3
      simpa [Addr.add] using World.cell?_spot h3
    obtain ⟨L, h1, h2⟩ := exists_list (List.range sl) each
    refine ⟨by omega, L, by simpa using h1, fun i cs hi => ?_, fun cs hc => ?_⟩
    · obtain ⟨i', e1, e2, _⟩ := h2 i cs hi
      have hlt : i < sl := by
        have := (List.getElem?_eq_some_iff.1 hi).1
        simpa [h1] using this
      obtain rfl : i = i' := by simpa [hlt] using e1
      obtain ⟨_, hlen, hcell⟩ := World.cells?_some e2
      obtain ⟨b, o, spot⟩ := a
      have hspot : spot = none := hspot0 (by omega)
      subst hspot
      refine ⟨hlen, b, o, rfl, fun j u hj => ?_⟩
      have hjl : j < cs.length := (List.getElem?_eq_some_iff.1 hj).1
      have h4 := hcell j (by omega)
      rw [add_add, Addr.add_lit] at h4
      rw [show o + i * n + j = o + (i * n + j) by omega, h4, hj]
    · obtain ⟨i, hi⟩ := List.getElem?_of_mem hc
      obtain ⟨_, _, _, e3⟩ := h2 i cs hi
      exact e3

/-- All fields are one cell wide, one behind the other. -/
def flatB (P : Program) (fs : Array Field) : Bool := (List.range fs.size).all fun i => match fs[i]? with
  | some f => decide (f.offset = i) && decide (P.cellsOf f.type = 1)
  | none => true
theorem trod_flat {t fuel : Nat} {fs : Array Field} {cs : List Value} {x : DataW H × List MemPlace} (ht : P.underlying t = some (.struct fs)) (hB : flatB P fs = true) (hc : P.cellsOf t = fs.size) (h : DataW.trod enc P w base sp held fuel t cs = some x) :
    cs.length = fs.size ∧ ∃ k, ∀ (i : Nat) f v, fs[i]? = some f → cs[i]? = some v → ∃ y, DataW.trod enc P w base sp held k f.type [v] = some y := by
  obtain ⟨xs, k, _, _, hlen, hxl, hf⟩ := DataW.trod_struct ht h
  refine ⟨hlen.trans hc, k, fun i f v hi hv => ?_⟩
  have hlt : i < fs.size := (Array.getElem?_eq_some_iff.1 hi).1
  unfold flatB at hB
  have := List.all_eq_true.1 hB i (List.mem_range.2 hlt)
  rw [hi] at this
  simp only [Bool.and_eq_true, decide_eq_true_eq] at this
  have h1 := hf i f hi
  rw [this.1, this.2] at h1
  have hvl : i < cs.length := (List.getElem?_eq_some_iff.1 hv).1
  have h2 : (cs.drop i).take 1 = [v] := by
    rw [List.drop_eq_getElem_cons hvl]
    have : cs[i] = v := by rw [List.getElem?_eq_getElem hvl] at hv; exact Option.some.inj hv
    simp [this]
  rw [h2] at h1
  rw [List.getElem?_eq_getElem (by rw [hxl]; exact hlt)] at h1
  exact ⟨_, h1⟩
end
end Go.Proofs.YtgehgjalkponfaaGreatDoor
namespace Go.Proofs.YtgehgjalkponfaaGreatDoor
open Go.RowKit Go.Maps Go.WideMaps Go.ChangeShapes Go.WideShapes Go.Deep
attribute [local go_sem] bs_toList bs_size

/-- Numbers, as many as they may come. -/
def IntsOpen (w : World) (v : Value) (L : List Int) : Prop :=
  ∃ a c, v = .slice a L.length c ∧ (a = none → c = 0) ∧ L.length ≤ maxLen ∧ (∀ x ∈ L, -9223372036854775808 ≤ x ∧ x ≤ 9223372036854775807) ∧ ∀ (i : Nat) x, L[i]? = some x → ∃ b o, a = some ⟨b, o, none⟩ ∧ w.cell? ⟨b, o + i, none⟩ = some (.int .i64 x)
theorem IntsOpen.at {w : World} {v : Value} {L : List Int} (h : IntsOpen w v L) (hl : L.length ≤ 600) : IntsAt w v L := by
  obtain ⟨a, c, h1, h2, _, h4, h5⟩ := h
  exact ⟨a, c, h1, h2, by omega, h4, h5⟩
section
variable {H : Type} {enc : TypeId × Value → H} {w : World} {base : Nat} {sp : Nat → Bool} {held : Bool}
theorem ints_of_trod {fuel : Nat} {v : Value} {x : DataW H × List MemPlace} (h : DataW.trod enc Tryz.prog w base sp held fuel 22 [v] = some x) : ∃ L, IntsOpen w v L := by
  have h0 : ∃ sa sl sc, v = .slice sa sl sc ∧ (sa = none → sc = 0) := by
    rcases open_slice Tryz.underlying22 h with ⟨e, _⟩ | ⟨_, _, _, _, _, _, _, e, _⟩
    · exact ⟨_, _, _, by simpa using e, fun _ => rfl⟩
    · exact ⟨_, _, _, by simpa using e, (fun e => by cases e)⟩
  obtain ⟨sa, sl, sc, rfl, hn⟩ := h0
  obtain ⟨h1, L, h2, h3, h4⟩ := rows_of_trod Tryz.underlying22 (n := 1) (by kernel_rfl) (by omega) h
  obtain ⟨ks, k1, k2⟩ := exists_list (R := fun cs (z : Int) => cs = [.int .i64 z] ∧ -9223372036854775808 ≤ z ∧ z ≤ 9223372036854775807) L fun cs hc => by
    obtain ⟨m, y, hy⟩ := h4 cs hc
    obtain ⟨n, e1, _, w1⟩ := DataW.trod_int Tryz.underlying3 hy
    have := bounds_i64 w1
    exact ⟨n, e1, this.1, this.2⟩
  refine ⟨ks, sa, sc, by rw [k1, h2], hn, by omega, fun z hz => ?_, fun i z hz => ?_⟩
  · obtain ⟨i, hi⟩ := List.getElem?_of_mem hz
    obtain ⟨cs, _, _, e2⟩ := k2 i z hi
    exact e2
  · obtain ⟨cs, e1, rfl, _⟩ := k2 i z hz
    obtain ⟨_, b, o, e3, e4⟩ := h3 i _ e1
    exact ⟨b, o, e3, by simpa using e4 0 _ rfl⟩
theorem meta_of_trod {cs : Array Value} {d : DataW H} {p : List MemPlace} (h : DataW.Trod enc Tryz.prog w base sp held 24 (.agg cs) d p) : ∃ (m : Mt) (bv : Value), Value.agg cs = mtV m bv ∧ m.ok ∧ IntsOpen w bv m.blocks := by
  obtain ⟨fuel, h⟩ := h
  have h : DataW.trod enc Tryz.prog w base sp held fuel 24 cs.toList = some (d, p) := h
  obtain ⟨hlen, k, hf⟩ := trod_flat Tryz.underlying24 (by kernel_rfl) (by kernel_rfl) h
  obtain ⟨l⟩ := cs
  match l, hlen with
  | [v0, v1, v2, v3], _ =>
    obtain ⟨y0, g0⟩ := hf 0 _ v0 rfl rfl
    obtain ⟨y1, g1⟩ := hf 1 _ v1 rfl rfl
    obtain ⟨y2, g2⟩ := hf 2 _ v2 rfl rfl
    obtain ⟨y3, g3⟩ := hf 3 _ v3 rfl rfl
    obtain ⟨G, e0, _, w0⟩ := DataW.trod_int Tryz.underlying3 g0
    obtain ⟨N, e1, _, w1⟩ := DataW.trod_int Tryz.underlying3 g1
    obtain ⟨L, e2, _, w2⟩ := DataW.trod_int Tryz.underlying3 g2
    obtain ⟨B, hB⟩ := ints_of_trod g3
    simp only [List.cons.injEq, and_true] at e0 e1 e2
    subst e0 e1 e2
    exact ⟨⟨G, N, L, B⟩, v3, rfl, ⟨bounds_i64 w0, bounds_i64 w1, bounds_i64 w2⟩, hB⟩
end
theorem put_len (m : Mt) : (putM m).1.length ≤ 1000 := by
  cases h : validM m with
  | false =>
    have : putM m = ([], 1) := by
      unfold putM
      rw [h]
      rfl
    rw [this]
    exact Nat.zero_le _
  | true =>
    have hp : putM m = (headB magicM m.gen.toNat 0 ++ framePut (bodyB m), 0) := by
      unfold putM
      rw [if_pos h]
    have hb := body_len m ((validM_iff m).1 h).1.2.2.2.2
    have h1 : (headB magicM m.gen.toNat 0).length = 10 := by
      unfold headB
      rw [checkedB_len]
      rfl
    have h2 : (framePut (bodyB m)).length ≤ 14 + (bodyB m).length := by
      have := (Num.small_len (bodyB m).length).2
      unfold framePut
      rw [checkedB_len]
      unfold Num.text
      rw [List.length_append]
      omega
    rw [hp, List.length_append]
    omega
theorem put_ok (m : Mt) (h : validM m = true) : putM m = ((putM m).1, 0) := by
  unfold putM
  rw [if_pos h]
theorem put_bad (m : Mt) (h : validM m = false) : putM m = ([], 1) := by
  unfold putM
  rw [h]
  rfl
end Go.Proofs.YtgehgjalkponfaaGreatDoor
