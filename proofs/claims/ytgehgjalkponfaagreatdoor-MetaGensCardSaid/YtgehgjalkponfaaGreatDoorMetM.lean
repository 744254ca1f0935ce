/- A meta as an argument, read as plain numbers. -/
import Derived.Test.YtgehgjalkponfaaGreatDoorMetK
import Derived.Test.YtgehgjalkponfaaGreatDoorRead
namespace Go.Proofs.YtgehgjalkponfaaGreatDoor
open Go.RowKit Go.Maps Go.WideMaps Go.ChangeShapes Go.WideShapes Go.Deep
attribute [local go_sem] bs_toList bs_size

/-- Numbers, as many as they may come. -/
def IntsOpen (w : World) (v : Value) (L : List Int) : Prop :=
  ∃ a c, v = .slice a L.length c ∧ (a = none → c = 0) ∧ L.length ≤ maxLen ∧ (∀ x ∈ L, -9223372036854775808 ≤ x ∧ x ≤ 9223372036854775807) ∧ ∀ (i : Nat) x, L[i]? = some x → ∃ b o, a = some ⟨b, o, none⟩ ∧ w.cell? ⟨b, o + i, none⟩ = some (.int .i64 x)
theorem IntsOpen.at {w : World} {v : Value} {L : List Int} (h : IntsOpen w v L) (hl : L.length ≤ 600) : IntsAt w v L := by
  obtain ⟨a, c, h1, h2, _, h4, h5⟩ := h
  exact ⟨a, c, h1, h2, by omega, h4, h5⟩
section
variable {H : Type} {enc : TypeId × Value → H} {w : World} {base : Nat} {sp : Nat → Bool} {held : Bool}
theorem ints_of_trod {fuel : Nat} {v : Value} {x : DataW H × List MemPlace} (h : DataW.trod enc Tryz.prog w base sp held fuel 22 [v] = some x) : ∃ L, IntsOpen w v L := by
  have h0 : ∃ sa sl sc, v = .slice sa sl sc ∧ (sa = none → sc = 0) := by
    rcases open_slice Tryz.underlying22 h with ⟨e, _⟩ | ⟨_, _, _, _, _, _, _, e, _⟩
    · exact ⟨_, _, _, by simpa using e, fun _ => rfl⟩
    · exact ⟨_, _, _, by simpa using e, (fun e => by cases e)⟩
  obtain ⟨sa, sl, sc, rfl, hn⟩ := h0
  obtain ⟨h1, L, h2, h3, h4⟩ := rows_of_trod Tryz.underlying22 (n := 1) (by kernel_rfl) (by omega) h
  obtain ⟨ks, k1, k2⟩ := exists_list (R := fun cs (z : Int) => cs = [.int .i64 z] ∧ -9223372036854775808 ≤ z ∧ z ≤ 9223372036854775807) L fun cs hc => by
    obtain ⟨m, y, hy⟩ := h4 cs hc
    obtain ⟨n, e1, _, w1⟩ := DataW.trod_int Tryz.underlying3 hy
    have := bounds_i64 w1
    exact ⟨n, e1, this.1, this.2⟩
  refine ⟨ks, sa, sc, by rw [k1, h2], hn, by omega, fun z hz => ?_, fun i z hz => ?_⟩
  · obtain ⟨i, hi⟩ := List.getElem?_of_mem hz
    obtain ⟨cs, _, _, e2⟩ := k2 i z hi
    exact e2
  · obtain ⟨cs, e1, rfl, _⟩ := k2 i z hz
    obtain ⟨_, b, o, e3, e4⟩ := h3 i _ e1
    exact ⟨b, o, e3, by simpa using e4 0 _ rfl⟩
theorem meta_of_trod {cs : Array Value} {d : DataW H} {p : List MemPlace} (h : DataW.Trod enc Tryz.prog w base sp held 24 (.agg cs) d p) : ∃ (m : Mt) (bv : Value), Value.agg cs = mtV m bv ∧ m.ok ∧ IntsOpen w bv m.blocks := by
  obtain ⟨fuel, h⟩ := h
  have h : DataW.trod enc Tryz.prog w base sp held fuel 24 cs.toList = some (d, p) := h
  obtain ⟨hlen, k, hf⟩ := trod_flat Tryz.underlying24 (by kernel_rfl) (by kernel_rfl) h
  obtain ⟨l⟩ := cs
  match l, hlen with
  | [v0, v1, v2, v3], _ =>
    obtain ⟨y0, g0⟩ := hf 0 _ v0 rfl rfl
    obtain ⟨y1, g1⟩ := hf 1 _ v1 rfl rfl
    obtain ⟨y2, g2⟩ := hf 2 _ v2 rfl rfl
    obtain ⟨y3, g3⟩ := hf 3 _ v3 rfl rfl
    obtain ⟨G, e0, _, w0⟩ := DataW.trod_int Tryz.underlying3 g0
    obtain ⟨N, e1, _, w1⟩ := DataW.trod_int Tryz.underlying3 g1
    obtain ⟨L, e2, _, w2⟩ := DataW.trod_int Tryz.underlying3 g2
    obtain ⟨B, hB⟩ := ints_of_trod g3
    simp only [List.cons.injEq, and_true] at e0 e1 e2
    subst e0 e1 e2
    exact ⟨⟨G, N, L, B⟩, v3, rfl, ⟨bounds_i64 w0, bounds_i64 w1, bounds_i64 w2⟩, hB⟩
end
theorem put_len (m : Mt) : (putM m).1.length ≤ 1000 := by
  cases h : validM m with
  | false =>
    have : putM m = ([], 1) := by
      unfold putM
      rw [h]
      rfl
    rw [this]
    exact Nat.zero_le _
  | true =>
    have hp : putM m = (headB magicM m.gen.toNat 0 ++ framePut (bodyB m), 0) := by
      unfold putM
      rw [if_pos h]
    have hb := body_len m ((validM_iff m).1 h).1.2.2.2.2
    have h1 : (headB magicM m.gen.toNat 0).length = 10 := by
      unfold headB
      rw [checkedB_len]
      rfl
    have h2 : (framePut (bodyB m)).length ≤ 14 + (bodyB m).length := by
      have := (Num.small_len (bodyB m).length).2
      unfold framePut
      rw [checkedB_len]
      unfold Num.text
      rw [List.length_append]
      omega
    rw [hp, List.length_append]
    omega
theorem put_ok (m : Mt) (h : validM m = true) : putM m = ((putM m).1, 0) := by
  unfold putM
  rw [if_pos h]
theorem put_bad (m : Mt) (h : validM m = false) : putM m = ([], 1) := by
  unfold putM
  rw [h]
  rfl
end Go.Proofs.YtgehgjalkponfaaGreatDoor
