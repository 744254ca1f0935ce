/- Whether a meta may be: by a sorted row of its numbers. In plain words. -/
import Derived.Test.YtgehgjalkponfaaGreatDoorMetP
import Derived.Lib.SlicesCompact
namespace Go.Proofs.YtgehgjalkponfaaGreatDoor

theorem arr_at (zs : List Int) (j : Nat) (h : j < zs.length) : zs.toArray[j]! = zs[j] := by
  simp [h]
theorem compact_len (zs : List Int) (hs : zs.Pairwise (· ≤ ·)) : (Lib.compact zs).length = zs.length ↔ zs.Nodup := by
  have h1 : (Lib.compact zs).length = zs.length ↔ ∀ j, j < zs.length → (j = 0 ∨ zs.toArray[j]! ≠ zs.toArray[j - 1]!) := by
    unfold Lib.compact Lib.compactUpTo
    rw [List.length_map]
    have := List.length_filter_eq_length_iff (p := Lib.keeps zs.toArray) (l := List.range zs.length)
    rw [List.length_range] at this
    rw [this]
    constructor
    · intro h j hj
      simpa [Lib.keeps] using h j (List.mem_range.2 hj)
    · intro h j hj
      simpa [Lib.keeps] using h j (List.mem_range.1 hj)
  rw [h1]
  have hp := List.pairwise_iff_getElem.1 hs
  constructor
  · intro h
    have hlt : ∀ j i (hj : j < zs.length) (hi : i < j), zs[i]'(by omega) < zs[j] := fun j => by
      induction j with
      | zero => intro i hj hi; omega
      | succ j ih =>
        intro i hj hi
        have h2 := h (j + 1) hj
        rw [arr_at zs (j + 1) hj, show j + 1 - 1 = j by omega, arr_at zs j (by omega)] at h2
        have h3 : zs[j] ≠ zs[j + 1] := fun e => (h2.resolve_left (by omega)) e.symm
        have h4 := hp j (j + 1) (by omega) hj (by omega)
        have h5 : zs[j]'(by omega) < zs[j + 1] := by omega
        by_cases hij : i = j
        · subst hij
          exact h5
        · have := ih i (by omega) (by omega)
          omega
    refine List.pairwise_iff_getElem.2 fun i j hi hj hij e => ?_
    have := hlt j i hj hij
    omega
  · intro h j hj
    by_cases h0 : j = 0
    · exact .inl h0
    · refine .inr fun e => ?_
      rw [arr_at zs j hj, arr_at zs (j - 1) (by omega)] at e
      exact (List.pairwise_iff_getElem.1 h) (j - 1) j (by omega) hj (by omega) e.symm
def sortI (l : List Int) : List Int := l.mergeSort fun x y => decide (x ≤ y)
theorem sortI_len (l : List Int) : (sortI l).length = l.length := List.length_mergeSort _
theorem sortI_mem (l : List Int) (x : Int) : x ∈ sortI l ↔ x ∈ l := List.mem_mergeSort
theorem sortI_sorted (l : List Int) : (sortI l).Pairwise (· ≤ ·) := by
  have := List.pairwise_mergeSort (le := fun (x y : Int) => decide (x ≤ y)) (by intro a b c; simp; omega) (by intro a b; simp; omega) l
  exact this.imp fun h => by simpa using h
theorem sortI_nodup (l : List Int) : (sortI l).Nodup ↔ l.Nodup := (List.mergeSort_perm l _).nodup_iff
/-- What the sorted row tells. -/
theorem valid_sorted (m : Mt) (h1 : 1 ≤ m.gen ∧ m.gen ≤ 3 ∧ 0 ≤ m.next ∧ m.next ≤ 999999 ∧ m.blocks.length ≤ 40) (zs : List Int) (hz : zs = sortI (m.wal :: m.blocks)) (hl : 0 < zs.length) :
    validM m = (decide ((0 : Int) ≤ zs[0]) && (decide (zs[zs.length - 1] < m.next) && decide ((Lib.compact zs).length = m.blocks.length + 1))) := by
  have hlen : zs.length = m.blocks.length + 1 := by rw [hz, sortI_len, List.length_cons]
  have hs : zs.Pairwise (· ≤ ·) := by rw [hz]; exact sortI_sorted _
  have hp := List.pairwise_iff_getElem.1 hs
  have hn : (Lib.compact zs).length = m.blocks.length + 1 ↔ (m.wal :: m.blocks).Nodup := by
    rw [← hlen, compact_len zs hs, hz, sortI_nodup]
  have hr : (∀ x ∈ m.wal :: m.blocks, 0 ≤ x ∧ x < m.next) ↔ (0 : Int) ≤ zs[0] ∧ zs[zs.length - 1] < m.next := by
    constructor
    · intro h
      have a := h zs[0] (by rw [← sortI_mem, ← hz]; exact List.getElem_mem _)
      have b := h zs[zs.length - 1] (by rw [← sortI_mem, ← hz]; exact List.getElem_mem _)
      exact ⟨a.1, b.2⟩
    · rintro ⟨h2, h3⟩ x hx
      rw [← sortI_mem, ← hz] at hx
      obtain ⟨i, hi, rfl⟩ := List.mem_iff_getElem.1 hx
      constructor
      · rcases Nat.eq_zero_or_pos i with rfl | hi0
        · exact h2
        · have := hp 0 i (by omega) hi hi0
          omega
      · by_cases hil : i = zs.length - 1
        · subst hil
          exact h3
        · have := hp i (zs.length - 1) hi (by omega) (by omega)
          omega
  have e : validM m = true ↔ ((0 : Int) ≤ zs[0] ∧ zs[zs.length - 1] < m.next) ∧ (Lib.compact zs).length = m.blocks.length + 1 := by
    rw [validM_iff, hr, hn]
    exact ⟨fun h => h.2, fun h => ⟨h1, h⟩⟩
  cases hv : validM m with
  | true =>
    have := e.1 hv
    simp [this.1.1, this.1.2, this.2]
  | false =>
    have h2 : ¬ (((0 : Int) ≤ zs[0] ∧ zs[zs.length - 1] < m.next) ∧ (Lib.compact zs).length = m.blocks.length + 1) := fun h => by
      rw [e.2 h] at hv
      cases hv
    by_cases a : (0 : Int) ≤ zs[0]
    · by_cases b : zs[zs.length - 1] < m.next
      · have c : ¬ (Lib.compact zs).length = m.blocks.length + 1 := fun h => h2 ⟨⟨a, b⟩, h⟩
        simp [a, b, c]
      · simp [a, b]
    · simp [a]
end Go.Proofs.YtgehgjalkponfaaGreatDoor
