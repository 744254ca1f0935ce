/- More plain laws of numbers and texts as bytes. -/
import Derived.Test.YtgehgjalkponfaaGreatDoorNumPlain
namespace Go.Proofs.YtgehgjalkponfaaGreatDoor.Num

theorem getWide_wide (n : Nat) (h : n < 18446744073709551616) (r : List UInt8) : getWide (wide n ++ r) = some (n, 8) := by
  unfold getWide
  rw [if_neg (by simp [wide_len]), List.take_append_of_le_length (by simp [wide_len]), List.take_of_length_le (by simp [wide_len])]
  unfold wide
  rw [unw_wideF 8 n (by simpa using h)]
theorem getWide_only (l : List UInt8) (v k : Nat) (h : getWide l = some (v, k)) : v < 18446744073709551616 ∧ k = 8 ∧ l = wide v ++ l.drop 8 := by
  unfold getWide at h
  split at h
  · cases h
  · rename_i h8
    simp only [Option.some.injEq, Prod.mk.injEq] at h
    have hl : (l.take 8).length = 8 := by simp; omega
    have hlt := unw_lt (l.take 8)
    rw [hl] at hlt
    refine ⟨by rw [← h.1]; simpa using hlt, h.2.symm, ?_⟩
    have := wideF_unw (l.take 8)
    rw [hl] at this
    rw [← h.1]
    unfold wide
    rw [this, List.take_append_drop]
theorem text_len (t : List UInt8) : (text t).length = (small t.length).length + t.length := by simp [text]
theorem getText_text (t : List UInt8) (m : Int) (h : (t.length : Int) ≤ m) (hl : t.length < 18446744073709551616) (r : List UInt8) : getText (text t ++ r) m = some (t, (text t).length) := by
  unfold getText text
  rw [List.append_assoc, getSmall_small t.length hl]
  simp only []
  rw [if_neg (by simp; omega)]
  simp
theorem getText_only (l : List UInt8) (m : Int) (t : List UInt8) (k : Nat) (h : getText l m = some (t, k)) : (t.length : Int) ≤ m ∧ l = text t ++ l.drop k := by
  unfold getText at h
  cases hg : getSmall l with
  | none => rw [hg] at h; cases h
  | some x =>
    obtain ⟨n, j⟩ := x
    obtain ⟨h1, h2, h3⟩ := getSmall_only l n j hg
    rw [hg] at h
    simp only [] at h
    split at h
    · cases h
    · rename_i hc
      simp only [Option.some.injEq, Prod.mk.injEq] at h
      have hlen : t.length = n := by rw [← h.1]; simp; omega
      refine ⟨by omega, ?_⟩
      unfold text
      rw [hlen, ← h.1, ← h.2, List.append_assoc]
      conv => lhs; rw [h3]
      congr 1
      rw [← List.drop_drop, List.take_append_drop]
theorem fixed_at (t : List UInt8) (k : Int) (r : List UInt8) : (fixed t k ++ r)[szN k]? = some (UInt8.ofNat (t.take (szN k)).length) := by
  unfold fixed
  rw [List.append_assoc, List.getElem?_append_right (by simp; omega)]
  simp
  rw [show szN k - (min (szN k) t.length + (szN k - min (szN k) t.length)) = 0 from by omega]
  simp
theorem getFixed_fixed (t : List UInt8) (k : Int) (r : List UInt8) : getFixed (fixed t k ++ r) k = some (t.take (szN k), szN k + 1) := by
  have h255 := szN_le k
  have hb : (UInt8.ofNat (t.take (szN k)).length).toNat = (t.take (szN k)).length := ofNat_toNat _ (by simp; omega)
  have hle : (t.take (szN k)).length ≤ szN k := by simp; omega
  have hz : ((fixed t k ++ r).take (szN k)).drop (t.take (szN k)).length = List.replicate (szN k - (t.take (szN k)).length) 0 := by
    unfold fixed
    rw [List.append_assoc, List.take_left' (by rw [List.length_append, List.length_replicate]; omega), List.drop_left]
  have hp : (fixed t k ++ r).take (t.take (szN k)).length = t.take (szN k) := by
    unfold fixed
    rw [List.append_assoc, List.append_assoc, List.take_left]
  unfold getFixed
  rw [fixed_at]
  simp only [hb]
  rw [if_neg (by rw [hz]; simp; omega), hp]
theorem getFixed_only (l : List UInt8) (k : Int) (t : List UInt8) (j : Nat) (h : getFixed l k = some (t, j)) : l = fixed t k ++ l.drop j := by
  unfold getFixed at h
  cases hg : l[szN k]? with
  | none => rw [hg] at h; cases h
  | some b =>
    rw [hg] at h
    simp only [] at h
    obtain ⟨hlt, hb⟩ := List.getElem?_eq_some_iff.1 hg
    split at h
    · cases h
    · rename_i hc
      simp only [Option.some.injEq, Prod.mk.injEq] at h
      have hbk : b.toNat ≤ szN k := by
        rcases Nat.lt_or_ge (szN k) b.toNat with h' | h'
        · exact absurd (.inl h') hc
        · exact h'
      have hall : ((l.take (szN k)).drop b.toNat).all (· == 0) = true := by
        cases h' : ((l.take (szN k)).drop b.toNat).all (· == 0) with
        | true => rfl
        | false => exact absurd (.inr h') hc
      have htl : t.length = b.toNat := by rw [← h.1]; simp; omega
      have hrep : (l.take (szN k)).drop b.toNat = List.replicate (szN k - b.toNat) 0 := by
        rw [List.eq_replicate_iff]
        refine ⟨by simp; omega, fun x hx => ?_⟩
        have := List.all_eq_true.1 hall x hx
        simpa using this
      have htake : t.take (szN k) = t := List.take_of_length_le (by omega)
      unfold fixed
      rw [htake, htl, ← hrep, ← h.1, ← h.2]
      have e1 : l.take (szN k) = l.take b.toNat ++ (l.take (szN k)).drop b.toNat := by
        conv => lhs; rw [← List.take_append_drop b.toNat (l.take (szN k))]
        rw [List.take_take, Nat.min_eq_left hbk]
      have e2 : l.drop (szN k) = b :: l.drop (szN k + 1) := by rw [List.drop_eq_getElem_cons hlt, hb]
      conv => lhs; rw [← List.take_append_drop (szN k) l, e2, e1]
      simp
theorem getTake_some (l : List UInt8) (n : Nat) (h : n ≤ l.length) : getTake l n = some (l.take n, n) := by
  unfold getTake; rw [if_neg (by omega), Int.toNat_natCast]
end Go.Proofs.YtgehgjalkponfaaGreatDoor.Num
