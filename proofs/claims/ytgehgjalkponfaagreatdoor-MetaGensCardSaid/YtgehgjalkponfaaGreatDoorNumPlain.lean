/- Numbers and texts as bytes: plain functions on lists, and their laws. No program in sight. -/
import Derived.Laws.BitsAllLaws
import Derived.Laws.BitsLemmas
namespace Go.Proofs.YtgehgjalkponfaaGreatDoor.Num

def zigI (n : Int) : Int := if 0 ≤ n then 2 * n else -2 * n - 1
def zagI (n : Int) : Int := if n % 2 = 0 then n / 2 else -(n / 2) - 1
theorem zag_zig (n : Int) : zagI (zigI n) = n := by unfold zagI zigI; split <;> (split <;> omega)
theorem zig_zag (n : Int) (h : 0 ≤ n) : zigI (zagI n) = n := by unfold zagI zigI; split <;> (split <;> omega)
theorem zig_bd (n : Int) (h1 : -9223372036854775808 ≤ n) (h2 : n ≤ 9223372036854775807) : 0 ≤ zigI n ∧ zigI n < 18446744073709551616 := by
  unfold zigI; split <;> omega
theorem zag_bd (n : Int) (h1 : 0 ≤ n) (h2 : n < 18446744073709551616) : -9223372036854775808 ≤ zagI n ∧ zagI n ≤ 9223372036854775807 := by
  unfold zagI; split <;> omega

def smallF : Nat → Nat → List UInt8
  | 0, n => [UInt8.ofNat n]
  | f + 1, n => if n < 128 then [UInt8.ofNat n] else UInt8.ofNat (n % 128 + 128) :: smallF f (n / 128)
def small (n : Nat) : List UInt8 := smallF 9 n
def text (t : List UInt8) : List UInt8 := small t.length ++ t
def wideF : Nat → Nat → List UInt8
  | 0, _ => []
  | k + 1, n => UInt8.ofNat (n % 256) :: wideF k (n / 256)
def wide (n : Nat) : List UInt8 := wideF 8 n
def szI (k : Int) : Int := min (max k 0) 255
def szN (k : Int) : Nat := (szI k).toNat
def fixed (t : List UInt8) (k : Int) : List UInt8 :=
  t.take (szN k) ++ List.replicate (szN k - (t.take (szN k)).length) 0 ++ [UInt8.ofNat (t.take (szN k)).length]

def gsF : Nat → Nat → Nat → List UInt8 → Option (Nat × Nat)
  | 0, _, _, _ => none
  | _ + 1, _, _, [] => none
  | f + 1, i, n, b :: r =>
    if (i = 9 ∧ 1 < b.toNat) ∨ (0 < i ∧ b.toNat = 0) then none
    else if b.toNat < 128 then some (n + b.toNat * 128 ^ i, i + 1)
    else gsF f (i + 1) (n + (b.toNat - 128) * 128 ^ i) r
def getSmall (l : List UInt8) : Option (Nat × Nat) := gsF 10 0 0 l
def unw : List UInt8 → Nat
  | [] => 0
  | b :: r => b.toNat + 256 * unw r
def getWide (l : List UInt8) : Option (Nat × Nat) := if l.length < 8 then none else some (unw (l.take 8), 8)
def getText (l : List UInt8) (most : Int) : Option (List UInt8 × Nat) :=
  match getSmall l with
  | none => none
  | some (n, k) => if most < 0 ∨ l.length - k < n ∨ most.toNat < n then none else some ((l.drop k).take n, k + n)
def getFixed (l : List UInt8) (k : Int) : Option (List UInt8 × Nat) :=
  match l[szN k]? with
  | none => none
  | some b => if szN k < b.toNat ∨ ((l.take (szN k)).drop b.toNat).all (· == 0) = false then none else some (l.take b.toNat, szN k + 1)
def getTake (l : List UInt8) (n : Int) : Option (List UInt8 × Nat) := if n < 0 ∨ (l.length : Int) < n then none else some (l.take n.toNat, n.toNat)

/-- What a cursor answers, and what it is then. -/
def ans {α : Type} (z : α) (c : List UInt8 × Bool) (g : Option (α × Nat)) : α := if c.2 then z else match g with | none => z | some (v, _) => v
def nxt {α : Type} (c : List UInt8 × Bool) (g : Option (α × Nat)) : List UInt8 × Bool := if c.2 then c else match g with | none => (c.1, true) | some (_, n) => (c.1.drop n, false)

theorem szN_le (k : Int) : szN k ≤ 255 := by unfold szN szI; omega
theorem ofNat_toNat (n : Nat) (h : n < 256) : (UInt8.ofNat n).toNat = n := by simp; omega

theorem smallF_len (f n : Nat) : 1 ≤ (smallF f n).length ∧ (smallF f n).length ≤ f + 1 := by
  induction f generalizing n with
  | zero => simp [smallF]
  | succ f ih =>
    unfold smallF; split
    · simp
    · have := ih (n / 128); simp only [List.length_cons]; omega
theorem small_len (n : Nat) : 1 ≤ (small n).length ∧ (small n).length ≤ 10 := smallF_len 9 n
theorem smallF_mono (f a b : Nat) (h : a ≤ b) : (smallF f a).length ≤ (smallF f b).length := by
  induction f generalizing a b with
  | zero => simp [smallF]
  | succ f ih =>
    unfold smallF
    by_cases hb : b < 128
    · rw [if_pos hb, if_pos (by omega)]; simp
    · rw [if_neg hb]; split
      · simp
      · have := ih (a / 128) (b / 128) (Nat.div_le_div_right h); simp only [List.length_cons]; omega
theorem small_mono (a b : Nat) (h : a ≤ b) : (small a).length ≤ (small b).length := smallF_mono 9 a b h
theorem wideF_len (k n : Nat) : (wideF k n).length = k := by
  induction k generalizing n with
  | zero => rfl
  | succ k ih => simp [wideF, ih]
theorem wide_len (n : Nat) : (wide n).length = 8 := wideF_len 8 n
theorem fixed_len (t : List UInt8) (k : Int) : (fixed t k).length = szN k + 1 := by
  unfold fixed; simp; omega

theorem p128 (i : Nat) : 128 ^ (i + 1) = 128 * 128 ^ i := by rw [Nat.pow_succ, Nat.mul_comm]

/-- What is written is read again. -/
theorem gsF_smallF (f i n acc : Nat) (rest : List UInt8) (hi : i + f = 9) (hn : n * 128 ^ i < 18446744073709551616) (h0 : 0 < i → 0 < n) :
    gsF (f + 1) i acc (smallF f n ++ rest) = some (acc + n * 128 ^ i, i + (smallF f n).length) := by
  induction f generalizing i n acc with
  | zero =>
    obtain rfl : i = 9 := by omega
    have h2 : n < 2 := by
      rcases Nat.lt_or_ge n 2 with h | h
      · exact h
      · have := Nat.mul_le_mul_right (128 ^ 9) h; omega
    have hb : (UInt8.ofNat n).toNat = n := ofNat_toNat n (by omega)
    simp only [smallF, List.cons_append, List.nil_append, gsF, hb]
    have := h0 (by omega)
    rw [if_neg (by omega), if_pos (by omega)]; rfl
  | succ f ih =>
    unfold smallF
    by_cases h : n < 128
    · have hb : (UInt8.ofNat n).toNat = n := ofNat_toNat n (by omega)
      rw [if_pos h]
      simp only [List.cons_append, List.nil_append, gsF, hb]
      rw [if_neg (by rintro (⟨h1, _⟩ | ⟨h1, h2⟩); omega; have := h0 h1; omega), if_pos h]; rfl
    · have hb : (UInt8.ofNat (n % 128 + 128)).toNat = n % 128 + 128 := ofNat_toNat _ (by omega)
      rw [if_neg h]
      simp only [List.cons_append, gsF, hb]
      rw [if_neg (by omega), if_neg (by omega)]
      have hle : n / 128 * 128 ^ (i + 1) ≤ n * 128 ^ i := by
        rw [p128, ← Nat.mul_assoc]; exact Nat.mul_le_mul_right _ (Nat.div_mul_le_self n 128)
      rw [ih (i + 1) (n / 128) _ (by omega) (by omega) (by omega)]
      have e : n * 128 ^ i = (n % 128) * 128 ^ i + n / 128 * 128 ^ (i + 1) := by
        rw [p128, ← Nat.mul_assoc, ← Nat.add_mul]
        have := Nat.div_add_mod n 128
        rw [Nat.mul_comm (n / 128) 128, Nat.add_comm, this]
      simp only [List.length_cons, Nat.add_sub_cancel]
      rw [e]
      congr 2 <;> omega
theorem getSmall_small (n : Nat) (h : n < 18446744073709551616) (rest : List UInt8) : getSmall (small n ++ rest) = some (n, (small n).length) := by
  have := gsF_smallF 9 0 n 0 rest (by omega) (by simpa using h) (by omega)
  simpa [getSmall, small] using this

/-- Nothing else is read. -/
theorem gsF_only (f i acc : Nat) (l : List UInt8) (v k : Nat) (hi : i + f = 9) (h : gsF (f + 1) i acc l = some (v, k)) :
    ∃ m, v = acc + m * 128 ^ i ∧ (0 < i → 0 < m) ∧ m < 2 * 128 ^ f ∧ k = i + (smallF f m).length ∧ ∃ r, l = smallF f m ++ r := by
  induction f generalizing i acc l with
  | zero =>
    obtain rfl : i = 9 := by omega
    cases l with
    | nil => simp [gsF] at h
    | cons b r =>
      simp only [gsF] at h
      split at h
      · cases h
      · rename_i h1
        have h1' : b.toNat ≤ 1 ∧ b.toNat ≠ 0 := by
          have h2 : ¬ 1 < b.toNat := fun h => h1 (.inl ⟨trivial, h⟩)
          have h3 : ¬ b.toNat = 0 := fun h => h1 (.inr ⟨by omega, h⟩)
          omega
        rw [if_pos (by omega)] at h
        simp only [Option.some.injEq, Prod.mk.injEq] at h
        refine ⟨b.toNat, h.1.symm, by omega, by omega, by simp [smallF]; omega, r, by simp [smallF]⟩
  | succ f ih =>
    cases l with
    | nil => simp [gsF] at h
    | cons b r =>
      rw [gsF] at h
      split at h
      · cases h
      · rename_i h1
        split at h
        · rename_i h2
          simp only [Option.some.injEq, Prod.mk.injEq] at h
          have hp : 0 < 128 ^ f := Nat.pow_pos (by omega)
          refine ⟨b.toNat, h.1.symm, by omega, by rw [p128]; omega, ?_, r, ?_⟩
          · unfold smallF; rw [if_pos h2]; simp; omega
          · unfold smallF; rw [if_pos h2]; simp
        · rename_i h2
          obtain ⟨m, hv, hm0, hm, hk, r', hr⟩ := ih (i + 1) _ r (by omega) h
          have hm1 := hm0 (by omega)
          have hbl : b.toNat < 256 := UInt8.toNat_lt b
          have e1 : (m * 128 + (b.toNat - 128)) / 128 = m := by omega
          have e2 : (m * 128 + (b.toNat - 128)) % 128 = b.toNat - 128 := by omega
          refine ⟨m * 128 + (b.toNat - 128), ?_, by omega, by rw [p128]; omega, ?_, r', ?_⟩
          · rw [hv, p128, Nat.add_mul, ← Nat.mul_assoc]; omega
          · unfold smallF; rw [if_neg (by omega), e1, hk]; simp only [List.length_cons]; omega
          · unfold smallF; rw [if_neg (by omega), e1, e2, hr]
            have : b.toNat - 128 + 128 = b.toNat := by omega
            rw [this]; simp
theorem getSmall_only (l : List UInt8) (v k : Nat) (h : getSmall l = some (v, k)) : v < 18446744073709551616 ∧ k = (small v).length ∧ l = small v ++ l.drop k := by
  obtain ⟨m, hv, _, hm, hk, r, hr⟩ := gsF_only 9 0 0 l v k (by omega) h
  have e : v = m := by rw [hv]; simp
  subst e
  have hk' : k = (smallF 9 v).length := by rw [hk]; omega
  refine ⟨by simpa using hm, hk', ?_⟩
  rw [hk']
  conv => rhs; rw [hr]
  rw [hr]
  simp [small]

theorem unw_lt (l : List UInt8) : unw l < 256 ^ l.length := by
  induction l with
  | nil => simp [unw]
  | cons b r ih =>
    have hbl : b.toNat < 256 := UInt8.toNat_lt b
    simp only [unw, List.length_cons, Nat.pow_succ]; omega
theorem unw_wideF (k n : Nat) (h : n < 256 ^ k) : unw (wideF k n) = n := by
  induction k generalizing n with
  | zero => simp [wideF, unw] at *; omega
  | succ k ih =>
    rw [Nat.pow_succ] at h
    have := ih (n / 256) (by omega)
    simp only [wideF, unw, this]
    rw [ofNat_toNat _ (by omega)]; omega
theorem wideF_unw (l : List UInt8) : wideF l.length (unw l) = l := by
  induction l with
  | nil => rfl
  | cons b r ih =>
    have hbl : b.toNat < 256 := UInt8.toNat_lt b
    have e1 : (b.toNat + 256 * unw r) % 256 = b.toNat := by omega
    have e2 : (b.toNat + 256 * unw r) / 256 = unw r := by omega
    simp only [List.length_cons, wideF, unw, e1, e2, ih]
    simp
end Go.Proofs.YtgehgjalkponfaaGreatDoor.Num
