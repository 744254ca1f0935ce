/- Names of files, and of what file a name is: in plain words. -/
import Derived.Test.YtgehgjalkponfaaGreatDoorGen
import Derived.Lib.AtoiAllCases
import Derived.Lib.ItoaNum
import Derived.Lib.IndexMore
namespace Go.Proofs.YtgehgjalkponfaaGreatDoor
open Go.RowKit

def dig (n i : Nat) : UInt8 := UInt8.ofNat (48 + n / 10 ^ i % 10)
/-- Six digits of a number. -/
def six (n : Nat) : List UInt8 := [dig n 5, dig n 4, dig n 3, dig n 2, dig n 1, dig n 0]
def walK : List UInt8 := [119, 97, 108]
def blockK : List UInt8 := [98, 108, 111, 99, 107]
/-- The name of a file. -/
def nameB (kind : List UInt8) (n : Int) : List UInt8 := if n < 0 ∨ 999999 < n then [] else kind ++ 45 :: six n.toNat
theorem dig_toNat (n i : Nat) : (dig n i).toNat = 48 + n / 10 ^ i % 10 := by
  unfold dig
  have : n / 10 ^ i % 10 < 10 := Nat.mod_lt _ (by decide)
  simp
  omega
theorem dd_small (u : Nat) (h : u < 10) : Lib.decDigits u = [UInt8.ofNat (48 + u)] := by rw [Lib.decDigits, dif_pos h]
theorem dd_big (u : Nat) (h : ¬ u < 10) : Lib.decDigits u = Lib.decDigits (u / 10) ++ [UInt8.ofNat (48 + u % 10)] := by rw [Lib.decDigits, dif_neg h]
theorem dig_zero (n i : Nat) (h : n < 10 ^ i) : dig n i = 48 := by
  unfold dig
  rw [Nat.div_eq_of_lt h]
  rfl
/-- Digits, and zeros ahead. -/
theorem six_itoa (n : Nat) (h : n ≤ 999999) : (Lib.decDigits n).length ≤ 6 ∧ List.replicate (6 - (Lib.decDigits n).length) 48 ++ Lib.decDigits n = six n := by
  unfold six
  by_cases h1 : n < 10
  · rw [dd_small n h1, dig_zero n 5 (by omega), dig_zero n 4 (by omega), dig_zero n 3 (by omega), dig_zero n 2 (by omega), dig_zero n 1 (by omega), show dig n 0 = UInt8.ofNat (48 + n) by unfold dig; rw [Nat.pow_zero, Nat.div_one, Nat.mod_eq_of_lt h1]]
    exact ⟨by simp, rfl⟩
  rw [dd_big n h1]
  have d0 : UInt8.ofNat (48 + n % 10) = dig n 0 := by unfold dig; rw [Nat.pow_zero, Nat.div_one]
  rw [d0]
  by_cases h2 : n / 10 < 10
  · rw [dd_small _ h2, dig_zero n 5 (by omega), dig_zero n 4 (by omega), dig_zero n 3 (by omega), dig_zero n 2 (by omega), show dig n 1 = UInt8.ofNat (48 + n / 10) by unfold dig; rw [Nat.pow_one, Nat.mod_eq_of_lt h2]]
    exact ⟨by simp, rfl⟩
  rw [dd_big _ h2]
  have d1 : UInt8.ofNat (48 + n / 10 % 10) = dig n 1 := by unfold dig; rw [Nat.pow_one]
  rw [d1]
  have e2 : n / 10 / 10 = n / 10 ^ 2 := by rw [Nat.div_div_eq_div_mul]
  rw [e2]
  by_cases h3 : n / 10 ^ 2 < 10
  · rw [dd_small _ h3, dig_zero n 5 (by omega), dig_zero n 4 (by omega), dig_zero n 3 (by omega), show dig n 2 = UInt8.ofNat (48 + n / 10 ^ 2) by unfold dig; rw [Nat.mod_eq_of_lt h3]]
    exact ⟨by simp, rfl⟩
  rw [dd_big _ h3, show UInt8.ofNat (48 + n / 10 ^ 2 % 10) = dig n 2 from rfl, show n / 10 ^ 2 / 10 = n / 10 ^ 3 by rw [Nat.div_div_eq_div_mul]]
  by_cases h4 : n / 10 ^ 3 < 10
  · rw [dd_small _ h4, dig_zero n 5 (by omega), dig_zero n 4 (by omega), show dig n 3 = UInt8.ofNat (48 + n / 10 ^ 3) by unfold dig; rw [Nat.mod_eq_of_lt h4]]
    exact ⟨by simp, rfl⟩
  rw [dd_big _ h4, show UInt8.ofNat (48 + n / 10 ^ 3 % 10) = dig n 3 from rfl, show n / 10 ^ 3 / 10 = n / 10 ^ 4 by rw [Nat.div_div_eq_div_mul]]
  by_cases h5 : n / 10 ^ 4 < 10
  · rw [dd_small _ h5, dig_zero n 5 (by omega), show dig n 4 = UInt8.ofNat (48 + n / 10 ^ 4) by unfold dig; rw [Nat.mod_eq_of_lt h5]]
    exact ⟨by simp, rfl⟩
  rw [dd_big _ h5, show UInt8.ofNat (48 + n / 10 ^ 4 % 10) = dig n 4 from rfl, show n / 10 ^ 4 / 10 = n / 10 ^ 5 by rw [Nat.div_div_eq_div_mul]]
  have h6 : n / 10 ^ 5 < 10 := by omega
  rw [dd_small _ h6, show dig n 5 = UInt8.ofNat (48 + n / 10 ^ 5) by unfold dig; rw [Nat.mod_eq_of_lt h6]]
  exact ⟨by simp, rfl⟩
theorem pu_step (acc : Nat) (n i : Nat) (r : List UInt8) (h : acc < 1000000000) : Lib.parseUint10 acc (dig n i :: r) = Lib.parseUint10 (acc * 10 + n / 10 ^ i % 10) r := by
  have hd := dig_toNat n i
  have hm : n / 10 ^ i % 10 < 10 := Nat.mod_lt _ (by decide)
  rw [Lib.parseUint10, if_pos (by omega), if_neg (by omega), if_neg (by omega), hd, show 48 + n / 10 ^ i % 10 - 48 = n / 10 ^ i % 10 by omega]
/-- What six digits spell. -/
theorem atoi_six (n : Nat) (h : n ≤ 999999) : Lib.atoiAll (six n) = .ok (n : Int) := by
  have hd := dig_toNat n 5
  have hm : ∀ i, n / 10 ^ i % 10 < 10 := fun i => Nat.mod_lt _ (by decide)
  have h5 := hm 5
  unfold six
  rw [Lib.atoiAll_plain _ _ (by omega) (by omega)]
  unfold Lib.parseMag
  rw [if_neg (by simp), pu_step _ _ _ _ (by omega)]
  have h4 := hm 4
  have h3 := hm 3
  have h2 := hm 2
  have h1 := hm 1
  have h0 := hm 0
  rw [pu_step _ _ _ _ (by omega), pu_step _ _ _ _ (by omega), pu_step _ _ _ _ (by omega), pu_step _ _ _ _ (by omega), pu_step _ _ _ _ (by omega), Lib.parseUint10]
  have e : (((((0 * 10 + n / 10 ^ 5 % 10) * 10 + n / 10 ^ 4 % 10) * 10 + n / 10 ^ 3 % 10) * 10 + n / 10 ^ 2 % 10) * 10 + n / 10 ^ 1 % 10) * 10 + n / 10 ^ 0 % 10 = n := by omega
  rw [e]
  unfold Lib.signless
  simp only
  rw [if_neg (by omega)]
theorem six_inj (a b : Nat) (ha : a ≤ 999999) (hb : b ≤ 999999) (h : six a = six b) : a = b := by
  have h1 := atoi_six a ha
  rw [h, atoi_six b hb] at h1
  injection h1 with h1
  omega
theorem six_len (n : Nat) : (six n).length = 6 := rfl
/-- Where the first of a byte is. -/
theorem index_first : ∀ (k r : List UInt8), (45 : UInt8) ∉ k → Lib.index (k ++ 45 :: r) [45] = k.length
  | [], r, _ => by
    rw [List.nil_append, Lib.index, if_pos (by simp)]
    rfl
  | x :: k, r, h => by
    have ih := index_first k r fun e => h (List.mem_cons_of_mem _ e)
    have hx : x ≠ 45 := fun e => h (e ▸ List.mem_cons_self)
    rw [List.cons_append, Lib.index, if_neg (by simp; exact fun e => hx e.symm), ih]
    rw [if_neg (by simp; try omega), List.length_cons]
    rfl
theorem cut_first (k r : List UInt8) (h : (45 : UInt8) ∉ k) : Lib.cut (k ++ 45 :: r) [45] = (k, r, true) := by
  unfold Lib.cut
  rw [index_first k r h, if_pos (by omega), Int.toNat_natCast, List.take_left' rfl]
  have : (k ++ 45 :: r).drop (k.length + ([45] : List UInt8).length) = r := by
    rw [show k ++ 45 :: r = (k ++ [45]) ++ r by simp, List.drop_left' (by simp)]
  rw [this]
/-- Of what file a name is. -/
def parseB (name : List UInt8) : List UInt8 × Int × Bool := match Lib.atoiAll (Lib.cut name [45]).2.1 with
  | .ok n => if ((Lib.cut name [45]).1 = walK ∨ (Lib.cut name [45]).1 = blockK) ∧ nameB (Lib.cut name [45]).1 n = name then ((Lib.cut name [45]).1, n, true) else ([], 0, false)
  | _ => ([], 0, false)
theorem kind_dash (k : List UInt8) (h : k = walK ∨ k = blockK) : (45 : UInt8) ∉ k := by
  rcases h with rfl | rfl <;> decide
theorem parse_name (k : List UInt8) (n : Int) (hk : k = walK ∨ k = blockK) (h0 : 0 ≤ n) (h1 : n ≤ 999999) : parseB (nameB k n) = (k, n, true) := by
  have hn : nameB k n = k ++ 45 :: six n.toNat := by
    unfold nameB
    rw [if_neg (by omega)]
  have hc := cut_first k (six n.toNat) (kind_dash k hk)
  unfold parseB
  rw [hn, hc]
  simp only
  rw [atoi_six _ (by omega)]
  simp only
  rw [Int.toNat_of_nonneg h0, if_pos ⟨hk, hn⟩]
theorem parse_true (name : List UInt8) (h : (parseB name).2.2 = true) : ∃ k n, (k = walK ∨ k = blockK) ∧ 0 ≤ n ∧ n ≤ 999999 ∧ nameB k n = name ∧ parseB name = (k, n, true) := by
  unfold parseB at h ⊢
  rcases ha : Lib.atoiAll (Lib.cut name [45]).2.1 with n | _ | _
  · rw [ha] at h
    simp only at h ⊢
    by_cases hc : ((Lib.cut name [45]).1 = walK ∨ (Lib.cut name [45]).1 = blockK) ∧ nameB (Lib.cut name [45]).1 n = name
    · rw [if_pos hc]
      refine ⟨_, n, hc.1, ?_, ?_, hc.2, rfl⟩
      all_goals
        by_cases hr : n < 0 ∨ 999999 < n
        · have he := hc.2
          unfold nameB at he
          rw [if_pos hr] at he
          subst he
          rcases hc.1 with e | e <;> cases e
        · omega
    · rw [if_neg hc] at h
      cases h
  · rw [ha] at h
    cases h
  · rw [ha] at h
    cases h
theorem parse_false (name : List UInt8) (h : (parseB name).2.2 = false) : parseB name = ([], 0, false) := by
  unfold parseB at h ⊢
  split
  · split
    · rename_i h1 h2
      rw [h1] at h
      simp only at h
      rw [if_pos h2] at h
      cases h
    · rfl
  · rfl
theorem name_inj (k k' : List UInt8) (n n' : Int) (h0 : 0 ≤ n) (h1 : n ≤ 999999) (h0' : 0 ≤ n') (h1' : n' ≤ 999999) (h : nameB k n = nameB k' n') : k = k' ∧ n = n' := by
  unfold nameB at h
  rw [if_neg (by omega), if_neg (by omega)] at h
  have hl : k.length = k'.length := by
    have := congrArg List.length h
    simp only [List.length_append, List.length_cons, six_len] at this
    omega
  obtain ⟨e1, e2⟩ := List.append_inj h hl
  refine ⟨e1, ?_⟩
  have := six_inj _ _ (by omega) (by omega) (List.cons.inj e2).2
  omega
end Go.Proofs.YtgehgjalkponfaaGreatDoor
