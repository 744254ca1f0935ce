/- The walk of the reference's GetSmall. -/
import Derived.Test.YtaeoghbmncpnlaaDoorNumK
import Derived.Test.YtaeoghbmncpnlaaDoorQuiet
namespace Go.Proofs.YtaeoghbmncpnlaaDoor
namespace Num
theorem smallF_le (f i n : Nat) (hi : 1 ≤ i) (h : n < 128 ^ i) : (smallF f n).length ≤ i := by
  induction f generalizing i n with
  | zero => simpa [smallF] using hi
  | succ f ih =>
    unfold smallF
    by_cases h1 : n < 128
    · rw [if_pos h1]; simpa using hi
    · rw [if_neg h1]
      obtain ⟨j, rfl⟩ : ∃ j, i = j + 1 := ⟨i - 1, by omega⟩
      have hj : 1 ≤ j := by
        rcases Nat.eq_zero_or_pos j with h0 | h0
        · subst h0; simp at h; omega
        · exact h0
      have := ih j (n / 128) hj (by rw [p128] at h; omega)
      simp; omega

/-- Where the reference's number ends: whether its bytes are those that it would be written in. -/
theorem ref_ends (l : List UInt8) (i acc : Nat) (b : UInt8) (hi : i < 10) (hb : l[i]? = some b) (ha : acc < 128 ^ i) (hlt : b.toNat < 128) (h9 : i = 9 → b.toNat ≤ 1)
    (hg : getSmall l = gsF (10 - i) i acc (l.drop i)) :
    (0 < i ∧ b.toNat = 0 ∧ getSmall l = none ∧ small (acc + b.toNat * 128 ^ i) ≠ l.take (i + 1)) ∨
    (getSmall l = some (acc + b.toNat * 128 ^ i, i + 1) ∧ small (acc + b.toNat * 128 ^ i) = l.take (i + 1)) := by
  have hl : i < l.length := by
    rcases Nat.lt_or_ge i l.length with h | h
    · exact h
    · rw [List.getElem?_eq_none h] at hb; cases hb
  have hd : l.drop i = b :: l.drop (i + 1) := by
    rw [List.drop_eq_getElem_cons hl]
    rw [List.getElem?_eq_getElem hl] at hb
    simp at hb; rw [hb]
  rw [hd, show 10 - i = (9 - i) + 1 from by omega, gsF] at hg
  by_cases h0 : 0 < i ∧ b.toNat = 0
  · left
    rw [if_pos (.inr h0)] at hg
    refine ⟨h0.1, h0.2, hg, fun h => ?_⟩
    have h1 := smallF_le 9 i acc (by omega) ha
    have h2 := congrArg List.length h
    rw [h0.2] at h2
    simp only [Nat.zero_mul, Nat.add_zero, List.length_take] at h2
    unfold small at h2
    omega
  · right
    rw [if_neg (by rintro (⟨h1, h2⟩ | h1); exact absurd (h9 h1) (by omega); exact h0 h1), if_pos hlt] at hg
    obtain ⟨_, h2, h3⟩ := getSmall_only l _ _ hg
    refine ⟨hg, ?_⟩
    conv => rhs; rw [h3]
    rw [List.take_append_of_le_length (by omega), List.take_of_length_le (by omega)]
end Num
open Go.RowKit
attribute [local go_sem] bs_toList bs_size

def GrRel (l : List UInt8) (vn vu vi : Value) : Prop :=
  ∃ (i acc : Nat), vi = .int .i64 (i : Int) ∧ vn = .int .u64 (acc : Int) ∧ vu = .int .u64 ((128 ^ i % 18446744073709551616 : Nat) : Int) ∧ i ≤ l.length ∧ i ≤ 10 ∧ acc < 128 ^ i ∧ acc < 18446744073709551616 ∧ Num.getSmall l = Num.gsF (10 - i) i acc (l.drop i)

theorem gr_sum (i acc b : Nat) (hi : i < 10) (ha : acc < 128 ^ i) (hd : b % 128 * 128 ^ i < 18446744073709551616) (hs : acc + b % 128 * 128 ^ i < 18446744073709551616) :
    IntKind.u64.wrap ((acc : Int) + IntKind.u64.wrap ((b : Int) % 128 * ((128 ^ i % 18446744073709551616 : Nat) : Int))) = ((acc + b % 128 * 128 ^ i : Nat) : Int) := by
  have w (x : Int) : IntKind.u64.wrap x = x % 18446744073709551616 := by simp [IntKind.wrap, IntKind.bits, IntKind.signed]
  have h1 : 128 ^ i ≤ 128 ^ 9 := Nat.pow_le_pow_right (by omega) (by omega)
  rw [Nat.mod_eq_of_lt (show 128 ^ i < 18446744073709551616 by omega)]
  have e : (b : Int) % 128 * ((128 ^ i : Nat) : Int) = ((b % 128 * 128 ^ i : Nat) : Int) := by rw [Int.natCast_mul]; rfl
  rw [e, w, w]
  generalize b % 128 * 128 ^ i = y at *
  omega
theorem gr_unit (i : Nat) : IntKind.u64.wrap (((128 ^ i % 18446744073709551616 : Nat) : Int) * 128) = ((128 ^ (i + 1) % 18446744073709551616 : Nat) : Int) := by
  have w (x : Int) : IntKind.u64.wrap x = x % 18446744073709551616 := by simp [IntKind.wrap, IntKind.bits, IntKind.signed]
  rw [w, Nat.pow_succ]
  generalize 128 ^ i = y
  omega

set_option maxRecDepth 100000 in
set_option maxHeartbeats 1000000 in
theorem ref_GetSmall_any (l : List UInt8) (w : World) (hl : l.length ≤ 1099511627776) :
    Calls Tryd.prog 24 #[.string (bs l)] w fun e w' => e = .returned (refN l (Num.getSmall l)) ∧ Below w.heap.size w w' := by
  have hz := bs_size l
  go_enter Tryd.func24, Tryd.ntmps24
  go_wp2
  go_loop [5, 6, 7] (fun vn vu vi => GrRel l vn vu vi) (fun _ _ vi => 10 - (intOf vi).toNat)
  case atStart => exact ⟨0, 0, rfl, rfl, rfl, by omega, by omega, by omega, by omega, rfl⟩
  case round =>
    obtain ⟨i, acc, rfl, rfl, hvu, hi, hi10, hacc, hacc2, hg⟩ := hrel
    by_cases hlt : i < l.length
    · by_cases hlt10 : i < 10
      · obtain ⟨b, hb⟩ : ∃ b, l[i]? = some b := ⟨l[i]'(by omega), List.getElem?_eq_getElem (by omega)⟩
        have hix := fun k W => run_index_bs (P := Tryd.prog) 9 Tryd.underlying9 l i b hb k W
        have hbl : b.toNat < 256 := UInt8.toNat_lt b
        have hltI : (i : Int) < (l.length : Int) := by omega
        have hlt10I : (i : Int) < 10 := by omega
        have hdrop : l.drop i = b :: l.drop (i + 1) := by
          rw [List.drop_eq_getElem_cons hlt]
          rw [List.getElem?_eq_getElem hlt] at hb
          simp at hb; rw [hb]
        by_cases hbad : i = 9 ∧ 1 < b.toNat % 128
        · have HG : Hid (Num.getSmall l = none) := by
            show _ = _
            rw [hg, hdrop, show 10 - i = (9 - i) + 1 from by omega, Num.gsF, if_pos (.inl ⟨hbad.1, by omega⟩)]
          have c1 : ((i : Int) == 9) = true := by simp only [beq_iff_eq]; omega
          have c2 : (1 : Int) < (b.toNat : Int) % 128 := by omega
          clear hg hdrop hb hbad hacc hacc2 hz
          generalize ((128 ^ i % 18446744073709551616 : Nat) : Int) = U at hvu
          subst hvu
          go_wp2
          go_ret3
          exact ⟨by rw [HG.out]; rfl, Below.refl _ _⟩
        · have h9 : i = 9 → b.toNat % 128 ≤ 1 := by omega
          have hcase : (((i : Int) == 9) = false) ∨ (((i : Int) == 9) = true ∧ ¬ (1 : Int) < (b.toNat : Int) % 128) := by
            simp only [beq_eq_false_iff_ne, beq_iff_eq, ne_eq]; omega
          have hd9 : b.toNat % 128 * 128 ^ i < 18446744073709551616 := or7_bd i b.toNat hlt10 h9
          have hs9 : acc + b.toNat % 128 * 128 ^ i < 18446744073709551616 := by
            rcases Nat.lt_or_ge i 9 with h | h
            · have h1 : 128 ^ (i + 1) ≤ 128 ^ 9 := Nat.pow_le_pow_right (by omega) (by omega)
              have h2 : b.toNat % 128 ≤ 127 := by omega
              have h3 := Nat.mul_le_mul_right (128 ^ i) h2
              rw [Num.p128] at h1
              omega
            · obtain rfl : i = 9 := by omega
              have := Nat.mul_le_mul_right (128 ^ 9) (h9 rfl)
              omega
          have hsum := gr_sum i acc b.toNat hlt10 hacc hd9 hs9
          have hunit := gr_unit i
          generalize ((128 ^ i % 18446744073709551616 : Nat) : Int) = U at hvu hsum hunit
          subst hvu
          by_cases h128 : b.toNat < 128
          · have hmod : b.toNat % 128 = b.toNat := Nat.mod_eq_of_lt h128
            have hends := Num.ref_ends l i acc b hlt10 hb hacc h128 (fun h => by have := h9 h; omega) hg
            rw [hmod] at hsum hs9
            have hx : (bs l).extract 0 (i + 1) = bs (l.take (i + 1)) := by rw [bs_extract]; simp
            have hx2 : (bs l).extract (i + 1) l.length = bs (l.drop (i + 1)) := by rw [bs_extract, List.take_of_length_le (by simp)]
            have h128I : (b.toNat : Int) < 128 := by omega
            clear hg hdrop hb hbad hd9 h9 hmod hacc hacc2
            generalize acc + b.toNat * 128 ^ i = v at hsum hends hs9
            have q1 := Lib.hid (fun W => ref_Small_any (v : Int) W (by omega) (by omega))
            rw [Int.toNat_natCast] at q1
            generalize Num.small v = S at hends q1
            clear hs9
            rcases hends with ⟨-, -, hn, hne⟩ | ⟨hn, he⟩
            · have HN := Lib.hid hn
              clear hn
              generalize l.take (i + 1) = S2 at hne hx
              have hneb : (S == S2) = false := by simpa using hne
              rcases hcase with c1 | ⟨c1, c2⟩
              all_goals
                go_wp2
                refine wp_region_grown (by kernel_rfl) (by kernel_rfl) ?_
                repeat (go_big_quiet_step ((go_at_call 12; exact Calls.grown_of (q1.out _))))
                refine wpQuiet_nil ?_
                rintro _ ⟨x, rfl⟩
                go_wp2
                go_ret3
                exact ⟨by rw [HN.out]; rfl, x.below⟩
            · have HN := Lib.hid hn
              clear hn
              rw [← he] at hx
              clear he
              rcases hcase with c1 | ⟨c1, c2⟩
              all_goals
                go_wp2
                refine wp_region_grown (by kernel_rfl) (by kernel_rfl) ?_
                repeat (go_big_quiet_step ((go_at_call 12; exact Calls.grown_of (q1.out _))))
                refine wpQuiet_nil ?_
                rintro _ ⟨x, rfl⟩
                go_wp2
                go_quiet (fail)
                go_wp2
                go_ret3
                exact ⟨by rw [HN.out]; rfl, below_drewN x.below _⟩
          · have hfin : Hid (Num.getSmall l = Num.gsF (10 - (i + 1)) (i + 1) (acc + b.toNat % 128 * 128 ^ i) (l.drop (i + 1))) := by
              show _ = _
              rw [hg, hdrop, show 10 - i = (9 - i) + 1 from by omega, Num.gsF]
              by_cases h9' : i = 9
              · subst h9'
                rw [if_pos (.inl ⟨rfl, by omega⟩)]
                rfl
              · rw [if_neg (by omega), if_neg h128, show b.toNat % 128 = b.toNat - 128 from by omega, show 10 - (i + 1) = 9 - i from by omega]
            have hacc' : acc + b.toNat % 128 * 128 ^ i < 128 ^ (i + 1) := by
              have : b.toNat % 128 ≤ 127 := by omega
              have := Nat.mul_le_mul_right (128 ^ i) this
              rw [Num.p128]; omega
            have HR := Lib.hid (show GrRel l (.int .u64 ((acc + b.toNat % 128 * 128 ^ i : Nat) : Int)) (.int .u64 ((128 ^ (i + 1) % 18446744073709551616 : Nat) : Int)) (.int .i64 ((i : Int) + 1)) from
              ⟨i + 1, _, rfl, rfl, rfl, by omega, by omega, hacc', hs9, hfin.out⟩)
            have h128I : ¬ (b.toNat : Int) < 128 := by omega
            clear hg hdrop hb hbad hd9 h9 hfin hacc' hacc hacc2 hs9
            generalize ((acc + b.toNat % 128 * 128 ^ i : Nat) : Int) = y at hsum HR
            generalize ((128 ^ (i + 1) % 18446744073709551616 : Nat) : Int) = u at hunit HR
            rcases hcase with c1 | ⟨c1, c2⟩
            all_goals
              go_wp2
              go_round
              case rel => exact HR.out
              case measure => simp [intOf]; omega
      · have hi' : i = 10 := by omega
        subst hi'
        have HG : Hid (Num.getSmall l = none) := by show _ = _; rw [hg]; rfl
        have hltI : (10 : Int) < (l.length : Int) := by omega
        clear hg hacc hacc2 hz
        generalize ((128 ^ 10 % 18446744073709551616 : Nat) : Int) = U at hvu
        subst hvu
        go_wp2
        go_ret3
        exact ⟨by rw [HG.out]; rfl, Below.refl _ _⟩
    · have HG : Hid (Num.getSmall l = none) := by
        show _ = _
        rw [hg, List.drop_of_length_le (by omega)]
        rcases Nat.lt_or_ge i 10 with h | h
        · rw [show 10 - i = (9 - i) + 1 from by omega]; rfl
        · rw [show 10 - i = 0 from by omega]; rfl
      have hge : ¬ (i : Int) < (l.length : Int) := by omega
      clear hg hacc hacc2 hz
      generalize ((128 ^ i % 18446744073709551616 : Nat) : Int) = U at hvu
      subst hvu
      go_wp2
      go_ret3
      exact ⟨by rw [HG.out]; rfl, Below.refl _ _⟩
end Go.Proofs.YtaeoghbmncpnlaaDoor
