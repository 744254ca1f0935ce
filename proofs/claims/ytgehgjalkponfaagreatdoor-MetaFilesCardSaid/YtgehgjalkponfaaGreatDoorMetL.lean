/- The law MetaFiles: the walk. -/
import Derived.Test.YtgehgjalkponfaaGreatDoorMetK
import Derived.Sort.Walk0
namespace Go.Proofs.YtgehgjalkponfaaGreatDoor
open Go.RowKit Go.Maps Go.WideMaps Go.ChangeShapes Go.WideShapes
attribute [local go_sem] bs_toList bs_size

theorem temp_parse (name : List UInt8) : parseB (tmpK ++ name) = ([], 0, false) := by
  refine parse_false _ ?_
  cases h : (parseB (tmpK ++ name)).2.2 with
  | false => rfl
  | true =>
    obtain ⟨k, n, hk, h0, h1, hn, _⟩ := parse_true _ h
    unfold nameB at hn
    rw [if_neg (by omega)] at hn
    rcases hk with rfl | rfl
    · cases (List.cons.inj hn).1
    · cases (List.cons.inj hn).1
theorem names_eq (a b : Int) (ha : 0 ≤ a ∧ a ≤ 999999) (hb : 0 ≤ b ∧ b ≤ 999999) : (nameB walK a == nameB walK b) = (a == b) := by
  by_cases h : a = b
  · subst h
    simp
  · rw [show (a == b) = false by simpa using h]
    rw [beq_eq_false_iff_ne]
    intro e
    exact h (name_inj _ _ _ _ ha.1 ha.2 hb.1 hb.2 e).2
theorem names_ne (a b : Int) (ha : 0 ≤ a ∧ a ≤ 999999) (hb : 0 ≤ b ∧ b ≤ 999999) : (nameB walK a == nameB blockK b) = false := by
  rw [beq_eq_false_iff_ne]
  intro e
  have := (name_inj _ _ _ _ ha.1 ha.2 hb.1 hb.2 e).1
  cases this
theorem dig_sum (n : Nat) (h : n ≤ 999999) : n = 100000 * (n / 10 ^ 5 % 10) + 10000 * (n / 10 ^ 4 % 10) + 1000 * (n / 10 ^ 3 % 10) + 100 * (n / 10 ^ 2 % 10) + 10 * (n / 10 ^ 1 % 10) + n / 10 ^ 0 % 10 := by omega
theorem dig_lt (a b i : Nat) : dig a i < dig b i ↔ a / 10 ^ i % 10 < b / 10 ^ i % 10 := by
  rw [UInt8.lt_iff_toNat_lt, dig_toNat, dig_toNat]
  omega
theorem dig_eq (a b i : Nat) : dig a i = dig b i ↔ a / 10 ^ i % 10 = b / 10 ^ i % 10 := by
  rw [← UInt8.toNat_inj, dig_toNat, dig_toNat]
  omega
theorem six_lt (a b : Nat) (ha : a ≤ 999999) (hb : b ≤ 999999) : six a < six b ↔ a < b := by
  unfold six
  simp only [List.cons_lt_cons_iff, dig_lt, dig_eq]
  have sa := dig_sum a ha
  have sb := dig_sum b hb
  have m : ∀ n i, n / 10 ^ i % 10 < 10 := fun n i => Nat.mod_lt _ (by decide)
  have a5 := m a 5
  have a4 := m a 4
  have a3 := m a 3
  have a2 := m a 2
  have a1 := m a 1
  have a0 := m a 0
  have b5 := m b 5
  have b4 := m b 4
  have b3 := m b 3
  have b2 := m b 2
  have b1 := m b 1
  have b0 := m b 0
  generalize a / 10 ^ 5 % 10 = x5 at *
  generalize a / 10 ^ 4 % 10 = x4 at *
  generalize a / 10 ^ 3 % 10 = x3 at *
  generalize a / 10 ^ 2 % 10 = x2 at *
  generalize a / 10 ^ 1 % 10 = x1 at *
  generalize a / 10 ^ 0 % 10 = x0 at *
  generalize b / 10 ^ 5 % 10 = y5 at *
  generalize b / 10 ^ 4 % 10 = y4 at *
  generalize b / 10 ^ 3 % 10 = y3 at *
  generalize b / 10 ^ 2 % 10 = y2 at *
  generalize b / 10 ^ 1 % 10 = y1 at *
  generalize b / 10 ^ 0 % 10 = y0 at *
  clear m
  rcases Nat.lt_trichotomy x5 y5 with h | h | h
  · exact ⟨fun _ => by omega, fun _ => .inl h⟩
  · rcases Nat.lt_trichotomy x4 y4 with h' | h' | h'
    · exact ⟨fun _ => by omega, fun _ => .inr ⟨h, .inl h'⟩⟩
    · rcases Nat.lt_trichotomy x3 y3 with h'' | h'' | h''
      · exact ⟨fun _ => by omega, fun _ => .inr ⟨h, .inr ⟨h', .inl h''⟩⟩⟩
      · have e : (x2 < y2 ∨ x2 = y2 ∧ (x1 < y1 ∨ x1 = y1 ∧ (x0 < y0 ∨ x0 = y0 ∧ ([] : List UInt8) < []))) ↔ 100 * x2 + 10 * x1 + x0 < 100 * y2 + 10 * y1 + y0 := by
          simp only [List.lt_irrefl, and_false, or_false]
          omega
        rw [e]
        omega
      · refine ⟨fun hh => ?_, fun _ => by omega⟩
        rcases hh with hh | ⟨_, hh | ⟨_, hh | ⟨hh, _⟩⟩⟩ <;> omega
    · refine ⟨fun hh => ?_, fun _ => by omega⟩
      rcases hh with hh | ⟨_, hh | ⟨hh, _⟩⟩ <;> omega
  · refine ⟨fun hh => ?_, fun _ => by omega⟩
    rcases hh with hh | ⟨hh, _⟩ <;> omega
theorem names_less (a b : Int) (ha : 0 ≤ a ∧ a ≤ 999999) (hb : 0 ≤ b ∧ b ≤ 999999) : Op.bytesLess (nameB walK a) (nameB walK b) = decide (a < b) := by
  rw [bytesLess_eq]
  unfold nameB walK
  rw [if_neg (by omega), if_neg (by omega)]
  refine decide_eq_decide.2 ?_
  simp only [List.cons_append, List.nil_append, List.cons_lt_cons_iff]
  have h := six_lt a.toNat b.toNat (by omega) (by omega)
  simp only [UInt8.lt_irrefl, false_or, true_and]
  rw [h]
  omega
set_option maxRecDepth 100000 in
set_option maxHeartbeats 4000000 in
theorem MetaFiles_walk (a b : Int) (name : List UInt8) (W : World) (hG : Gl W) (a1 : -9223372036854775808 ≤ a) (a2 : a ≤ 9223372036854775807) (b1 : -9223372036854775808 ≤ b) (b2 : b ≤ 9223372036854775807) (_hn : name.length ≤ maxLen) :
    Calls Tryz.prog 8 #[.int .i64 a, .int .i64 b, .string (bs name)] W fun e w' => e = .returned (.bool true) ∧ Below W.heap.size W w' := by
  have q0 := Lib.hid (works_any W hG)
  by_cases hin : name.length ≤ 600 ∧ 0 ≤ a ∧ 0 ≤ b ∧ a ≤ 999999 ∧ b ≤ 999999
  · obtain ⟨i1, i2, i3, i4, i5⟩ := hin
    have f1 : decide ((600 : Int) < (name.length : Int)) = false := by simp; omega
    have f1' : decide (600 < name.length) = false := by simp; omega
    have f2 : decide (a < 0) = false := by simp; omega
    have f3 : decide (b < 0) = false := by simp; omega
    have f4 : decide (999999 < a) = false := by simp; omega
    have f5 : decide (999999 < b) = false := by simp; omega
    go_enter Tryz.func8, Tryz.ntmps8
    go_wp2_with fail
    refine q0.out.mono ?_
    rintro e w1 ⟨rfl, hb1⟩
    have qt := Lib.hid (Temp_any name w1 (by omega))
    clear q0
    go_wp2_with fail
    refine qt.out.mono ?_
    rintro e w2 ⟨rfl, rfl⟩
    have qp := Lib.hid (Parse_any (tmpK ++ name) w2 (hG.below hb1) (by rw [List.length_append]; simp [tmpK]; omega))
    rw [temp_parse, show parseV ([], 0, false) = .tuple #[.string ⟨#[]⟩, .int .i64 0, .bool false] from rfl] at qp
    clear qt
    go_wp2_with fail
    refine qp.out.mono ?_
    rintro e w3 ⟨rfl, hb3⟩
    have B3 := hb1.trans (hb3.mono hb1.size)
    have qn1 := Lib.hid (fun W' (h : Below W.heap.size W W') => Name_any [119, 97, 108] a W' (hG.below h) (by decide) a1 a2)
    have qn2 := Lib.hid (fun W' (h : Below W.heap.size W W') => Name_any [119, 97, 108] b W' (hG.below h) (by decide) b1 b2)
    have qn3 := Lib.hid (fun W' (h : Below W.heap.size W W') => Name_any [98, 108, 111, 99, 107] b W' (hG.below h) (by decide) b1 b2)
    have e1 := names_eq a b ⟨i2, i4⟩ ⟨i3, i5⟩
    have e2 := names_ne a b ⟨i2, i4⟩ ⟨i3, i5⟩
    have e3 := names_less a b ⟨i2, i4⟩ ⟨i3, i5⟩
    unfold walK at e1 e2 e3
    unfold blockK at e2
    generalize nameB [119, 97, 108] a = na at *
    generalize nameB [119, 97, 108] b = nb at *
    generalize nameB [98, 108, 111, 99, 107] b = nk at *
    clear qp
    go_wp2_with fail
    refine (qn1.out _ B3).mono ?_
    rintro e w4 ⟨rfl, hb4⟩
    have B4 := B3.trans (hb4.mono B3.size)
    go_wp2_with fail
    refine (qn2.out _ B4).mono ?_
    rintro e w5 ⟨rfl, hb5⟩
    have B5 := B4.trans (hb5.mono B4.size)
    go_wp2_with fail
    refine (qn1.out _ B5).mono ?_
    rintro e w6 ⟨rfl, hb6⟩
    have B6 := B5.trans (hb6.mono B5.size)
    go_wp2_with fail
    refine (qn3.out _ B6).mono ?_
    rintro e w7 ⟨rfl, hb7⟩
    have B7 := B6.trans (hb7.mono B6.size)
    go_wp2_with fail
    refine (qn1.out _ B7).mono ?_
    rintro e w8 ⟨rfl, hb8⟩
    have B8 := B7.trans (hb8.mono B7.size)
    go_wp2_with fail
    refine (qn2.out _ B8).mono ?_
    rintro e w9 ⟨rfl, hb9⟩
    have B9 := B8.trans (hb9.mono B8.size)
    go_wp2_with fail
    go_ret
    exact ⟨rfl, B9⟩
  · go_enter Tryz.func8, Tryz.ntmps8
    go_wp2_with fail
    refine q0.out.mono ?_
    rintro e w1 ⟨rfl, hb1⟩
    by_cases i1 : name.length ≤ 600
    · have f1 : decide ((600 : Int) < (name.length : Int)) = false := by simp; omega
      have f1' : decide (600 < name.length) = false := by simp; omega
      by_cases i2 : 0 ≤ a
      · have f2 : decide (a < 0) = false := by simp; omega
        by_cases i3 : 0 ≤ b
        · have f3 : decide (b < 0) = false := by simp; omega
          by_cases i4 : a ≤ 999999
          · have f4 : decide (999999 < a) = false := by simp; omega
            have f5 : decide (999999 < b) = true := by simp; omega
            go_wp2
            go_ret
            exact ⟨rfl, hb1⟩
          · have f4 : decide (999999 < a) = true := by simp; omega
            go_wp2
            go_ret
            exact ⟨rfl, hb1⟩
        · have f3 : decide (b < 0) = true := by simp; omega
          go_wp2
          go_ret
          exact ⟨rfl, hb1⟩
      · have f2 : decide (a < 0) = true := by simp; omega
        go_wp2
        go_ret
        exact ⟨rfl, hb1⟩
    · have f1 : decide ((600 : Int) < (name.length : Int)) = true := by simp; omega
      have f1' : decide (600 < name.length) = true := by simp; omega
      go_wp2
      go_ret
      exact ⟨rfl, hb1⟩
end Go.Proofs.YtgehgjalkponfaaGreatDoor
