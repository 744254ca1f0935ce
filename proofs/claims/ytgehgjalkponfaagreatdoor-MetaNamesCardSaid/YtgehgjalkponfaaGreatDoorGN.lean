/- The law MetaFiles: the walk. The names of the document's answer: the walks of its Name and its Parse. The document's Parse: its walk; and the law MetaNames. The law MetaNames: the walk. -/
import Derived.Test.YtgehgjalkponfaaGreatDoorGE
import Derived.Sort.Walk0
namespace Go.Proofs.YtgehgjalkponfaaGreatDoor
open Go.RowKit Go.Maps Go.WideMaps Go.ChangeShapes Go.WideShapes
attribute [local go_sem] bs_toList bs_size

theorem temp_parse (name : List UInt8) : parseB (tmpK ++ name) = ([], 0, false) := by
  refine parse_false _ ?_
  cases h : (parseB (tmpK ++ name)).2.2 with
  | false => rfl
  | true =>
    obtain ⟨k, n, hk, h0, h1, hn, _⟩ := parse_true _ h
    unfold nameB at hn
    rw [if_neg (by omega)] at hn
    rcases hk with rfl | rfl
    · cases (List.cons.inj hn).1
    · cases (List.cons.inj hn).1
theorem names_eq (a b : Int) (ha : 0 ≤ a ∧ a ≤ 999999) (hb : 0 ≤ b ∧ b ≤ 999999) : (nameB walK a == nameB walK b) = (a == b) := by
  by_cases h : a = b
  · subst h
    simp
  · rw [show (a == b) = false by simpa using h]
    rw [beq_eq_false_iff_ne]
    intro e
    exact h (name_inj _ _ _ _ ha.1 ha.2 hb.1 hb.2 e).2
theorem names_ne (a b : Int) (ha : 0 ≤ a ∧ a ≤ 999999) (hb : 0 ≤ b ∧ b ≤ 999999) : (nameB walK a == nameB blockK b) = false := by
  rw [beq_eq_false_iff_ne]
  intro e
  have := (name_inj _ _ _ _ ha.1 ha.2 hb.1 hb.2 e).1
  cases this
theorem dig_sum (n : Nat) (h : n ≤ 999999) : n = 100000 * (n / 10 ^ 5 % 10) + 10000 * (n / 10 ^ 4 % 10) + 1000 * (n / 10 ^ 3 % 10) + 100 * (n / 10 ^ 2 % 10) + 10 * (n / 10 ^ 1 % 10) + n / 10 ^ 0 % 10 := by omega
theorem dig_lt (a b i : Nat) : dig a i < dig b i ↔ a / 10 ^ i % 10 < b / 10 ^ i % 10 := by
  rw [UInt8.lt_iff_toNat_lt, dig_toNat, dig_toNat]
  omega
theorem dig_eq (a b i : Nat) : dig a i = dig b i ↔ a / 10 ^ i % 10 = b / 10 ^ i % 10 := by
  rw [← UInt8.toNat_inj, dig_toNat, dig_toNat]
  omega
theorem six_lt (a b : Nat) (ha : a ≤ 999999) (hb : b ≤ 999999) : six a < six b ↔ a < b := by
  unfold six
  simp only [List.cons_lt_cons_iff, dig_lt, dig_eq]
  have sa := dig_sum a ha
  have sb := dig_sum b hb
  have m : ∀ n i, n / 10 ^ i % 10 < 10 := fun n i => Nat.mod_lt _ (by decide)
  have a5 := m a 5
  have a4 := m a 4
  have a3 := m a 3
  have a2 := m a 2
  have a1 := m a 1
  have a0 := m a 0
  have b5 := m b 5
  have b4 := m b 4
  have b3 := m b 3
  have b2 := m b 2
  have b1 := m b 1
  have b0 := m b 0
  generalize a / 10 ^ 5 % 10 = x5 at *
  generalize a / 10 ^ 4 % 10 = x4 at *
  generalize a / 10 ^ 3 % 10 = x3 at *
  generalize a / 10 ^ 2 % 10 = x2 at *
  generalize a / 10 ^ 1 % 10 = x1 at *
  generalize a / 10 ^ 0 % 10 = x0 at *
  generalize b / 10 ^ 5 % 10 = y5 at *
  generalize b / 10 ^ 4 % 10 = y4 at *
  generalize b / 10 ^ 3 % 10 = y3 at *
  generalize b / 10 ^ 2 % 10 = y2 at *
  generalize b / 10 ^ 1 % 10 = y1 at *
  generalize b / 10 ^ 0 % 10 = y0 at *
  clear m
  rcases Nat.lt_trichotomy x5 y5 with h | h | h
  · exact ⟨fun _ => by omega, fun _ => .inl h⟩
  · rcases Nat.lt_trichotomy x4 y4 with h' | h' | h'
    · exact ⟨fun _ => by omega, fun _ => .inr ⟨h, .inl h'⟩⟩
    · rcases Nat.lt_trichotomy x3 y3 with h'' | h'' | h''
      · exact ⟨fun _ => by omega, fun _ => .inr ⟨h, .inr ⟨h', .inl h''⟩⟩⟩
      · have e : (x2 < y2 ∨ x2 = y2 ∧ (x1 < y1 ∨ x1 = y1 ∧ (x0 < y0 ∨ x0 = y0 ∧ ([] : List UInt8) < []))) ↔ 100 * x2 + 10 * x1 + x0 < 100 * y2 + 10 * y1 + y0 := by
          simp only [List.lt_irrefl, and_false, or_false]
          omega
        rw [e]
        omega
      · refine ⟨fun hh => ?_, fun _ => by omega⟩
        rcases hh with hh | ⟨_, hh | ⟨_, hh | ⟨hh, _⟩⟩⟩ <;> omega
    · refine ⟨fun hh => ?_, fun _ => by omega⟩
      rcases hh with hh | ⟨_, hh | ⟨hh, _⟩⟩ <;> omega
  · refine ⟨fun hh => ?_, fun _ => by omega⟩
    rcases hh with hh | ⟨hh, _⟩ <;> omega
theorem names_less (a b : Int) (ha : 0 ≤ a ∧ a ≤ 999999) (hb : 0 ≤ b ∧ b ≤ 999999) : Op.bytesLess (nameB walK a) (nameB walK b) = decide (a < b) := by
  rw [bytesLess_eq]
  unfold nameB walK
  rw [if_neg (by omega), if_neg (by omega)]
  refine decide_eq_decide.2 ?_
  simp only [List.cons_append, List.nil_append, List.cons_lt_cons_iff]
  have h := six_lt a.toNat b.toNat (by omega) (by omega)
  simp only [UInt8.lt_irrefl, false_or, true_and]
  rw [h]
  omega
set_option maxRecDepth 100000 in
set_option maxHeartbeats 4000000 in
theorem MetaFiles_walk (a b : Int) (name : List UInt8) (W : World) (hG : Gl W) (a1 : -9223372036854775808 ≤ a) (a2 : a ≤ 9223372036854775807) (b1 : -9223372036854775808 ≤ b) (b2 : b ≤ 9223372036854775807) (_hn : name.length ≤ maxLen) :
    Calls Tryz.prog 8 #[.int .i64 a, .int .i64 b, .string (bs name)] W fun e w' => e = .returned (.bool true) ∧ Below W.heap.size W w' := by
  have q0 := Lib.hid (works_any W hG)
  by_cases hin : name.length ≤ 600 ∧ 0 ≤ a ∧ 0 ≤ b ∧ a ≤ 999999 ∧ b ≤ 999999
  · obtain ⟨i1, i2, i3, i4, i5⟩ := hin
    have f1 : decide ((600 : Int) < (name.length : Int)) = false := by simp; omega
    have f1' : decide (600 < name.length) = false := by simp; omega
    have f2 : decide (a < 0) = false := by simp; omega
    have f3 : decide (b < 0) = false := by simp; omega
    have f4 : decide (999999 < a) = false := by simp; omega
    have f5 : decide (999999 < b) = false := by simp; omega
    go_enter Tryz.func8, Tryz.ntmps8
    go_wp2_with fail
    refine q0.out.mono ?_
    rintro e w1 ⟨rfl, hb1⟩
    have qt := Lib.hid (Temp_any name w1 (by omega))
    clear q0
    go_wp2_with fail
    refine qt.out.mono ?_
    rintro e w2 ⟨rfl, rfl⟩
    have qp := Lib.hid (Parse_any (tmpK ++ name) w2 (hG.below hb1) (by rw [List.length_append]; simp [tmpK]; omega))
    rw [temp_parse, show parseV ([], 0, false) = .tuple #[.string ⟨#[]⟩, .int .i64 0, .bool false] from rfl] at qp
    clear qt
    go_wp2_with fail
    refine qp.out.mono ?_
    rintro e w3 ⟨rfl, hb3⟩
    have B3 := hb1.trans (hb3.mono hb1.size)
    have qn1 := Lib.hid (fun W' (h : Below W.heap.size W W') => Name_any [119, 97, 108] a W' (hG.below h) (by decide) a1 a2)
    have qn2 := Lib.hid (fun W' (h : Below W.heap.size W W') => Name_any [119, 97, 108] b W' (hG.below h) (by decide) b1 b2)
    have qn3 := Lib.hid (fun W' (h : Below W.heap.size W W') => Name_any [98, 108, 111, 99, 107] b W' (hG.below h) (by decide) b1 b2)
    have e1 := names_eq a b ⟨i2, i4⟩ ⟨i3, i5⟩
    have e2 := names_ne a b ⟨i2, i4⟩ ⟨i3, i5⟩
    have e3 := names_less a b ⟨i2, i4⟩ ⟨i3, i5⟩
    unfold walK at e1 e2 e3
    unfold blockK at e2
    generalize nameB [119, 97, 108] a = na at *
    generalize nameB [119, 97, 108] b = nb at *
    generalize nameB [98, 108, 111, 99, 107] b = nk at *
    clear qp
    go_wp2_with fail
    refine (qn1.out _ B3).mono ?_
    rintro e w4 ⟨rfl, hb4⟩
    have B4 := B3.trans (hb4.mono B3.size)
    go_wp2_with fail
    refine (qn2.out _ B4).mono ?_
    rintro e w5 ⟨rfl, hb5⟩
    have B5 := B4.trans (hb5.mono B4.size)
    go_wp2_with fail
    refine (qn1.out _ B5).mono ?_
    rintro e w6 ⟨rfl, hb6⟩
    have B6 := B5.trans (hb6.mono B5.size)
    go_wp2_with fail
    refine (qn3.out _ B6).mono ?_
    rintro e w7 ⟨rfl, hb7⟩
    have B7 := B6.trans (hb7.mono B6.size)
    go_wp2_with fail
    refine (qn1.out _ B7).mono ?_
    rintro e w8 ⟨rfl, hb8⟩
    have B8 := B7.trans (hb8.mono B7.size)
    go_wp2_with fail
    refine (qn2.out _ B8).mono ?_
    rintro e w9 ⟨rfl, hb9⟩
    have B9 := B8.trans (hb9.mono B8.size)
    go_wp2_with fail
    go_ret
    exact ⟨rfl, B9⟩
  · go_enter Tryz.func8, Tryz.ntmps8
    go_wp2_with fail
    refine q0.out.mono ?_
    rintro e w1 ⟨rfl, hb1⟩
    by_cases i1 : name.length ≤ 600
    · have f1 : decide ((600 : Int) < (name.length : Int)) = false := by simp; omega
      have f1' : decide (600 < name.length) = false := by simp; omega
      by_cases i2 : 0 ≤ a
      · have f2 : decide (a < 0) = false := by simp; omega
        by_cases i3 : 0 ≤ b
        · have f3 : decide (b < 0) = false := by simp; omega
          by_cases i4 : a ≤ 999999
          · have f4 : decide (999999 < a) = false := by simp; omega
            have f5 : decide (999999 < b) = true := by simp; omega
            go_wp2
            go_ret
            exact ⟨rfl, hb1⟩
          · have f4 : decide (999999 < a) = true := by simp; omega
            go_wp2
            go_ret
            exact ⟨rfl, hb1⟩
        · have f3 : decide (b < 0) = true := by simp; omega
          go_wp2
          go_ret
          exact ⟨rfl, hb1⟩
      · have f2 : decide (a < 0) = true := by simp; omega
        go_wp2
        go_ret
        exact ⟨rfl, hb1⟩
    · have f1 : decide ((600 : Int) < (name.length : Int)) = true := by simp; omega
      have f1' : decide (600 < name.length) = true := by simp; omega
      go_wp2
      go_ret
      exact ⟨rfl, hb1⟩
end Go.Proofs.YtgehgjalkponfaaGreatDoor
namespace Go.Proofs.YtgehgjalkponfaaGreatDoor
open Go.RowKit Go.Maps Go.WideMaps
attribute [local go_sem] bs_toList bs_size

/-- The last digits of a number. -/
def lowD (n : Nat) : Nat → List UInt8
  | 0 => []
  | i + 1 => dig n i :: lowD n i
theorem lowD_six (n : Nat) : lowD n 6 = six n := rfl
theorem lowD_len (n : Nat) : ∀ i, (lowD n i).length = i
  | 0 => rfl
  | i + 1 => by rw [lowD, List.length_cons, lowD_len n i]
theorem one_conv (w : World) (b : UInt8) (v : Int) (hv : v = (b.toNat : Int)) :
    (convert 76 9 (.slice (some ⟨w.heap.size, 0, none⟩) 1 1)).run Tryz.prog (w.alloc (.cells #[.int .u8 v] 5)) = .ok (.string (bs [b])) (w.alloc (.cells #[.int .u8 v] 5)) :=
  run_conv_cells 76 9 5 Tryz.underlying76 Tryz.underlying5 Tryz.underlying9 w.heap.size 0 1 [b] _ fun i h => by
    rw [Nat.zero_add, World.cell?_alloc_new]
    obtain rfl : i = 0 := by simp at h; omega
    simp [hv]
set_option maxRecDepth 100000 in
set_option maxHeartbeats 1000000 in
theorem ref_Name_any (kind : List UInt8) (n : Int) (w : World) (hk : kind.length ≤ 1000000) :
    Calls Tryz.prog 22 #[.string (bs kind), .int .i64 n] w fun e w' => e = .returned (.string (bs (nameB kind n))) ∧ Below w.heap.size w w' := by
  by_cases hn0 : n < 0
  · have f1 : decide (n < 0) = true := by simpa using hn0
    have hN : nameB kind n = [] := by unfold nameB; rw [if_pos (.inl hn0)]
    clear hn0
    go_enter Tryz.func22, Tryz.ntmps22
    go_wp2
    go_ret
    exact ⟨by rw [hN]; rfl, Below.refl _ _⟩
  · have f1 : decide (n < 0) = false := by simpa using hn0
    by_cases hn1 : 999999 < n
    · have f2 : decide (999999 < n) = true := by simpa using hn1
      have hN : nameB kind n = [] := by unfold nameB; rw [if_pos (.inr hn1)]
      clear hn0 hn1
      go_enter Tryz.func22, Tryz.ntmps22
      go_wp2
      go_ret
      exact ⟨by rw [hN]; rfl, Below.refl _ _⟩
    · have f2 : decide (999999 < n) = false := by simpa using hn1
      obtain ⟨q, rfl⟩ : ∃ q : Nat, n = q := ⟨n.toNat, by omega⟩
      have hN := Lib.hid (show nameB kind (q : Int) = kind ++ 45 :: lowD q 6 by unfold nameB; rw [if_neg (by omega), lowD_six, Int.toNat_natCast])
      have hq : q ≤ 999999 := by omega
      clear hn0 hn1
      go_enter Tryz.func22, Tryz.ntmps22
      go_wp2_with fail
      go_loopw [1, 5, 6] (fun vn vs vi wr => ∃ i : Nat, i ≤ 6 ∧ vn = .int .i64 ((q / 10 ^ i : Nat) : Int) ∧ vs = .string (bs (lowD q i)) ∧ vi = .int .i64 (i : Int) ∧ Below w.heap.size w wr) (fun _ _ vi _ => 6 - (intOf vi).toNat)
      case atStart => exact ⟨0, by omega, by simp, rfl, rfl, Below.refl _ _⟩
      case round =>
        obtain ⟨i, hi, rfl, rfl, rfl, hb⟩ := hrel
        rcases (show i < 6 ∨ i = 6 by omega) with hil | rfl
        · have hd := Lib.hid (show q / 10 ^ (i + 1) = q / 10 ^ i / 10 by rw [Nat.pow_succ, Nat.div_div_eq_div_mul])
          have hx := dig_toNat q i
          have hL := lowD_len q i
          have HD := Lib.hid (show lowD q (i + 1) = dig q i :: lowD q i from rfl)
          have hle : q / 10 ^ i ≤ 999999 := Nat.le_trans (Nat.div_le_self _ _) hq
          generalize lowD q i = l at *
          generalize dig q i = b at *
          generalize q / 10 ^ i = x at *
          have hcv := fun W : World => one_conv W b ((48 + (x : Int) % 10)) (by omega)
          have hadd : ∀ W, (Op.stringOp .add (bs [b]) (bs l)).run Tryz.prog W = .ok (.string (bs (b :: l))) W := fun W => run_add_bs (P := Tryz.prog) [b] l (by simp; omega) W
          have f3 : decide ((i : Int) < 6) = true := by simp; omega
          have f4 : decide (i < 6) = true := by simp; omega
          have hw8 : IntKind.u8.wrap (48 + (x : Int) % 10) = 48 + (x : Int) % 10 := by
            simp [IntKind.wrap, IntKind.bits, IntKind.signed]
            omega
          clear hN
          go_wp2_with fail
          go_roundw
          case rel =>
            refine ⟨i + 1, by omega, ?_, ?_, by go_num, hb.alloc hb.size _⟩
            · rw [hd.out]
              go_num
            · rw [HD.out]
          case measure => simp [intOf]; omega
        · have hL := lowD_len q 6
          generalize lowD q 6 = l at *
          have hN2 := Lib.hid (show bs (nameB kind (q : Int)) = bs kind ++ ⟨#[45]⟩ ++ bs l by rw [hN.out, show kind ++ 45 :: l = kind ++ [45] ++ l by simp, ← bs_append, ← bs_append]; rfl)
          clear hN
          go_wp2_with fail
          go_ret
          exact ⟨by rw [hN2.out]; rfl, hb⟩
end Go.Proofs.YtgehgjalkponfaaGreatDoor
namespace Go.Proofs.YtgehgjalkponfaaGreatDoor
open Go.RowKit Go.Maps Go.WideMaps
attribute [local go_sem] bs_toList bs_size

/-- What digits tell, whatever bytes they are. -/
def accB : Int → List UInt8 → Int
  | a, [] => a
  | a, b :: l => accB (a * 10 + (b.toNat : Int) - 48) l
theorem accB_snoc (b : UInt8) : ∀ (l : List UInt8) (a : Int), accB a (l ++ [b]) = accB a l * 10 + (b.toNat : Int) - 48
  | [], _ => rfl
  | c :: l, a => by rw [List.cons_append, accB, accB, accB_snoc b l]
theorem accB_bd : ∀ (l : List UInt8) (a : Int) (A : Nat), -(A : Int) ≤ a ∧ a ≤ A → -(((A + 29) * 10 ^ l.length : Nat) : Int) ≤ accB a l ∧ accB a l ≤ (((A + 29) * 10 ^ l.length : Nat) : Int)
  | [], a, A, h => by
    rw [accB, List.length_nil, Nat.pow_zero, Nat.mul_one]
    omega
  | b :: l, a, A, h => by
    have hb := b.toNat_lt
    have := accB_bd l (a * 10 + (b.toNat : Int) - 48) (A * 10 + 255) (by omega)
    have e : (A * 10 + 255 + 29) * 10 ^ l.length ≤ (A + 29) * 10 ^ (l.length + 1) := by
      rw [Nat.pow_succ, Nat.mul_comm (10 ^ l.length) 10, ← Nat.mul_assoc]
      exact Nat.mul_le_mul_right _ (by omega)
    rw [accB, List.length_cons]
    omega
/-- The number that the document reads of a name. -/
def numL (name : List UInt8) : Int := if name.length < 6 then 0 else accB 0 (name.drop (name.length - 6))
theorem accB_six (n : Nat) (h : n ≤ 999999) : accB 0 (six n) = n := by
  unfold six
  simp only [accB, dig_toNat]
  have := dig_sum n h
  omega
theorem numL_name (k : List UInt8) (n : Int) (h0 : 0 ≤ n) (h1 : n ≤ 999999) : numL (nameB k n) = n := by
  unfold nameB
  rw [if_neg (by omega)]
  have hl : (six n.toNat).length = 6 := rfl
  unfold numL
  rw [List.length_append, List.length_cons, hl, if_neg (by omega), show k ++ 45 :: six n.toNat = (k ++ [45]) ++ six n.toNat by simp, List.drop_left' (by simp), accB_six _ (by omega)]
  omega
/-- The document's answer is the program's. -/
theorem parse_ref (name : List UInt8) : parseB name = if !name.isEmpty && (nameB walK (numL name) == name) then (walK, numL name, true) else if !name.isEmpty && (nameB blockK (numL name) == name) then (blockK, numL name, true) else ([], 0, false) := by
  cases h : (parseB name).2.2 with
  | true =>
    obtain ⟨k, n, hk, h0, h1, hn, hp⟩ := parse_true _ h
    have hL := numL_name k n h0 h1
    rw [hn] at hL
    have hne : name.isEmpty = false := by
      rw [← hn]
      unfold nameB
      rw [if_neg (by omega)]
      cases k <;> rfl
    rw [hp, hL, hne]
    rcases hk with rfl | rfl
    · rw [show (nameB walK n == name) = true by simpa using hn]
      rfl
    · rw [show (nameB walK n == name) = false by rw [← hn]; exact names_ne n n ⟨h0, h1⟩ ⟨h0, h1⟩, show (nameB blockK n == name) = true by simpa using hn]
      rfl
  | false =>
    have hp := parse_false _ h
    have no : ∀ k, k = walK ∨ k = blockK → (!name.isEmpty && (nameB k (numL name) == name)) = false := fun k hk => by
      cases hc : (!name.isEmpty && (nameB k (numL name) == name)) with
      | false => rfl
      | true =>
        simp only [Bool.and_eq_true, Bool.not_eq_true', beq_iff_eq] at hc
        obtain ⟨hne, hn⟩ := hc
        by_cases hr : numL name < 0 ∨ 999999 < numL name
        · unfold nameB at hn
          rw [if_pos hr] at hn
          rw [← hn] at hne
          cases hne
        · have := parse_name k (numL name) hk (by omega) (by omega)
          rw [hn, hp] at this
          exact absurd (congrArg (fun x => x.2.2) this) (by simp)
    rw [no walK (.inl rfl), no blockK (.inr rfl), hp]
    rfl
set_option maxRecDepth 100000 in
set_option maxHeartbeats 2000000 in
theorem ref_Parse_any (name : List UInt8) (w : World) (hl : name.length ≤ 1000000) :
    Calls Tryz.prog 20 #[.string (bs name)] w fun e w' => e = .returned (parseV (parseB name)) ∧ Below w.heap.size w w' := by
  have HP := Lib.hid (parse_ref name)
  have QN := Lib.hid (fun k n (W : World) (hk : k.length ≤ 1000000) => ref_Name_any k n W hk)
  have HL := Lib.hid (show numL name = if name.length < 6 then 0 else accB 0 (name.drop (name.length - 6)) from rfl)
  generalize parseB name = PB at *
  cases hne : name.isEmpty with
  | true =>
    obtain rfl : name = [] := List.isEmpty_iff.1 hne
    have HY := Lib.hid (show PB = ([], 0, false) by rw [HP.out]; rfl)
    clear HP HL QN
    go_enter Tryz.func20, Tryz.ntmps20
    go_wp2_with fail
    go_loop [5, 6] (fun vn vi => vn = .int .i64 0 ∧ vi = .int .i64 (-6)) (fun _ _ => 0)
    case atStart => exact ⟨rfl, rfl⟩
    obtain ⟨rfl, rfl⟩ := hrel
    go_wp2_with fail
    go_ret3
    exact ⟨by rw [HY.out]; rfl, Below.refl _ _⟩
  | false =>
  have hnn : name ≠ [] := fun e => by rw [e] at hne; cases hne
  by_cases h6 : name.length < 6
  · have HN := Lib.hid (show numL name = 0 by rw [HL.out, if_pos h6])
    rw [HN.out] at HP
    clear HL HN
    go_enter Tryz.func20, Tryz.ntmps20
    go_wp2_with fail
    go_loop [5, 6] (fun vn vi => vn = .int .i64 0 ∧ vi = .int .i64 ((name.length : Int) - 6)) (fun _ _ => 0)
    case atStart => exact ⟨rfl, rfl⟩
    obtain ⟨rfl, rfl⟩ := hrel
    have f1 : decide (0 ≤ (name.length : Int) - 6) = false := by simp; omega
    have f2 : decide ((name.length : Int) - 6 < name.length) = true := by simp; omega
    go_wp2_with fail
    refine (QN.out [119, 97, 108] 0 _ (by decide)).mono ?_
    rintro e w1 ⟨rfl, b1⟩
    rw [hne, show walK = [119, 97, 108] from rfl, show blockK = [98, 108, 111, 99, 107] from rfl] at HP
    cases h1 : (nameB [119, 97, 108] 0 == name) with
    | true =>
      have HY := Lib.hid (show PB = ([119, 97, 108], 0, true) by rw [HP.out, h1]; rfl)
      clear HP QN
      go_wp2_with fail
      go_ret3
      exact ⟨by rw [HY.out]; rfl, b1⟩
    | false =>
      go_wp2_with fail
      refine (QN.out [98, 108, 111, 99, 107] 0 _ (by decide)).mono ?_
      rintro e w2 ⟨rfl, b2⟩
      have B2 := b1.trans (b2.mono b1.size)
      cases h2 : (nameB [98, 108, 111, 99, 107] 0 == name) with
      | true =>
        have HY := Lib.hid (show PB = ([98, 108, 111, 99, 107], 0, true) by rw [HP.out, h1, h2]; rfl)
        clear HP QN
        go_wp2_with fail
        go_ret3
        exact ⟨by rw [HY.out]; rfl, B2⟩
      | false =>
        have HY := Lib.hid (show PB = ([], 0, false) by rw [HP.out, h1, h2]; rfl)
        clear HP QN
        go_wp2_with fail
        go_ret3
        exact ⟨by rw [HY.out]; rfl, B2⟩
  · obtain ⟨p, hp⟩ : ∃ p, name.length = p + 6 := ⟨name.length - 6, by omega⟩
    have HN := Lib.hid (show numL name = accB 0 (name.drop p) by rw [HL.out, if_neg h6, hp]; rfl)
    clear HL
    have hp' := Lib.hid hp
    clear hp h6
    go_enter Tryz.func20, Tryz.ntmps20
    go_wp2_with fail
    go_loop [5, 6] (fun vn vi => ∃ j : Nat, p ≤ j ∧ j ≤ p + 6 ∧ vn = .int .i64 (accB 0 ((name.drop p).take (j - p))) ∧ vi = .int .i64 (j : Int)) (fun _ vi => name.length - (intOf vi).toNat)
    case atStart => exact ⟨p, by omega, by omega, by rw [Nat.sub_self]; rfl, by have := hp'.out; go_num⟩
    obtain ⟨j, hj1, hj2, rfl, rfl⟩ := hrel
    have hp := hp'.out
    have f1 : decide (0 ≤ (j : Int)) = true := by simp
    rcases (show j < p + 6 ∨ j = p + 6 by omega) with hk6 | rfl
    · have hbd := accB_bd ((name.drop p).take (j - p)) 0 0 ⟨by omega, by omega⟩
      have hpk : j < name.length := by omega
      have hb := List.getElem?_eq_getElem hpk
      have HS := Lib.hid (show accB 0 ((name.drop p).take (j + 1 - p)) = accB 0 ((name.drop p).take (j - p)) * 10 + (name[j].toNat : Int) - 48 by
        rw [show j + 1 - p = j - p + 1 by omega, List.take_succ_eq_append_getElem (by rw [List.length_drop]; omega), accB_snoc, List.getElem_drop]
        simp only [show p + (j - p) = j by omega])
      have hpw : (10 : Nat) ^ ((name.drop p).take (j - p)).length ≤ 1000000 := Nat.le_trans (Nat.pow_le_pow_right (by decide) (show ((name.drop p).take (j - p)).length ≤ 6 by rw [List.length_take]; omega)) (by decide)
      generalize (10 : Nat) ^ ((name.drop p).take (j - p)).length = P at *
      generalize accB 0 ((name.drop p).take (j - p)) = a at *
      generalize name[j] = b at *
      have ha1 : -29000000 ≤ a := by omega
      have ha2 : a ≤ 29000000 := by omega
      have hidx := fun W => run_index_bs (P := Tryz.prog) 9 Tryz.underlying9 name j b hb .i64 W
      have hbl := b.toNat_lt
      generalize b.toNat = m at *
      have f2 : decide ((j : Int) < (name.length : Int)) = true := by simp; omega
      have f3 : decide (j < name.length) = true := by simp; omega
      have hpl : j ≤ 1000000 := by omega
      clear hbd hpw hp hb HP
      go_wp2_with fail
      go_round
      case rel => exact ⟨j + 1, by omega, by omega, by rw [HS.out], by go_num⟩
      case measure => simp [intOf]; omega
    · have HX := Lib.hid (show accB 0 ((name.drop p).take (p + 6 - p)) = numL name by rw [HN.out, List.take_of_length_le (Nat.le_of_eq (by rw [List.length_drop, hp]))])
      rw [HX.out]
      generalize numL name = n at *
      have f2 : decide ((p : Int) + 6 < (name.length : Int)) = false := by simp; omega
      clear hp
      go_wp2_with fail
      refine (QN.out [119, 97, 108] n _ (by decide)).mono ?_
      rintro e w1 ⟨rfl, b1⟩
      rw [hne, show walK = [119, 97, 108] from rfl, show blockK = [98, 108, 111, 99, 107] from rfl] at HP
      cases h1 : (nameB [119, 97, 108] n == name) with
      | true =>
        have HY := Lib.hid (show PB = ([119, 97, 108], n, true) by rw [HP.out, h1]; rfl)
        clear HP QN
        go_wp2_with fail
        go_ret3
        exact ⟨by rw [HY.out]; rfl, b1⟩
      | false =>
        go_wp2_with fail
        refine (QN.out [98, 108, 111, 99, 107] n _ (by decide)).mono ?_
        rintro e w2 ⟨rfl, b2⟩
        have B2 := b1.trans (b2.mono b1.size)
        cases h2 : (nameB [98, 108, 111, 99, 107] n == name) with
        | true =>
          have HY := Lib.hid (show PB = ([98, 108, 111, 99, 107], n, true) by rw [HP.out, h1, h2]; rfl)
          clear HP QN
          go_wp2_with fail
          go_ret3
          exact ⟨by rw [HY.out]; rfl, B2⟩
        | false =>
          have HY := Lib.hid (show PB = ([], 0, false) by rw [HP.out, h1, h2]; rfl)
          clear HP QN
          go_wp2_with fail
          go_ret3
          exact ⟨by rw [HY.out]; rfl, B2⟩
end Go.Proofs.YtgehgjalkponfaaGreatDoor
namespace Go.Proofs.YtgehgjalkponfaaGreatDoor
open Go.RowKit Go.Maps Go.WideMaps
attribute [local go_sem] bs_toList bs_size

theorem nameB_len (k : List UInt8) (n : Int) : (nameB k n).length ≤ k.length + 7 := by
  unfold nameB
  split
  · exact Nat.zero_le _
  · rw [List.length_append, List.length_cons]
    exact Nat.le_refl _
/-- What is told of a name: of one of a store's file that file; else nothing. -/
theorem parse_of_name (k : List UInt8) (n : Int) : parseB (nameB k n) = if (k = walK ∨ k = blockK) ∧ 0 ≤ n ∧ n ≤ 999999 then (k, n, true) else ([], 0, false) := by
  by_cases h : (k = walK ∨ k = blockK) ∧ 0 ≤ n ∧ n ≤ 999999
  · rw [if_pos h]
    exact parse_name k n h.1 h.2.1 h.2.2
  · rw [if_neg h]
    refine parse_false _ ?_
    cases hc : (parseB (nameB k n)).2.2 with
    | false => rfl
    | true =>
      obtain ⟨k', n', hk, h0, h1, hn, _⟩ := parse_true _ hc
      by_cases hr : n < 0 ∨ 999999 < n
      · have e : nameB k n = [] := by
          unfold nameB
          rw [if_pos hr]
        have e' : nameB k' n' ≠ [] := by
          unfold nameB
          rw [if_neg (by omega)]
          cases k' <;> exact List.cons_ne_nil _ _
        exact absurd (hn.trans e) e'
      · obtain ⟨rfl, rfl⟩ := name_inj k' k n' n h0 h1 (by omega) (by omega) hn
        exact absurd ⟨hk, h0, h1⟩ h
set_option maxRecDepth 100000 in
set_option maxHeartbeats 4000000 in
theorem MetaNames_walk (kind : List UInt8) (n : Int) (name : List UInt8) (W : World) (hG : Gl W) (hkm : kind.length ≤ maxLen) (n1 : -9223372036854775808 ≤ n) (n2 : n ≤ 9223372036854775807) (hnm : name.length ≤ maxLen) :
    Calls Tryz.prog 5 #[.string (bs kind), .int .i64 n, .string (bs name)] W fun e w' => e = .returned (.bool true) ∧ Below W.heap.size W w' := by
  have q0 := Lib.hid (works_any W hG)
  unfold maxLen at hkm hnm
  by_cases i1 : kind.length ≤ 600
  · have f1 : decide ((600 : Int) < (kind.length : Int)) = false := by simp; omega
    have f1' : decide (600 < kind.length) = false := by simp; omega
    by_cases i2 : name.length ≤ 600
    · have f2 : decide ((600 : Int) < (name.length : Int)) = false := by simp; omega
      have f2' : decide (600 < name.length) = false := by simp; omega
      have hpn := parse_of_name kind n
      have hlen := nameB_len kind n
      have qa := Lib.hid (fun W' (h : Below W.heap.size W W') => Parse_any name W' (hG.below h) (by omega))
      have qb := Lib.hid (fun W' => ref_Parse_any name W' (by omega))
      have qn := Lib.hid (fun W' (h : Below W.heap.size W W') => Name_any kind n W' (hG.below h) (by omega) n1 n2)
      have qd := Lib.hid (fun W' (h : Below W.heap.size W W') => Parse_any (nameB kind n) W' (hG.below h) (by omega))
      have qr := Lib.hid (fun W' => ref_Name_any kind n W' (by omega))
      have qt := Lib.hid (fun W' => Temp_any name W' (by omega))
      rw [hpn] at qd
      generalize nameB kind n = NM at *
      generalize parseB name = PB at *
      obtain ⟨A, B, C⟩ := PB
      rw [show parseV (A, B, C) = .tuple #[.string (bs A), .int .i64 B, .bool C] from rfl] at qa qb
      have hT : bs (tmpK ++ name) = (⟨#[116, 109, 112, 45]⟩ : ByteArray) ++ bs name := by rw [← bs_append]; rfl
      rw [hT] at qt
      clear hT hpn
      by_cases k1 : kind = [119, 97, 108]
      · subst k1
        rw [show bs [119, 97, 108] = (⟨#[119, 97, 108]⟩ : ByteArray) from rfl] at qn qr ⊢
        by_cases j0 : 0 ≤ n
        · have g0 : decide (0 ≤ n) = true := by simpa using j0
          by_cases j1 : n ≤ 999999
          · have g1 : decide (n ≤ 999999) = true := by simpa using j1
            rw [if_pos ⟨.inl rfl, by omega, by omega⟩, show parseV ([119, 97, 108], n, true) = .tuple #[.string (⟨#[119, 97, 108]⟩ : ByteArray), .int .i64 n, .bool true] from rfl] at qd
            go_enter Tryz.func5, Tryz.ntmps5
            go_wp2_with fail
            refine q0.out.mono ?_
            rintro e w1 ⟨rfl, B1⟩
            go_wp2_with fail
            refine (qa.out w1 B1).mono ?_
            rintro e w2 ⟨rfl, b2⟩
            have B2 := B1.trans (b2.mono B1.size)
            clear qa q0
            go_wp2_with fail
            refine (qb.out w2).mono ?_
            rintro e w3 ⟨rfl, b3⟩
            have B3 := B2.trans (b3.mono B2.size)
            clear qb
            go_wp2_with fail
            refine (qn.out w3 B3).mono ?_
            rintro e w4 ⟨rfl, b4⟩
            have B4 := B3.trans (b4.mono B3.size)
            go_wp2_with fail
            refine (qd.out w4 B4).mono ?_
            rintro e w5 ⟨rfl, b5⟩
            have B5 := B4.trans (b5.mono B4.size)
            clear qd
            go_wp2_with fail
            refine (qn.out w5 B5).mono ?_
            rintro e w6 ⟨rfl, b6⟩
            have B6 := B5.trans (b6.mono B5.size)
            clear qn
            go_wp2_with fail
            refine (qr.out w6).mono ?_
            rintro e w7 ⟨rfl, b7⟩
            have B7 := B6.trans (b7.mono B6.size)
            clear qr
            go_wp2_with fail
            refine (qt.out w7).mono ?_
            rintro e w8 ⟨rfl, rfl⟩
            clear qt
            go_wp2_with fail
            go_ret
            exact ⟨rfl, B7⟩
          · have g1 : decide (n ≤ 999999) = false := by simpa using j1
            rw [if_neg (fun h => j1 h.2.2), show parseV ([], 0, false) = .tuple #[.string (⟨#[]⟩ : ByteArray), .int .i64 0, .bool false] from rfl] at qd
            go_enter Tryz.func5, Tryz.ntmps5
            go_wp2_with fail
            refine q0.out.mono ?_
            rintro e w1 ⟨rfl, B1⟩
            go_wp2_with fail
            refine (qa.out w1 B1).mono ?_
            rintro e w2 ⟨rfl, b2⟩
            have B2 := B1.trans (b2.mono B1.size)
            clear qa q0
            go_wp2_with fail
            refine (qb.out w2).mono ?_
            rintro e w3 ⟨rfl, b3⟩
            have B3 := B2.trans (b3.mono B2.size)
            clear qb
            go_wp2_with fail
            refine (qn.out w3 B3).mono ?_
            rintro e w4 ⟨rfl, b4⟩
            have B4 := B3.trans (b4.mono B3.size)
            go_wp2_with fail
            refine (qd.out w4 B4).mono ?_
            rintro e w5 ⟨rfl, b5⟩
            have B5 := B4.trans (b5.mono B4.size)
            clear qd
            go_wp2_with fail
            refine (qn.out w5 B5).mono ?_
            rintro e w6 ⟨rfl, b6⟩
            have B6 := B5.trans (b6.mono B5.size)
            clear qn
            go_wp2_with fail
            refine (qr.out w6).mono ?_
            rintro e w7 ⟨rfl, b7⟩
            have B7 := B6.trans (b7.mono B6.size)
            clear qr
            go_wp2_with fail
            refine (qt.out w7).mono ?_
            rintro e w8 ⟨rfl, rfl⟩
            clear qt
            go_wp2_with fail
            go_ret
            exact ⟨rfl, B7⟩
        · have g0 : decide (0 ≤ n) = false := by simpa using j0
          rw [if_neg (fun h => j0 h.2.1), show parseV ([], 0, false) = .tuple #[.string (⟨#[]⟩ : ByteArray), .int .i64 0, .bool false] from rfl] at qd
          go_enter Tryz.func5, Tryz.ntmps5
          go_wp2_with fail
          refine q0.out.mono ?_
          rintro e w1 ⟨rfl, B1⟩
          go_wp2_with fail
          refine (qa.out w1 B1).mono ?_
          rintro e w2 ⟨rfl, b2⟩
          have B2 := B1.trans (b2.mono B1.size)
          clear qa q0
          go_wp2_with fail
          refine (qb.out w2).mono ?_
          rintro e w3 ⟨rfl, b3⟩
          have B3 := B2.trans (b3.mono B2.size)
          clear qb
          go_wp2_with fail
          refine (qn.out w3 B3).mono ?_
          rintro e w4 ⟨rfl, b4⟩
          have B4 := B3.trans (b4.mono B3.size)
          go_wp2_with fail
          refine (qd.out w4 B4).mono ?_
          rintro e w5 ⟨rfl, b5⟩
          have B5 := B4.trans (b5.mono B4.size)
          clear qd
          go_wp2_with fail
          refine (qn.out w5 B5).mono ?_
          rintro e w6 ⟨rfl, b6⟩
          have B6 := B5.trans (b6.mono B5.size)
          clear qn
          go_wp2_with fail
          refine (qr.out w6).mono ?_
          rintro e w7 ⟨rfl, b7⟩
          have B7 := B6.trans (b7.mono B6.size)
          clear qr
          go_wp2_with fail
          refine (qt.out w7).mono ?_
          rintro e w8 ⟨rfl, rfl⟩
          clear qt
          go_wp2_with fail
          go_ret
          exact ⟨rfl, B7⟩
      · by_cases k2 : kind = [98, 108, 111, 99, 107]
        · subst k2
          rw [show bs [98, 108, 111, 99, 107] = (⟨#[98, 108, 111, 99, 107]⟩ : ByteArray) from rfl] at qn qr ⊢
          by_cases j0 : 0 ≤ n
          · have g0 : decide (0 ≤ n) = true := by simpa using j0
            by_cases j1 : n ≤ 999999
            · have g1 : decide (n ≤ 999999) = true := by simpa using j1
              rw [if_pos ⟨.inr rfl, by omega, by omega⟩, show parseV ([98, 108, 111, 99, 107], n, true) = .tuple #[.string (⟨#[98, 108, 111, 99, 107]⟩ : ByteArray), .int .i64 n, .bool true] from rfl] at qd
              go_enter Tryz.func5, Tryz.ntmps5
              go_wp2_with fail
              refine q0.out.mono ?_
              rintro e w1 ⟨rfl, B1⟩
              go_wp2_with fail
              refine (qa.out w1 B1).mono ?_
              rintro e w2 ⟨rfl, b2⟩
              have B2 := B1.trans (b2.mono B1.size)
              clear qa q0
              go_wp2_with fail
              refine (qb.out w2).mono ?_
              rintro e w3 ⟨rfl, b3⟩
              have B3 := B2.trans (b3.mono B2.size)
              clear qb
              go_wp2_with fail
              refine (qn.out w3 B3).mono ?_
              rintro e w4 ⟨rfl, b4⟩
              have B4 := B3.trans (b4.mono B3.size)
              go_wp2_with fail
              refine (qd.out w4 B4).mono ?_
              rintro e w5 ⟨rfl, b5⟩
              have B5 := B4.trans (b5.mono B4.size)
              clear qd
              go_wp2_with fail
              refine (qn.out w5 B5).mono ?_
              rintro e w6 ⟨rfl, b6⟩
              have B6 := B5.trans (b6.mono B5.size)
              clear qn
              go_wp2_with fail
              refine (qr.out w6).mono ?_
              rintro e w7 ⟨rfl, b7⟩
              have B7 := B6.trans (b7.mono B6.size)
              clear qr
              go_wp2_with fail
              refine (qt.out w7).mono ?_
              rintro e w8 ⟨rfl, rfl⟩
              clear qt
              go_wp2_with fail
              go_ret
              exact ⟨rfl, B7⟩
            · have g1 : decide (n ≤ 999999) = false := by simpa using j1
              rw [if_neg (fun h => j1 h.2.2), show parseV ([], 0, false) = .tuple #[.string (⟨#[]⟩ : ByteArray), .int .i64 0, .bool false] from rfl] at qd
              go_enter Tryz.func5, Tryz.ntmps5
              go_wp2_with fail
              refine q0.out.mono ?_
              rintro e w1 ⟨rfl, B1⟩
              go_wp2_with fail
              refine (qa.out w1 B1).mono ?_
              rintro e w2 ⟨rfl, b2⟩
              have B2 := B1.trans (b2.mono B1.size)
              clear qa q0
              go_wp2_with fail
              refine (qb.out w2).mono ?_
              rintro e w3 ⟨rfl, b3⟩
              have B3 := B2.trans (b3.mono B2.size)
              clear qb
              go_wp2_with fail
              refine (qn.out w3 B3).mono ?_
              rintro e w4 ⟨rfl, b4⟩
              have B4 := B3.trans (b4.mono B3.size)
              go_wp2_with fail
              refine (qd.out w4 B4).mono ?_
              rintro e w5 ⟨rfl, b5⟩
              have B5 := B4.trans (b5.mono B4.size)
              clear qd
              go_wp2_with fail
              refine (qn.out w5 B5).mono ?_
              rintro e w6 ⟨rfl, b6⟩
              have B6 := B5.trans (b6.mono B5.size)
              clear qn
              go_wp2_with fail
              refine (qr.out w6).mono ?_
              rintro e w7 ⟨rfl, b7⟩
              have B7 := B6.trans (b7.mono B6.size)
              clear qr
              go_wp2_with fail
              refine (qt.out w7).mono ?_
              rintro e w8 ⟨rfl, rfl⟩
              clear qt
              go_wp2_with fail
              go_ret
              exact ⟨rfl, B7⟩
          · have g0 : decide (0 ≤ n) = false := by simpa using j0
            rw [if_neg (fun h => j0 h.2.1), show parseV ([], 0, false) = .tuple #[.string (⟨#[]⟩ : ByteArray), .int .i64 0, .bool false] from rfl] at qd
            go_enter Tryz.func5, Tryz.ntmps5
            go_wp2_with fail
            refine q0.out.mono ?_
            rintro e w1 ⟨rfl, B1⟩
            go_wp2_with fail
            refine (qa.out w1 B1).mono ?_
            rintro e w2 ⟨rfl, b2⟩
            have B2 := B1.trans (b2.mono B1.size)
            clear qa q0
            go_wp2_with fail
            refine (qb.out w2).mono ?_
            rintro e w3 ⟨rfl, b3⟩
            have B3 := B2.trans (b3.mono B2.size)
            clear qb
            go_wp2_with fail
            refine (qn.out w3 B3).mono ?_
            rintro e w4 ⟨rfl, b4⟩
            have B4 := B3.trans (b4.mono B3.size)
            go_wp2_with fail
            refine (qd.out w4 B4).mono ?_
            rintro e w5 ⟨rfl, b5⟩
            have B5 := B4.trans (b5.mono B4.size)
            clear qd
            go_wp2_with fail
            refine (qn.out w5 B5).mono ?_
            rintro e w6 ⟨rfl, b6⟩
            have B6 := B5.trans (b6.mono B5.size)
            clear qn
            go_wp2_with fail
            refine (qr.out w6).mono ?_
            rintro e w7 ⟨rfl, b7⟩
            have B7 := B6.trans (b7.mono B6.size)
            clear qr
            go_wp2_with fail
            refine (qt.out w7).mono ?_
            rintro e w8 ⟨rfl, rfl⟩
            clear qt
            go_wp2_with fail
            go_ret
            exact ⟨rfl, B7⟩
        · have g1 : (kind == [119, 97, 108]) = false := by simpa using k1
          have g2 : (kind == [98, 108, 111, 99, 107]) = false := by simpa using k2
          rw [if_neg (fun h => h.1.elim (fun e => k1 e) (fun e => k2 e)), show parseV ([], 0, false) = .tuple #[.string (⟨#[]⟩ : ByteArray), .int .i64 0, .bool false] from rfl] at qd
          go_enter Tryz.func5, Tryz.ntmps5
          go_wp2_with fail
          refine q0.out.mono ?_
          rintro e w1 ⟨rfl, B1⟩
          go_wp2_with fail
          refine (qa.out w1 B1).mono ?_
          rintro e w2 ⟨rfl, b2⟩
          have B2 := B1.trans (b2.mono B1.size)
          clear qa q0
          go_wp2_with fail
          refine (qb.out w2).mono ?_
          rintro e w3 ⟨rfl, b3⟩
          have B3 := B2.trans (b3.mono B2.size)
          clear qb
          go_wp2_with fail
          refine (qn.out w3 B3).mono ?_
          rintro e w4 ⟨rfl, b4⟩
          have B4 := B3.trans (b4.mono B3.size)
          go_wp2_with fail
          refine (qd.out w4 B4).mono ?_
          rintro e w5 ⟨rfl, b5⟩
          have B5 := B4.trans (b5.mono B4.size)
          clear qd
          go_wp2_with fail
          refine (qn.out w5 B5).mono ?_
          rintro e w6 ⟨rfl, b6⟩
          have B6 := B5.trans (b6.mono B5.size)
          clear qn
          go_wp2_with fail
          refine (qr.out w6).mono ?_
          rintro e w7 ⟨rfl, b7⟩
          have B7 := B6.trans (b7.mono B6.size)
          clear qr
          go_wp2_with fail
          refine (qt.out w7).mono ?_
          rintro e w8 ⟨rfl, rfl⟩
          clear qt
          go_wp2_with fail
          go_ret
          exact ⟨rfl, B7⟩
    · have f2 : decide ((600 : Int) < (name.length : Int)) = true := by simp; omega
      have f2' : decide (600 < name.length) = true := by simp; omega
      go_enter Tryz.func5, Tryz.ntmps5
      go_wp2_with fail
      refine q0.out.mono ?_
      rintro e w1 ⟨rfl, b1⟩
      go_wp2_with fail
      go_ret
      exact ⟨rfl, b1⟩
  · have f1 : decide ((600 : Int) < (kind.length : Int)) = true := by simp; omega
    have f1' : decide (600 < kind.length) = true := by simp; omega
    go_enter Tryz.func5, Tryz.ntmps5
    go_wp2_with fail
    refine q0.out.mono ?_
    rintro e w1 ⟨rfl, b1⟩
    go_wp2_with fail
    go_ret
    exact ⟨rfl, b1⟩
end Go.Proofs.YtgehgjalkponfaaGreatDoor
