/- A region that draws its order, whose operations read and whose callees may make new blocks: one walk in the order of the text, over the class of all worlds that have grown. The reference of layer 3: numbers as bytes. The reference of layer 3: what numbers are taken. The reference of layer 1: the check of bytes, bit by bit. The reference of layer 9: frames, and the heads of files. The reference's reading of a meta, in plain words: it comes to the same. The reference of layer 14 in plain words: whether a meta may be, place by place; its bytes, number by number. -/
import Derived.WalkKit
import Derived.Deep.QuietTactic
import Derived.BigQuiet
import Derived.Test.YtgehgjalkponfaaGreatDoorGA
import Derived.Test.YtgehgjalkponfaaGreatDoorGB
import Derived.Test.YtgehgjalkponfaaGreatDoorGC
import Derived.Test.YtgehgjalkponfaaGreatDoorGE
namespace Go.Proofs.YtgehgjalkponfaaGreatDoor
open Go.RowKit

/-- The worlds that w may have grown to. -/
def GW (w : World) : Type := { w' : World // Below w.heap.size w w' }
def GW.w {w : World} (x : GW w) : World := x.1
theorem GW.below {w : World} (x : GW w) : Below w.heap.size w x.w := x.2
def GW.mk' {w : World} (w' : World) (h : Below w.heap.size w w') : GW w := ⟨w', h⟩
instance {w : World} : Nonempty (GW w) := ⟨⟨w, Below.refl _ w⟩⟩
theorem GW.cell {w : World} (x : GW w) {p : Addr} {v : Value} (h : w.cell? p = some v) : x.w.cell? p = some v := (x.below.cell (World.block_lt_of_cell? _ _ h)).trans h

theorem wp_region_grown {P : Program} {id : Nat} {Q : Exit → Act → World → Prop} {a : Act} {w : World} {l : List Oper} (hm : P.follows .mixedOrders = true) (hB : Region.lexB .any l.toArray = true)
    (h : wpQuiet P l.toArray (fun w' => ∃ x : GW w, w' = x.w) (fun a' => ∀ w', (∃ x : GW w, w' = x.w) → Q .normal a' w') l a) : (Code.region id l.toArray true).wp P Q a w :=
  wp_region_quiet (C := fun w' => ∃ x : GW w, w' = x.w) hm hB ⟨⟨w.drew, (Below.refl _ w).drew⟩, rfl⟩ (by simpa using h)

/-- A callee's contract, met in such a world. -/
theorem Calls.grown_of {P : Program} {f : FuncId} {args : Array Value} {w : World} {x : GW w} {v : Value}
    (h : Calls P f args x.w fun e w' => e = .returned v ∧ Below x.w.heap.size x.w w') : Calls P f args x.w fun e w'' => e = .returned v ∧ ∃ y : GW w, w'' = y.w :=
  h.mono fun _ w' ⟨he, hb⟩ => ⟨he, ⟨w', x.below.trans (hb.mono x.below.size)⟩, rfl⟩
theorem Calls.grown_same {P : Program} {f : FuncId} {args : Array Value} {w : World} {x : GW w} {v : Value}
    (h : Calls P f args x.w fun e w' => e = .returned v ∧ x.w = w') : Calls P f args x.w fun e w'' => e = .returned v ∧ ∃ y : GW w, w'' = y.w :=
  h.mono fun _ _ ⟨he, hb⟩ => ⟨he, x, hb.symm⟩
end Go.Proofs.YtgehgjalkponfaaGreatDoor
namespace Go.Proofs.YtgehgjalkponfaaGreatDoor
open Go.RowKit

set_option maxHeartbeats 400000 in
theorem ref_Zig_any (n : Int) (w : World) (h1 : -9223372036854775808 ≤ n) (h2 : n ≤ 9223372036854775807) :
    Calls Tryz.prog 31 #[.int .i64 n] w fun e w' => e = .returned (.int .u64 (Num.zigI n)) ∧ w = w' := by
  go_enter Tryz.func31, Tryz.ntmps31
  go_wp2
  all_goals go_ret
  · exact ⟨ret_int (by unfold Num.zigI; rw [if_pos (by assumption)]), rfl⟩
  · exact ⟨ret_int (by unfold Num.zigI; rw [if_neg (by omega)]; omega), rfl⟩

set_option maxHeartbeats 400000 in
theorem ref_Zag_any (n : Int) (w : World) (h1 : 0 ≤ n) (h2 : n < 18446744073709551616) :
    Calls Tryz.prog 69 #[.int .u64 n] w fun e w' => e = .returned (.int .i64 (Num.zagI n)) ∧ w = w' := by
  go_enter Tryz.func69, Tryz.ntmps69
  by_cases hp : n % 2 = 0
  · have hb := Lib.hid hp; clear hp
    have hb2 : (n % 2 == 0) = true := by simpa using hb.out
    go_wp2
    go_ret
    exact ⟨ret_int (by unfold Num.zagI; rw [if_pos hb.out]), rfl⟩
  · have hb2 : (n % 2 == 0) = false := by simpa using hp
    go_wp2
    go_ret
    exact ⟨ret_int (by unfold Num.zagI; rw [if_neg hp]), rfl⟩

set_option maxRecDepth 100000 in
set_option maxHeartbeats 400000 in
theorem ref_Small_any (n : Int) (w : World) (h1 : 0 ≤ n) (h2 : n < 18446744073709551616) :
    Calls Tryz.prog 30 #[.int .u64 n] w fun e w' => e = .returned (.string (bs (Num.small n.toNat))) ∧ Below w.heap.size w w' := by
  go_enter Tryz.func30, Tryz.ntmps30
  go_wp2
  go_loopw [0, 3] (fun vn vb wr => RSmallRel n w vn vb wr) (fun vn _ _ => (intOf vn).toNat)
  case atStart =>
    exact ⟨n, [], rfl, OwnB.nil _ _ _, Below.refl _ _, by simp, h1, h2, by simp; omega, by simp [Num.small]⟩
  case round =>
    obtain ⟨m, E, rfl, ho, hb, hk9, hm0, hm, hp, he⟩ := hrel
    have hsz := hb.size
    by_cases hlt : 127 < m
    · have hn := Lib.hid (fun v wr ho hb => RSmallRel.next (w := w) hk9 hm0 hm hp he hlt v wr ho hb)
      have hx : Hid (((UInt8.ofNat (m.toNat % 128 + 128)).toNat : Int) = m % 128 + 128) := by show _ = _; rw [Num.ofNat_toNat _ (by omega)]; omega
      generalize UInt8.ofNat (m.toNat % 128 + 128) = x at hn hx
      clear hp he
      go_wp2_with (at_builtin; refine wpList_append_byte rfl (.tmp 6) (.tmp 11) 76 rfl w.heap.size 5 Tryz.underlying76 u8_info _ E rfl ho 1 _ x rfl hx.out.symm (by omega) hsz ?_; intro g cap w' ho' hb')
      go_roundw
      case rel => exact hn.out _ _ ho' (hb.trans hb')
      case measure => simp [intOf]; omega
    · have hlt' : m < 128 := by omega
      have hd := Lib.hid (small_done hm0 he hlt')
      have hx : Hid (((UInt8.ofNat m.toNat).toNat : Int) = m) := by show _ = _; rw [Num.ofNat_toNat _ (by omega)]; omega
      generalize UInt8.ofNat m.toNat = x at hd hx
      clear hp he
      go_wp2_with (at_builtin; refine wpList_append_byte rfl (.tmp 15) (.tmp 18) 76 rfl w.heap.size 5 Tryz.underlying76 u8_info _ E rfl ho 1 _ x rfl hx.out.symm (by omega) hsz ?_; intro g cap w' ho' hb'; have hc := run_conv_own (P := Tryz.prog) 76 9 5 Tryz.underlying76 Tryz.underlying5 Tryz.underlying9 w' w.heap.size g (E.length + 1) cap _ ho' (by simp); rw [hd.out] at hc)
      go_ret
      exact ⟨rfl, hb.trans hb'⟩

set_option maxRecDepth 100000 in
set_option maxHeartbeats 400000 in
theorem ref_Wide_any (n : Int) (w : World) (h1 : 0 ≤ n) (h2 : n < 18446744073709551616) :
    Calls Tryz.prog 53 #[.int .u64 n] w fun e w' => e = .returned (.string (bs (Num.wide n.toNat))) ∧ Below w.heap.size w w' := by
  go_enter Tryz.func53, Tryz.ntmps53
  go_wp2
  go_loopw [0, 3, 4] (fun vn vb vi wr => RWideRel n w vn vb vi wr) (fun _ _ vi _ => 10 - (intOf vi).toNat)
  case atStart => exact ⟨0, rfl, by simp; omega, by omega, OwnB.nil _ _ _, Below.refl _ _⟩
  case round =>
    obtain ⟨k, rfl, hn, hk8, ho, hb⟩ := hrel
    have hsz := hb.size
    have hm0 : 0 ≤ ((n.toNat / 256 ^ k : Nat) : Int) := Int.natCast_nonneg _
    have hm1 : ((n.toNat / 256 ^ k : Nat) : Int) < 18446744073709551616 := by have := Nat.div_le_self n.toNat (256 ^ k); omega
    have hdiv : Hid (((n.toNat / 256 ^ (k + 1) : Nat) : Int) = ((n.toNat / 256 ^ k : Nat) : Int) / 256) := by
      show _ = _; rw [Nat.pow_succ, ← Nat.div_div_eq_div_mul]; rfl
    have hx : Hid (((UInt8.ofNat (n.toNat / 256 ^ k % 256)).toNat : Int) = ((n.toNat / 256 ^ k : Nat) : Int) % 256) := by
      show _ = _; rw [Num.ofNat_toNat _ (by omega)]; omega
    have hw := Lib.hid (wideF_snoc k n.toNat)
    have hl := Num.wideF_len k n.toNat
    generalize ((n.toNat / 256 ^ k : Nat) : Int) = m at hn hm0 hm1 hdiv hx
    generalize UInt8.ofNat (n.toNat / 256 ^ k % 256) = x at hx hw
    subst hn
    by_cases hlt : k < 8
    · have hE : (Num.wideF k n.toNat).length + 1 ≤ 140737488355328 := by omega
      have hl' := Lib.hid hl
      clear hl
      go_wp2_with (at_builtin; refine wpList_append_byte rfl (.tmp 9) (.tmp 13) 76 rfl w.heap.size 5 Tryz.underlying76 u8_info _ _ rfl ho 1 _ x rfl hx.out.symm hE hsz ?_; intro g cap w' ho' hb')
      go_roundw
      case rel => exact ⟨k + 1, rfl, by rw [hdiv.out], by omega, by rw [hw.out]; exact ho', hb.trans hb'⟩
      case measure => simp [intOf]; omega
    · obtain rfl : k = 8 := by omega
      have hf := OwnB.form ho (by rw [hl]; omega)
      obtain ⟨g, cap, rfl, _⟩ := hf
      have hc := run_conv_own (P := Tryz.prog) 76 9 5 Tryz.underlying76 Tryz.underlying5 Tryz.underlying9 wr w.heap.size g _ cap _ ho rfl
      clear hl
      go_wp2
      go_ret
      exact ⟨rfl, hb⟩

set_option maxRecDepth 100000 in
set_option maxHeartbeats 400000 in
theorem ref_Text_any (t : List UInt8) (w : World) (h1 : t.length ≤ 1099511627776) :
    Calls Tryz.prog 55 #[.string (bs t)] w fun e w' => e = .returned (.string (bs (Num.text t))) ∧ Below w.heap.size w w' := by
  have hs := Num.small_len t.length
  have hz := Lib.hid (bs_size t)
  have hz2 := bs_size (Num.small t.length)
  have hz1 : (bs t).size ≤ 1099511627776 := by rw [hz.out]; exact h1
  have hc := Lib.hid (bs_append (Num.small t.length) t)
  have hsz : (bs (Num.small t.length)).size ≤ 10 := by omega
  clear hz2 hs
  go_enter Tryz.func55, Tryz.ntmps55
  go_wp2_with (go_at_call 30; refine (ref_Small_any _ _ (by omega) (by omega)).mono ?_; rw [Int.toNat_natCast, hz.out]; rintro e w' ⟨rfl, hb⟩)
  go_ret
  exact ⟨by rw [hc.out]; rfl, hb⟩
end Go.Proofs.YtgehgjalkponfaaGreatDoor
namespace Go.Proofs.YtgehgjalkponfaaGreatDoor
namespace Num
theorem smallF_le (f i n : Nat) (hi : 1 ≤ i) (h : n < 128 ^ i) : (smallF f n).length ≤ i := by
  induction f generalizing i n with
  | zero => simpa [smallF] using hi
  | succ f ih =>
    unfold smallF
    by_cases h1 : n < 128
    · rw [if_pos h1]; simpa using hi
    · rw [if_neg h1]
      obtain ⟨j, rfl⟩ : ∃ j, i = j + 1 := ⟨i - 1, by omega⟩
      have hj : 1 ≤ j := by
        rcases Nat.eq_zero_or_pos j with h0 | h0
        · subst h0; simp at h; omega
        · exact h0
      have := ih j (n / 128) hj (by rw [p128] at h; omega)
      simp; omega

/-- Where the reference's number ends: whether its bytes are those that it would be written in. -/
theorem ref_ends (l : List UInt8) (i acc : Nat) (b : UInt8) (hi : i < 10) (hb : l[i]? = some b) (ha : acc < 128 ^ i) (hlt : b.toNat < 128) (h9 : i = 9 → b.toNat ≤ 1)
    (hg : getSmall l = gsF (10 - i) i acc (l.drop i)) :
    (0 < i ∧ b.toNat = 0 ∧ getSmall l = none ∧ small (acc + b.toNat * 128 ^ i) ≠ l.take (i + 1)) ∨
    (getSmall l = some (acc + b.toNat * 128 ^ i, i + 1) ∧ small (acc + b.toNat * 128 ^ i) = l.take (i + 1)) := by
  have hl : i < l.length := by
    rcases Nat.lt_or_ge i l.length with h | h
    · exact h
    · rw [List.getElem?_eq_none h] at hb; cases hb
  have hd : l.drop i = b :: l.drop (i + 1) := by
    rw [List.drop_eq_getElem_cons hl]
    rw [List.getElem?_eq_getElem hl] at hb
    simp at hb; rw [hb]
  rw [hd, show 10 - i = (9 - i) + 1 from by omega, gsF] at hg
  by_cases h0 : 0 < i ∧ b.toNat = 0
  · left
    rw [if_pos (.inr h0)] at hg
    refine ⟨h0.1, h0.2, hg, fun h => ?_⟩
    have h1 := smallF_le 9 i acc (by omega) ha
    have h2 := congrArg List.length h
    rw [h0.2] at h2
    simp only [Nat.zero_mul, Nat.add_zero, List.length_take] at h2
    unfold small at h2
    omega
  · right
    rw [if_neg (by rintro (⟨h1, h2⟩ | h1); exact absurd (h9 h1) (by omega); exact h0 h1), if_pos hlt] at hg
    obtain ⟨_, h2, h3⟩ := getSmall_only l _ _ hg
    refine ⟨hg, ?_⟩
    conv => rhs; rw [h3]
    rw [List.take_append_of_le_length (by omega), List.take_of_length_le (by omega)]
end Num
open Go.RowKit

/-- What the reference's GetSmall, GetWide answer. -/
def refN (l : List UInt8) : Option (Nat × Nat) → Value
  | none => .tuple #[.int .u64 0, .string (bs l), .bool false]
  | some (n, k) => .tuple #[.int .u64 (n : Int), .string (bs (l.drop k)), .bool true]

def RGwRel (l : List UInt8) (vn vi : Value) : Prop := ∃ i : Nat, vi = .int .i64 ((i : Int) - 1) ∧ vn = .int .u64 ((Num.unw ((l.take 8).drop i) : Nat) : Int) ∧ i ≤ 8

set_option maxRecDepth 100000 in
set_option maxHeartbeats 400000 in
theorem ref_GetWide_any (l : List UInt8) (w : World) (hl : l.length ≤ 1099511627776) :
    Calls Tryz.prog 97 #[.string (bs l)] w fun e w' => e = .returned (refN l (Num.getWide l)) ∧ Below w.heap.size w w' := by
  have hz := bs_size l
  by_cases h8 : l.length < 8
  · have hn : Hid (Num.getWide l = none) := by show _ = _; unfold Num.getWide; rw [if_pos h8]
    go_enter Tryz.func97, Tryz.ntmps97
    go_wp2
    go_ret3
    exact ⟨by rw [hn.out]; rfl, Below.refl _ _⟩
  · have hn : Hid (Num.getWide l = some (Num.unw (l.take 8), 8)) := by show _ = _; unfold Num.getWide; rw [if_neg h8]
    have h8' : 8 ≤ l.length := by omega
    go_enter Tryz.func97, Tryz.ntmps97
    go_wp2
    go_loop [5, 6] (fun vn vi => RGwRel l vn vi) (fun _ vi => (intOf vi + 1).toNat)
    case atStart => exact ⟨8, rfl, by simp [Num.unw], by omega⟩
    case round =>
      obtain ⟨i, rfl, hvn, hi8⟩ := hrel
      cases i with
      | zero =>
        have hx : (bs l).extract 8 l.length = bs (l.drop 8) := by rw [bs_extract, List.take_of_length_le (by simp)]
        have hv : Hid (Num.unw ((l.take 8).drop 0) = Num.unw (l.take 8)) := rfl
        subst hvn
        go_wp2
        go_quiet (fail)
        go_wp2
        go_ret3
        exact ⟨by rw [hn.out]; rfl, below_drewN (Below.refl _ _) _⟩
      | succ i =>
        obtain ⟨b, hb⟩ : ∃ b, l[i]? = some b := ⟨l[i]'(by omega), List.getElem?_eq_getElem (by omega)⟩
        have hix := fun k W => run_index_bs (P := Tryz.prog) 9 Tryz.underlying9 l i b hb k W
        have hbl : b.toNat < 256 := UInt8.toNat_lt b
        have hu : Num.unw ((l.take 8).drop i) = b.toNat + 256 * Num.unw ((l.take 8).drop (i + 1)) := by
          have hlen : i < (l.take 8).length := by simp; omega
          rw [List.drop_eq_getElem_cons hlen]
          have : (l.take 8)[i] = b := by
            rw [List.getElem_take]
            rw [List.getElem?_eq_getElem (by omega)] at hb
            simpa using hb
          rw [this]; rfl
        have hlt' : Num.unw ((l.take 8).drop (i + 1)) < 256 ^ (7 - i) := by
          have := Num.unw_lt ((l.take 8).drop (i + 1))
          rwa [List.length_drop, List.length_take_of_le (by omega), show 8 - (i + 1) = 7 - i from by omega] at this
        have hp : 256 ^ (7 - i) ≤ 256 ^ 7 := Nat.pow_le_pow_right (by omega) (by omega)
        have HR := Lib.hid (show RGwRel l (.int .u64 ((Num.unw ((l.take 8).drop i) : Nat) : Int)) (.int .i64 ((i : Int) - 1)) from ⟨i, rfl, rfl, by omega⟩)
        have hx : ((i + 1 : Nat) : Int) - 1 = (i : Int) := by omega
        rw [hx]
        have hb2 : ((Num.unw ((l.take 8).drop (i + 1)) : Nat) : Int) ≤ 72057594037927935 := by omega
        have hb1 : 0 ≤ ((Num.unw ((l.take 8).drop (i + 1)) : Nat) : Int) := by omega
        have hy : Hid (((Num.unw ((l.take 8).drop i) : Nat) : Int) = ((Num.unw ((l.take 8).drop (i + 1)) : Nat) : Int) * 256 + (b.toNat : Int)) := by show _ = _; omega
        generalize ((Num.unw ((l.take 8).drop i) : Nat) : Int) = y at HR hy
        generalize ((Num.unw ((l.take 8).drop (i + 1)) : Nat) : Int) = x at hvn hb2 hb1 hy
        subst hvn
        clear hb hu hlt' hp hz hx
        go_wp2
        go_round
        case rel => rw [← hy.out]; exact HR.out
        case measure => simp [intOf]

attribute [local go_sem] bs_toList bs_size

def GrRel (l : List UInt8) (vn vu vi : Value) : Prop :=
  ∃ (i acc : Nat), vi = .int .i64 (i : Int) ∧ vn = .int .u64 (acc : Int) ∧ vu = .int .u64 ((128 ^ i % 18446744073709551616 : Nat) : Int) ∧ i ≤ l.length ∧ i ≤ 10 ∧ acc < 128 ^ i ∧ acc < 18446744073709551616 ∧ Num.getSmall l = Num.gsF (10 - i) i acc (l.drop i)

theorem gr_sum (i acc b : Nat) (hi : i < 10) (ha : acc < 128 ^ i) (hd : b % 128 * 128 ^ i < 18446744073709551616) (hs : acc + b % 128 * 128 ^ i < 18446744073709551616) :
    IntKind.u64.wrap ((acc : Int) + IntKind.u64.wrap ((b : Int) % 128 * ((128 ^ i % 18446744073709551616 : Nat) : Int))) = ((acc + b % 128 * 128 ^ i : Nat) : Int) := by
  have w (x : Int) : IntKind.u64.wrap x = x % 18446744073709551616 := by simp [IntKind.wrap, IntKind.bits, IntKind.signed]
  have h1 : 128 ^ i ≤ 128 ^ 9 := Nat.pow_le_pow_right (by omega) (by omega)
  rw [Nat.mod_eq_of_lt (show 128 ^ i < 18446744073709551616 by omega)]
  have e : (b : Int) % 128 * ((128 ^ i : Nat) : Int) = ((b % 128 * 128 ^ i : Nat) : Int) := by rw [Int.natCast_mul]; rfl
  rw [e, w, w]
  generalize b % 128 * 128 ^ i = y at *
  omega
theorem gr_unit (i : Nat) : IntKind.u64.wrap (((128 ^ i % 18446744073709551616 : Nat) : Int) * 128) = ((128 ^ (i + 1) % 18446744073709551616 : Nat) : Int) := by
  have w (x : Int) : IntKind.u64.wrap x = x % 18446744073709551616 := by simp [IntKind.wrap, IntKind.bits, IntKind.signed]
  rw [w, Nat.pow_succ]
  generalize 128 ^ i = y
  omega

set_option maxRecDepth 100000 in
set_option maxHeartbeats 1000000 in
theorem ref_GetSmall_any (l : List UInt8) (w : World) (hl : l.length ≤ 1099511627776) :
    Calls Tryz.prog 66 #[.string (bs l)] w fun e w' => e = .returned (refN l (Num.getSmall l)) ∧ Below w.heap.size w w' := by
  have hz := bs_size l
  go_enter Tryz.func66, Tryz.ntmps66
  go_wp2
  go_loop [5, 6, 7] (fun vn vu vi => GrRel l vn vu vi) (fun _ _ vi => 10 - (intOf vi).toNat)
  case atStart => exact ⟨0, 0, rfl, rfl, rfl, by omega, by omega, by omega, by omega, rfl⟩
  case round =>
    obtain ⟨i, acc, rfl, rfl, hvu, hi, hi10, hacc, hacc2, hg⟩ := hrel
    by_cases hlt : i < l.length
    · by_cases hlt10 : i < 10
      · obtain ⟨b, hb⟩ : ∃ b, l[i]? = some b := ⟨l[i]'(by omega), List.getElem?_eq_getElem (by omega)⟩
        have hix := fun k W => run_index_bs (P := Tryz.prog) 9 Tryz.underlying9 l i b hb k W
        have hbl : b.toNat < 256 := UInt8.toNat_lt b
        have hltI : (i : Int) < (l.length : Int) := by omega
        have hlt10I : (i : Int) < 10 := by omega
        have hdrop : l.drop i = b :: l.drop (i + 1) := by
          rw [List.drop_eq_getElem_cons hlt]
          rw [List.getElem?_eq_getElem hlt] at hb
          simp at hb; rw [hb]
        by_cases hbad : i = 9 ∧ 1 < b.toNat % 128
        · have HG : Hid (Num.getSmall l = none) := by
            show _ = _
            rw [hg, hdrop, show 10 - i = (9 - i) + 1 from by omega, Num.gsF, if_pos (.inl ⟨hbad.1, by omega⟩)]
          have c1 : ((i : Int) == 9) = true := by simp only [beq_iff_eq]; omega
          have c2 : (1 : Int) < (b.toNat : Int) % 128 := by omega
          clear hg hdrop hb hbad hacc hacc2 hz
          generalize ((128 ^ i % 18446744073709551616 : Nat) : Int) = U at hvu
          subst hvu
          go_wp2
          go_ret3
          exact ⟨by rw [HG.out]; rfl, Below.refl _ _⟩
        · have h9 : i = 9 → b.toNat % 128 ≤ 1 := by omega
          have hcase : (((i : Int) == 9) = false) ∨ (((i : Int) == 9) = true ∧ ¬ (1 : Int) < (b.toNat : Int) % 128) := by
            simp only [beq_eq_false_iff_ne, beq_iff_eq, ne_eq]; omega
          have hd9 : b.toNat % 128 * 128 ^ i < 18446744073709551616 := or7_bd i b.toNat hlt10 h9
          have hs9 : acc + b.toNat % 128 * 128 ^ i < 18446744073709551616 := by
            rcases Nat.lt_or_ge i 9 with h | h
            · have h1 : 128 ^ (i + 1) ≤ 128 ^ 9 := Nat.pow_le_pow_right (by omega) (by omega)
              have h2 : b.toNat % 128 ≤ 127 := by omega
              have h3 := Nat.mul_le_mul_right (128 ^ i) h2
              rw [Num.p128] at h1
              omega
            · obtain rfl : i = 9 := by omega
              have := Nat.mul_le_mul_right (128 ^ 9) (h9 rfl)
              omega
          have hsum := gr_sum i acc b.toNat hlt10 hacc hd9 hs9
          have hunit := gr_unit i
          generalize ((128 ^ i % 18446744073709551616 : Nat) : Int) = U at hvu hsum hunit
          subst hvu
          by_cases h128 : b.toNat < 128
          · have hmod : b.toNat % 128 = b.toNat := Nat.mod_eq_of_lt h128
            have hends := Num.ref_ends l i acc b hlt10 hb hacc h128 (fun h => by have := h9 h; omega) hg
            rw [hmod] at hsum hs9
            have hx : (bs l).extract 0 (i + 1) = bs (l.take (i + 1)) := by rw [bs_extract]; simp
            have hx2 : (bs l).extract (i + 1) l.length = bs (l.drop (i + 1)) := by rw [bs_extract, List.take_of_length_le (by simp)]
            have h128I : (b.toNat : Int) < 128 := by omega
            clear hg hdrop hb hbad hd9 h9 hmod hacc hacc2
            generalize acc + b.toNat * 128 ^ i = v at hsum hends hs9
            have q1 := Lib.hid (fun W => ref_Small_any (v : Int) W (by omega) (by omega))
            rw [Int.toNat_natCast] at q1
            generalize Num.small v = S at hends q1
            clear hs9
            rcases hends with ⟨-, -, hn, hne⟩ | ⟨hn, he⟩
            · have HN := Lib.hid hn
              clear hn
              generalize l.take (i + 1) = S2 at hne hx
              have hneb : (S == S2) = false := by simpa using hne
              rcases hcase with c1 | ⟨c1, c2⟩
              all_goals
                go_wp2
                refine wp_region_grown (by kernel_rfl) (by kernel_rfl) ?_
                repeat (go_big_quiet_step ((go_at_call 30; exact Calls.grown_of (q1.out _))))
                refine wpQuiet_nil ?_
                rintro _ ⟨x, rfl⟩
                go_wp2
                go_ret3
                exact ⟨by rw [HN.out]; rfl, x.below⟩
            · have HN := Lib.hid hn
              clear hn
              rw [← he] at hx
              clear he
              rcases hcase with c1 | ⟨c1, c2⟩
              all_goals
                go_wp2
                refine wp_region_grown (by kernel_rfl) (by kernel_rfl) ?_
                repeat (go_big_quiet_step ((go_at_call 30; exact Calls.grown_of (q1.out _))))
                refine wpQuiet_nil ?_
                rintro _ ⟨x, rfl⟩
                go_wp2
                go_quiet (fail)
                go_wp2
                go_ret3
                exact ⟨by rw [HN.out]; rfl, below_drewN x.below _⟩
          · have hfin : Hid (Num.getSmall l = Num.gsF (10 - (i + 1)) (i + 1) (acc + b.toNat % 128 * 128 ^ i) (l.drop (i + 1))) := by
              show _ = _
              rw [hg, hdrop, show 10 - i = (9 - i) + 1 from by omega, Num.gsF]
              by_cases h9' : i = 9
              · subst h9'
                rw [if_pos (.inl ⟨rfl, by omega⟩)]
                rfl
              · rw [if_neg (by omega), if_neg h128, show b.toNat % 128 = b.toNat - 128 from by omega, show 10 - (i + 1) = 9 - i from by omega]
            have hacc' : acc + b.toNat % 128 * 128 ^ i < 128 ^ (i + 1) := by
              have : b.toNat % 128 ≤ 127 := by omega
              have := Nat.mul_le_mul_right (128 ^ i) this
              rw [Num.p128]; omega
            have HR := Lib.hid (show GrRel l (.int .u64 ((acc + b.toNat % 128 * 128 ^ i : Nat) : Int)) (.int .u64 ((128 ^ (i + 1) % 18446744073709551616 : Nat) : Int)) (.int .i64 ((i : Int) + 1)) from
              ⟨i + 1, _, rfl, rfl, rfl, by omega, by omega, hacc', hs9, hfin.out⟩)
            have h128I : ¬ (b.toNat : Int) < 128 := by omega
            clear hg hdrop hb hbad hd9 h9 hfin hacc' hacc hacc2 hs9
            generalize ((acc + b.toNat % 128 * 128 ^ i : Nat) : Int) = y at hsum HR
            generalize ((128 ^ (i + 1) % 18446744073709551616 : Nat) : Int) = u at hunit HR
            rcases hcase with c1 | ⟨c1, c2⟩
            all_goals
              go_wp2
              go_round
              case rel => exact HR.out
              case measure => simp [intOf]; omega
      · have hi' : i = 10 := by omega
        subst hi'
        have HG : Hid (Num.getSmall l = none) := by show _ = _; rw [hg]; rfl
        have hltI : (10 : Int) < (l.length : Int) := by omega
        clear hg hacc hacc2 hz
        generalize ((128 ^ 10 % 18446744073709551616 : Nat) : Int) = U at hvu
        subst hvu
        go_wp2
        go_ret3
        exact ⟨by rw [HG.out]; rfl, Below.refl _ _⟩
    · have HG : Hid (Num.getSmall l = none) := by
        show _ = _
        rw [hg, List.drop_of_length_le (by omega)]
        rcases Nat.lt_or_ge i 10 with h | h
        · rw [show 10 - i = (9 - i) + 1 from by omega]; rfl
        · rw [show 10 - i = 0 from by omega]; rfl
      have hge : ¬ (i : Int) < (l.length : Int) := by omega
      clear hg hacc hacc2 hz
      generalize ((128 ^ i % 18446744073709551616 : Nat) : Int) = U at hvu
      subst hvu
      go_wp2
      go_ret3
      exact ⟨by rw [HG.out]; rfl, Below.refl _ _⟩
end Go.Proofs.YtgehgjalkponfaaGreatDoor
namespace Go.Proofs.YtgehgjalkponfaaGreatDoor
open Go.RowKit
attribute [local go_sem] bs_toList bs_size

theorem halfStep_xor (a b : Nat) : halfStep (a ^^^ b) = halfStep a ^^^ halfStep b := by
  have hd : (a ^^^ b) / 2 = (a / 2) ^^^ (b / 2) := by
    have := Nat.xor_div_two_pow (a := a) (b := b) (n := 1)
    simpa using this
  have hm : (a ^^^ b) % 2 = (a % 2) ^^^ (b % 2) := by
    have := Nat.xor_mod_two_pow (a := a) (b := b) (n := 1)
    simpa using this
  unfold halfStep
  rw [hd, hm]
  rcases Nat.mod_two_eq_zero_or_one a with h1 | h1 <;> rcases Nat.mod_two_eq_zero_or_one b with h2 | h2 <;> rw [h1, h2]
  · simp
  · simp [Nat.xor_assoc]
  · simp only [Nat.xor_zero, if_true, Nat.zero_ne_one, if_false]
    rw [Nat.xor_assoc, Nat.xor_comm (b / 2), ← Nat.xor_assoc]
  · simp only [Nat.xor_self, Nat.zero_ne_one, if_false, if_true]
    generalize a / 2 = x
    generalize b / 2 = y
    generalize 2197175160 = p
    rw [show (x ^^^ p) ^^^ (y ^^^ p) = (x ^^^ y) ^^^ (p ^^^ p) by ac_rfl, Nat.xor_self, Nat.xor_zero]
theorem halfN_xor (a b : Nat) : ∀ k, halfN k (a ^^^ b) = halfN k a ^^^ halfN k b
  | 0 => rfl
  | k + 1 => by rw [halfN, halfN_xor a b k, halfStep_xor]; rfl
theorem halfN_add (a c : Nat) : ∀ b, halfN (a + b) c = halfN b (halfN a c)
  | 0 => rfl
  | b + 1 => by rw [← Nat.add_assoc, halfN, halfN_add a c b]; rfl
theorem halfN_mul (m : Nat) : ∀ k, halfN k (2 ^ k * m) = m
  | 0 => by simp [halfN]
  | k + 1 => by
    rw [halfN, show 2 ^ (k + 1) * m = 2 ^ k * (2 * m) by rw [Nat.pow_succ, Nat.mul_assoc], halfN_mul (2 * m) k]
    unfold halfStep
    rw [if_neg (by omega)]
    omega
theorem split16 (c : Nat) : (c % 16) ^^^ (2 ^ 4 * (c / 16)) = c := by
  apply Nat.eq_of_testBit_eq
  intro i
  rw [Nat.testBit_xor, show c % 16 = c % 2 ^ 4 from rfl, Nat.testBit_mod_two_pow, Nat.testBit_two_pow_mul, show c / 16 = c / 2 ^ 4 from rfl, Nat.testBit_div_two_pow]
  by_cases h : i < 4
  · have h2 : ¬ 4 ≤ i := by omega
    simp [h, h2]
  · have h2 : 4 ≤ i := by omega
    simp [h, h2, Nat.sub_add_cancel]
theorem nibble_half (c : Nat) : nibble c = halfN 4 c := by
  have h := congrArg (halfN 4) (split16 c)
  rw [halfN_xor, halfN_mul] at h
  exact h
theorem crcByte_half (c : Nat) (b : UInt8) : crcByte c b = halfN 8 (c ^^^ b.toNat) := by
  unfold crcByte
  rw [nibble_half, nibble_half, ← halfN_add]

set_option maxRecDepth 100000 in
set_option maxHeartbeats 1000000 in
theorem ref01_run_any (c : Nat) (l : List UInt8) (hc : c < 4294967296) (hl : l.length ≤ 1099511627776) (w : World) :
    Calls Tryz.prog 111 #[.int .u32 (c : Int), .string (bs l)] w fun e w' => e = .returned (.int .u32 (crcFold c l : Int)) ∧ w = w' := by
  have H2 := Lib.hid (fun (c : Nat) (h : c < 4294967296) => show bits BinOp.xor IntKind.u32 ((c : Int) / 2) 2197175160 = (((c / 2) ^^^ 2197175160 : Nat) : Int) from u32_xor_nat (c / 2) 2197175160 (by omega) (by omega))
  go_enter Tryz.func111, Tryz.ntmps111
  go_wp2_with fail
  go_loop [0, 5] (fun vc vi => ∃ i : Nat, i ≤ l.length ∧ vi = .int .i64 (i : Int) ∧ vc = .int .u32 (crcFold c (l.take i) : Int)) (fun _ vi => l.length - (intOf vi).toNat)
  case atStart => exact ⟨0, Nat.zero_le _, rfl, rfl⟩
  obtain ⟨i, hi, rfl, rfl⟩ := hrel
  have hlt := crcFold_lt hc (l.take i)
  rcases (show i < l.length ∨ i = l.length by omega) with hil | rfl
  · have hb := List.getElem?_eq_getElem hil
    have HN := Lib.hid (crcFold_next (c := c) hb)
    generalize l[i] = b at *
    have hidx := fun W => run_index_bs (P := Tryz.prog) 9 Tryz.underlying9 l i b hb .i64 W
    generalize crcFold c (l.take i) = d at *
    have hbl := b.toNat_lt
    have e0 : bits BinOp.xor IntKind.u32 (d : Int) (b.toNat : Int) = ((d ^^^ b.toNat : Nat) : Int) := u32_xor_nat d b.toNat hlt (by omega)
    have hx : d ^^^ b.toNat < 4294967296 := Nat.xor_lt_two_pow (n := 32) hlt (by omega)
    have HD := Lib.hid (crcByte_half d b)
    generalize d ^^^ b.toNat = x at *
    go_wp2_with fail
    go_loop [0, 6] (fun vc vk => ∃ j : Nat, j ≤ 8 ∧ vk = .int .i64 (j : Int) ∧ vc = .int .u32 (halfN j x : Int)) (fun _ vk => 20 - (intOf vk).toNat)
    case atStart => exact ⟨0, by omega, rfl, rfl⟩
    obtain ⟨j, hj, rfl, rfl⟩ := hrel
    have hlt2 := halfN_lt hx j
    have HS := Lib.hid (show halfN (j + 1) x = halfStep (halfN j x) from rfl)
    rcases (show j < 8 ∨ j = 8 by omega) with hj8 | rfl
    · generalize halfN j x = y at *
      have e2 := H2.out y hlt2
      by_cases hy : y % 2 = 1
      · have hs : halfStep y = (y / 2) ^^^ 2197175160 := by
          unfold halfStep
          rw [if_pos hy]
        have f : ((y : Int) % 2 == 1) = true := by
          simp only [beq_iff_eq]
          omega
        rw [hs] at HS
        clear hy hs
        go_wp2_with fail
        go_round
        case rel => exact ⟨j + 1, by omega, by go_num, by rw [HS.out]⟩
        case measure => simp [intOf]; omega
      · have hs : halfStep y = y / 2 := by
          unfold halfStep
          rw [if_neg hy]
        have f : ((y : Int) % 2 == 1) = false := by
          simp only [beq_eq_false_iff_ne, ne_eq]
          omega
        rw [hs] at HS
        clear hy hs
        go_wp2_with fail
        go_round
        case rel => exact ⟨j + 1, by omega, by go_num, by rw [HS.out]; simp⟩
        case measure => simp [intOf]; omega
    · generalize halfN 8 x = y at *
      go_wp2_with fail
      go_round
      case rel => exact ⟨i + 1, by omega, by go_num, by rw [HN.out, HD.out]⟩
      case measure => simp [intOf]; omega
  · have HT := Lib.hid (show crcFold c (l.take l.length) = crcFold c l by rw [List.take_length])
    generalize crcFold c (l.take l.length) = d at *
    go_wp2
    go_ret
    exact ⟨by rw [← HT.out]; rfl, rfl⟩

set_option maxRecDepth 100000 in
theorem ref01_Of_any (l : List UInt8) (hl : l.length ≤ 1099511627776) (w : World) :
    Calls Tryz.prog 80 #[.string (bs l)] w fun e w' => e = .returned (.int .u32 (crcOn 0 l : Int)) ∧ w = w' := by
  have q := Lib.hid (show Calls Tryz.prog 111 #[.int .u32 4294967295, .string (bs l)] w _ from ref01_run_any 4294967295 l (by omega) hl w)
  have hlt := crcFold_lt (c := 4294967295) (by omega) l
  have HC := Lib.hid (show crcOn 0 l = 4294967295 - crcFold 4294967295 l from rfl)
  generalize crcFold 4294967295 l = y at *
  go_enter Tryz.func80, Tryz.ntmps80
  go_wp2_with fail
  refine q.out.mono ?_
  rintro e w1 ⟨rfl, rfl⟩
  go_wp2
  go_ret
  exact ⟨by rw [HC.out]; exact ret_int (by omega), rfl⟩

def RTailRel (n : Nat) (w : World) (vc vb vi : Value) (wr : World) : Prop :=
  ∃ (k : Nat), vi = .int .i64 (k : Nat) ∧ vc = .int .u32 ((n / 256 ^ k : Nat) : Int) ∧ k ≤ 4 ∧ OwnB wr w.heap.size 5 vb (Num.wideF k n) ∧ Below w.heap.size w wr

set_option maxRecDepth 100000 in
set_option maxHeartbeats 400000 in
theorem ref01_Tail_any (l : List UInt8) (hl : l.length ≤ 1099511627776) (w : World) :
    Calls Tryz.prog 54 #[.string (bs l)] w fun e w' => e = .returned (.string (bs (tailB l))) ∧ Below w.heap.size w w' := by
  have q := Lib.hid (ref01_Of_any l hl w)
  have HT := Lib.hid (show tailB l = Num.wideF 4 (crcOn 0 l) from rfl)
  have hn := crcOn_lt 0 l
  generalize crcOn 0 l = n at *
  go_enter Tryz.func54, Tryz.ntmps54
  go_wp2_with fail
  refine q.out.mono ?_
  rintro e _ ⟨rfl, rfl⟩
  go_wp2_with fail
  go_loopw [3, 4, 5] (fun vc vb vi wr => RTailRel n w vc vb vi wr) (fun _ _ vi _ => 10 - (intOf vi).toNat)
  case atStart => exact ⟨0, rfl, by simp, by omega, OwnB.nil _ _ _, Below.refl _ _⟩
  obtain ⟨k, rfl, hvc, hk8, ho, hb⟩ := hrel
  have hsz := hb.size
  have hm1 : n / 256 ^ k < 4294967296 := by have := Nat.div_le_self n (256 ^ k); omega
  have hdiv : Hid (((n / 256 ^ (k + 1) : Nat) : Int) = ((n / 256 ^ k : Nat) : Int) / 256) := by
    show _ = _; rw [Nat.pow_succ, ← Nat.div_div_eq_div_mul]; rfl
  have hx : Hid (((UInt8.ofNat (n / 256 ^ k % 256)).toNat : Int) = ((n / 256 ^ k : Nat) : Int) % 256) := by
    show _ = _; rw [Num.ofNat_toNat _ (by omega)]; omega
  have hw := Lib.hid (wideF_snoc k n)
  have hl := Num.wideF_len k n
  have hm2 : ((n / 256 ^ k : Nat) : Int) < 4294967296 := by omega
  have hm0 : 0 ≤ ((n / 256 ^ k : Nat) : Int) := Int.natCast_nonneg _
  generalize ((n / 256 ^ k : Nat) : Int) = m at hvc hdiv hx hm2 hm0
  generalize UInt8.ofNat (n / 256 ^ k % 256) = x at hx hw
  subst hvc
  clear hm1
  by_cases hlt : k < 4
  · have hE : (Num.wideF k n).length + 1 ≤ 140737488355328 := by omega
    have hl' := Lib.hid hl
    clear hl
    go_wp2_with (at_builtin; refine wpList_append_byte rfl (.tmp 12) (.tmp 16) 76 rfl w.heap.size 5 Tryz.underlying76 u8_info _ _ rfl ho 1 _ x rfl hx.out.symm hE hsz ?_; intro g cap w' ho' hb')
    go_roundw
    case rel => exact ⟨k + 1, rfl, by rw [hdiv.out], by omega, by rw [hw.out]; exact ho', hb.trans hb'⟩
    case measure => simp [intOf]; omega
  · obtain rfl : k = 4 := by omega
    have hf := OwnB.form ho (by rw [hl]; omega)
    obtain ⟨g, cap, rfl, _⟩ := hf
    have hc := run_conv_own (P := Tryz.prog) 76 9 5 Tryz.underlying76 Tryz.underlying5 Tryz.underlying9 wr w.heap.size g _ cap _ ho rfl
    clear hl
    go_wp2
    go_ret
    exact ⟨by rw [HT.out]; rfl, hb⟩
end Go.Proofs.YtgehgjalkponfaaGreatDoor
namespace Go.Proofs.YtgehgjalkponfaaGreatDoor
open Go.RowKit
attribute [local go_sem] bs_toList bs_size

theorem frame_ref (s : List UInt8) (n k : Nat) (h : Num.getSmall s = some (n, k)) (h2 : n + 4 ≤ (s.drop k).length) :
    framePut ((s.drop k).take n) = s.take (k + n + 4) ↔ (goodB (s.take (k + n + 4))).isSome = true := by
  obtain ⟨_, hk, hs⟩ := Num.getSmall_only s n k h
  rw [List.length_drop] at h2
  have hks : k ≤ s.length := by
    have := congrArg List.length hs
    rw [List.length_append, ← hk] at this
    omega
  have hbl : ((s.drop k).take n).length = n := by simp; omega
  have hsk : Num.small n = s.take k := by
    have h3 : s.take k ++ s.drop k = Num.small n ++ s.drop k := by rw [List.take_append_drop]; exact hs
    exact (List.append_cancel_right h3).symm
  have ht : Num.text ((s.drop k).take n) = s.take (k + n) := by
    unfold Num.text
    rw [hbl, hsk, List.take_add]
  have hml : (s.take (k + n + 4)).length = k + n + 4 := by simp; omega
  have hm : (s.take (k + n + 4)).take (k + n) = s.take (k + n) := by
    rw [List.take_take]
    congr 1
    omega
  unfold framePut checkedB goodB
  rw [ht, if_neg (by omega), hml, show k + n + 4 - 4 = k + n by omega, hm]
  constructor
  · intro e
    have : tailB (s.take (k + n)) = (s.take (k + n + 4)).drop (k + n) := by
      rw [← e, List.drop_left' (by simp; omega)]
    rw [if_pos this]
    rfl
  · intro e
    split at e
    · rename_i e2
      rw [e2]
      conv => lhs; lhs; rw [← hm]
      rw [List.take_append_drop]
    · cases e
theorem open_ref (s magic : List UInt8) (h : magic.length + 6 ≤ s.length) :
    openB s magic = if s.take magic.length ≠ magic ∨ (s.drop (magic.length + 2)).take 4 ≠ tailB (s.take (magic.length + 2)) then (0, 0, [], 9)
      else if 3 < (s.getD magic.length 0).toNat ∨ 3 < (s.getD (magic.length + 1) 0).toNat then (0, 0, [], 10)
      else if (s.getD magic.length 0).toNat = 0 then (0, 0, [], 9)
      else ((s.getD magic.length 0).toNat, (s.getD (magic.length + 1) 0).toNat, s.drop (magic.length + 6), 0) := by
  have hl : (s.take (magic.length + 6)).length = magic.length + 6 := by simp; omega
  have h1 : (s.take (magic.length + 6)).take (magic.length + 2) = s.take (magic.length + 2) := by
    rw [List.take_take]
    congr 1
    omega
  have h2 : (s.take (magic.length + 6)).drop (magic.length + 2) = (s.drop (magic.length + 2)).take 4 := by
    rw [List.drop_take]
    congr 1
    omega
  have h3 : (s.take (magic.length + 2)).take magic.length = s.take magic.length := by
    rw [List.take_take]
    congr 1
    omega
  have h4 : (s.take (magic.length + 2)).getD magic.length 0 = s.getD magic.length 0 := by
    simp only [List.getD_eq_getElem?_getD]
    rw [List.getElem?_take_of_lt (by omega)]
  have h5 : (s.take (magic.length + 2)).getD (magic.length + 1) 0 = s.getD (magic.length + 1) 0 := by
    simp only [List.getD_eq_getElem?_getD]
    rw [List.getElem?_take_of_lt (by omega)]
  unfold openB goodB
  rw [if_neg (by omega), if_neg (by omega), hl, show magic.length + 6 - 4 = magic.length + 2 by omega, h1, h2]
  by_cases e : tailB (s.take (magic.length + 2)) = (s.drop (magic.length + 2)).take 4
  · rw [if_pos e]
    simp only
    rw [h3, h4, h5]
    by_cases e2 : s.take magic.length = magic
    · rw [if_neg (show ¬ (s.take magic.length ≠ magic) from fun h => h e2), if_neg (show ¬ (s.take magic.length ≠ magic ∨ (s.drop (magic.length + 2)).take 4 ≠ tailB (s.take (magic.length + 2))) from fun h => h.elim (fun h => h e2) (fun h => h e.symm))]
    · rw [if_pos (show s.take magic.length ≠ magic from e2), if_pos (show s.take magic.length ≠ magic ∨ (s.drop (magic.length + 2)).take 4 ≠ tailB (s.take (magic.length + 2)) from .inl e2)]
  · rw [if_neg e]
    simp only
    rw [if_pos (.inr (fun h => e h.symm))]

set_option maxRecDepth 100000 in
theorem ref09_Put_any (b : List UInt8) (hl : b.length ≤ 1048576) (w : World) :
    Calls Tryz.prog 33 #[.string (bs b)] w fun e w' => e = .returned (.string (bs (framePut b))) ∧ Below w.heap.size w w' := by
  have q := Lib.hid (ref_Text_any b w (by omega))
  have ht : (Num.text b).length ≤ 2097152 := by rw [Num.text_len]; have := Num.small_len b.length; omega
  have q2 := Lib.hid (fun W => ref01_Tail_any (Num.text b) (by omega) W)
  have htl := tailB_len (Num.text b)
  have HP := Lib.hid (show framePut b = Num.text b ++ tailB (Num.text b) from rfl)
  have hadd : ∀ W, (Op.stringOp .add (bs (Num.text b)) (bs (tailB (Num.text b)))).run Tryz.prog W = .ok (.string (bs (Num.text b ++ tailB (Num.text b)))) W := fun W => run_add_bs (P := Tryz.prog) (Num.text b) (tailB (Num.text b)) (by omega) W
  rw [← HP.out] at hadd
  generalize framePut b = c at *
  generalize tailB (Num.text b) = u at *
  generalize Num.text b = t at *
  go_enter Tryz.func33, Tryz.ntmps33
  go_wp2_with fail
  refine q.out.mono ?_
  rintro e w1 ⟨rfl, hb⟩
  go_wp2_with fail
  refine (q2.out _).mono ?_
  rintro e w2 ⟨rfl, hb2⟩
  go_wp2
  go_ret
  exact ⟨rfl, hb.trans (hb2.mono hb.size)⟩

set_option maxRecDepth 100000 in
theorem ref09_open_any (s : List UInt8) (hl : s.length ≤ 1099511627776) (w : World) :
    Calls Tryz.prog 67 #[.string (bs s)] w fun e w' => e = .returned (.bool (unendedB s)) ∧ w = w' := by
  go_enter Tryz.func67, Tryz.ntmps67
  go_wp2_with fail
  go_loop [3] (fun vi => ∃ i : Nat, i ≤ s.length ∧ vi = .int .i64 (i : Int) ∧ (s.take i).all (fun b => decide (128 ≤ b.toNat)) = true) (fun vi => s.length - (intOf vi).toNat)
  case atStart => exact ⟨0, Nat.zero_le _, rfl, rfl⟩
  obtain ⟨i, hi, rfl, hall⟩ := hrel
  rcases (show i < s.length ∨ i = s.length by omega) with hil | rfl
  · have hb := List.getElem?_eq_getElem hil
    have HN := Lib.hid (show (s.take (i + 1)).all (fun b => decide (128 ≤ b.toNat)) = ((s.take i).all (fun b => decide (128 ≤ b.toNat)) && decide (128 ≤ s[i].toNat)) by rw [List.take_succ_eq_append_getElem hil, List.all_append]; simp)
    rw [hall] at HN
    have HW := Lib.hid (show s[i].toNat < 128 → unendedB s = false from fun h => by
      unfold unendedB
      have : s.all (fun b => decide (128 ≤ b.toNat)) = false := by
        rw [List.all_eq_false]
        exact ⟨s[i], List.getElem_mem hil, by simpa using h⟩
      rw [this]
      rfl)
    generalize s[i] = b at *
    have hidx := fun W => run_index_bs (P := Tryz.prog) 9 Tryz.underlying9 s i b hb .i64 W
    have hbl := b.toNat_lt
    generalize b.toNat = n at *
    clear hall
    by_cases h : n < 128
    · have hd : (n : Int) < 128 := by omega
      have hun := Lib.hid (HW.out h)
      clear HN HW
      go_wp2
      go_ret
      exact ⟨by rw [hun.out]; rfl, rfl⟩
    · have hd : ¬ (n : Int) < 128 := by omega
      have hd2 : decide (128 ≤ n) = true := by simp; omega
      rw [hd2] at HN
      clear HW hd2
      go_wp2_with fail
      go_round
      case rel => exact ⟨i + 1, by omega, by go_num, by rw [HN.out]; rfl⟩
      case measure => simp [intOf]; omega
  · have HU := Lib.hid (show unendedB s = decide (s.length < 10) by unfold unendedB; rw [List.take_length] at hall; rw [hall]; rfl)
    clear hall
    go_wp2
    go_ret
    refine ⟨?_, rfl⟩
    rw [HU.out]
    simp
    try omega

set_option maxRecDepth 100000 in
set_option maxHeartbeats 2000000 in
theorem ref09_Get_any (s : List UInt8) (most : Nat) (hl : s.length ≤ 1048576) (hm : most ≤ 1048576) (w : World) :
    Calls Tryz.prog 42 #[.string (bs s), .int .i64 (most : Int)] w fun e w' => e = .returned (frameV (frameGet s most)) ∧ Below w.heap.size w w' := by
  have q := Lib.hid (ref_GetSmall_any s w (by omega))
  have hmw : IntKind.u64.wrap (most : Int) = (most : Int) := by simp [IntKind.wrap, IntKind.bits, IntKind.signed]; omega
  cases hgs : Num.getSmall s with
  | none =>
    have HF := Lib.hid (show frameV (frameGet s most) = .tuple #[.string ⟨#[]⟩, .string (bs s), .int .i64 (if unendedB s then 1 else 2)] by unfold frameGet; rw [hgs]; rfl)
    rw [hgs] at q
    rw [show refN s none = .tuple #[.int .u64 0, .string (bs s), .bool false] from rfl] at q
    clear hgs
    have qu := Lib.hid (fun W => ref09_open_any s (by omega) W)
    go_enter Tryz.func42, Tryz.ntmps42
    go_wp2_with fail
    refine q.out.mono ?_
    rintro e w1 ⟨rfl, b1⟩
    go_wp2_with fail
    refine (qu.out _).mono ?_
    rintro e w2 ⟨rfl, rfl⟩
    cases hu : unendedB s with
    | true =>
      rw [hu] at HF
      go_wp2
      go_ret3
      exact ⟨by rw [HF.out]; rfl, b1⟩
    | false =>
      rw [hu] at HF
      go_wp2
      go_ret3
      exact ⟨by rw [HF.out]; rfl, b1⟩
  | some x =>
    obtain ⟨n, k⟩ := x
    have hbd := getSmall_bd s n k hgs
    have hfr := frame_ref s n k hgs
    have hrl : (s.drop k).length = s.length - k := by simp
    have HF := Lib.hid (show frameGet s most = if most < n then ([], s, 2) else if (s.drop k).length < n + 4 then ([], s, 1)
      else if (goodB (s.take (k + n + 4))).isSome then ((s.drop k).take n, s.drop (k + n + 4), 0) else ([], s, 2) by unfold frameGet; rw [hgs])
    rw [hgs] at q
    rw [show refN s (some (n, k)) = .tuple #[.int .u64 (n : Int), .string (bs (s.drop k)), .bool true] from rfl] at q
    clear hgs
    by_cases h1 : most < n
    · have HR := Lib.hid (show frameV (frameGet s most) = .tuple #[.string ⟨#[]⟩, .string (bs s), .int .i64 2] by rw [HF.out, if_pos h1]; rfl)
      have f1 : decide ((most : Int) < (n : Int)) = true := by simpa using h1
      have f1' : decide (most < n) = true := by simpa using h1
      clear HF hfr hrl
      generalize s.drop k = r at *
      go_enter Tryz.func42, Tryz.ntmps42
      go_wp2_with fail
      refine q.out.mono ?_
      rintro e w1 ⟨rfl, b1⟩
      go_wp2
      go_ret3
      exact ⟨by rw [HR.out]; rfl, b1⟩
    · have f1 : decide ((most : Int) < (n : Int)) = false := by simpa using h1
      have f1' : decide (most < n) = false := by simpa using h1
      by_cases h2 : (s.drop k).length < n + 4
      · have HR := Lib.hid (show frameV (frameGet s most) = .tuple #[.string ⟨#[]⟩, .string (bs s), .int .i64 1] by rw [HF.out, if_neg h1, if_pos h2]; rfl)
        have f2 : decide (((s.drop k).length : Int) < (n : Int) + 4) = true := by simp only [decide_eq_true_eq]; omega
        have hlw : IntKind.u64.wrap ((s.drop k).length : Int) = ((s.drop k).length : Int) := by simp only [IntKind.wrap, IntKind.bits, IntKind.signed]; simp; omega
        clear HF hfr
        generalize s.drop k = r at *
        go_enter Tryz.func42, Tryz.ntmps42
        go_wp2_with fail
        refine q.out.mono ?_
        rintro e w1 ⟨rfl, b1⟩
        go_wp2
        go_ret3
        exact ⟨by rw [HR.out]; rfl, b1⟩
      · have hfr2 := Lib.hid (hfr (by omega))
        have f2 : decide (((s.drop k).length : Int) < (n : Int) + 4) = false := by simp only [decide_eq_false_iff_not]; omega
        have hlw : IntKind.u64.wrap ((s.drop k).length : Int) = ((s.drop k).length : Int) := by simp only [IntKind.wrap, IntKind.bits, IntKind.signed]; simp; omega
        have hnw : IntKind.i64.wrap (n : Int) = (n : Int) := by simp only [IntKind.wrap, IntKind.bits, IntKind.signed]; simp; omega
        have he1 : (bs (s.drop k)).extract 0 n = bs ((s.drop k).take n) := by rw [bs_extract, List.drop_zero, Nat.sub_zero]
        have he2 : (bs s).extract 0 ((s.length : Int) - ((s.drop k).length : Int) + (n : Int) + 4).toNat = bs (s.take (k + n + 4)) := by
          rw [bs_extract, List.drop_zero, Nat.sub_zero]
          congr 2
          omega
        have he3 : (bs (s.drop k)).extract ((n : Int) + 4).toNat (s.drop k).length = bs (s.drop (k + n + 4)) := by
          rw [show ((n : Int) + 4).toNat = n + 4 by omega, bs_extract, List.take_of_length_le (by simp; omega), List.drop_drop, Nat.add_assoc]
        have he4 : (bs s).extract 0 (s.length - (s.length - k) + n + 4) = bs (s.take (k + n + 4)) := by
          rw [bs_extract, List.drop_zero, Nat.sub_zero]
          congr 2
          omega
        have he5 : (bs (s.drop k)).extract (n + 4) (s.length - k) = bs (s.drop (k + n + 4)) := by
          rw [← hrl, bs_extract, List.take_of_length_le (by simp; omega), List.drop_drop, Nat.add_assoc]
        have he6 : (bs (s.drop k)).extract ((n : Int) + 4).toNat (s.length - k) = bs (s.drop (k + n + 4)) := by
          rw [← hrl]
          exact he3
        have qp := Lib.hid (fun W => ref09_Put_any ((s.drop k).take n) (by simp; omega) W)
        have HV0 := Lib.hid (show ¬ (goodB (s.take (k + n + 4))).isSome = true → frameV (frameGet s most) = .tuple #[.string ⟨#[]⟩, .string (bs s), .int .i64 2] from fun e => by rw [HF.out, if_neg h1, if_neg h2, if_neg e]; rfl)
        have HV1 := Lib.hid (show (goodB (s.take (k + n + 4))).isSome = true → frameV (frameGet s most) = .tuple #[.string (bs ((s.drop k).take n)), .string (bs (s.drop (k + n + 4))), .int .i64 0] from fun e => by rw [HF.out, if_neg h1, if_neg h2, if_pos e]; rfl)
        clear HF
        rw [← hfr2.out] at HV0 HV1
        clear hfr hfr2
        have hk : k ≤ s.length := hbd.2.1
        generalize (s.drop k).take n = rt at *
        generalize hsk : s.drop (k + n + 4) = sd at *
        clear hsk
        generalize s.drop k = r at *
        generalize s.take (k + n + 4) = st at *
        generalize framePut rt = F at *
        go_enter Tryz.func42, Tryz.ntmps42
        go_wp2_with fail
        refine q.out.mono ?_
        rintro e w1 ⟨rfl, b1⟩
        by_cases hF : F = st
        · have HR := Lib.hid (HV1.out hF)
          have f3 : (F == st) = true := by simpa using hF
          clear HV0 HV1 hF
          go_wp2_with fail
          refine wp_region_grown (by kernel_rfl) (by kernel_rfl) ?_
          repeat (go_big_quiet_step ((go_at_call 33; exact Calls.grown_of (qp.out _))))
          refine wpQuiet_nil ?_
          rintro _ ⟨x, rfl⟩
          go_wp2_with fail
          go_quiet (fail)
          go_wp2
          go_ret3
          exact ⟨by rw [HR.out]; rfl, b1.trans ((below_drewN x.below _).mono b1.size)⟩
        · have HR := Lib.hid (HV0.out hF)
          have f3 : (F == st) = false := by simpa using hF
          clear HV0 HV1 hF
          go_wp2_with fail
          refine wp_region_grown (by kernel_rfl) (by kernel_rfl) ?_
          repeat (go_big_quiet_step ((go_at_call 33; exact Calls.grown_of (qp.out _))))
          refine wpQuiet_nil ?_
          rintro _ ⟨x, rfl⟩
          go_wp2_with fail
          go_ret3
          exact ⟨by rw [HR.out]; rfl, b1.trans (x.below.mono b1.size)⟩

set_option maxRecDepth 100000 in
set_option maxHeartbeats 1000000 in
theorem ref09_Head_any (magic : List UInt8) (gen flags : Nat) (hg : gen < 256) (hf : flags < 256) (hl : magic.length ≤ 1048576) (w : World) :
    Calls Tryz.prog 32 #[.string (bs magic), .int .i64 (gen : Int), .int .i64 (flags : Int)] w fun e w' => e = .returned (.string (bs (headB magic gen flags))) ∧ Below w.heap.size w w' := by
  have q := Lib.hid (fun W => ref01_Tail_any (magic ++ [UInt8.ofNat gen, UInt8.ofNat flags]) (by simp; omega) W)
  have HH := Lib.hid (show headB magic gen flags = (magic ++ [UInt8.ofNat gen, UInt8.ofNat flags]) ++ tailB (magic ++ [UInt8.ofNat gen, UInt8.ofNat flags]) from rfl)
  have hadd : ∀ W, (Op.stringOp .add (bs magic) (bs [UInt8.ofNat gen, UInt8.ofNat flags])).run Tryz.prog W = .ok (.string (bs (magic ++ [UInt8.ofNat gen, UInt8.ofNat flags]))) W := fun W => run_add_bs (P := Tryz.prog) magic [UInt8.ofNat gen, UInt8.ofNat flags] (by simp; omega) W
  have htl := tailB_len (magic ++ [UInt8.ofNat gen, UInt8.ofNat flags])
  have hadd2 : ∀ W, (Op.stringOp .add (bs (magic ++ [UInt8.ofNat gen, UInt8.ofNat flags])) (bs (tailB (magic ++ [UInt8.ofNat gen, UInt8.ofNat flags])))).run Tryz.prog W = .ok (.string (bs (headB magic gen flags))) W := fun W => by
    rw [HH.out]
    exact run_add_bs (P := Tryz.prog) _ _ (by simp [tailB_len]; omega) W
  have hgm : (gen : Int) % 256 = gen := by omega
  have hfm : (flags : Int) % 256 = flags := by omega
  have hgn : (UInt8.ofNat gen).toNat = gen := Num.ofNat_toNat gen hg
  have hfn : (UInt8.ofNat flags).toNat = flags := Num.ofNat_toNat flags hf
  have hgw : IntKind.u64.wrap (gen : Int) = (gen : Int) := by simp only [IntKind.wrap, IntKind.bits, IntKind.signed]; simp; omega
  have hfw : IntKind.u64.wrap (flags : Int) = (flags : Int) := by simp only [IntKind.wrap, IntKind.bits, IntKind.signed]; simp; omega
  have hcv := two_conv w gen flags hgn hfn
  clear HH
  generalize headB magic gen flags = R at *
  generalize [UInt8.ofNat gen, UInt8.ofNat flags] = gf at *
  generalize tailB (magic ++ gf) = tl at *
  generalize magic ++ gf = mgf at *
  go_enter Tryz.func32, Tryz.ntmps32
  go_wp2_with fail
  refine (q.out _).mono ?_
  rintro e w2 ⟨rfl, hb2⟩
  go_wp2
  go_ret
  exact ⟨rfl, (one_alloc w _).trans (hb2.mono (by simp))⟩

set_option maxRecDepth 100000 in
set_option maxHeartbeats 2000000 in
theorem ref09_Open_any (s magic : List UInt8) (_hl : s.length ≤ 1048576) (hm : magic.length ≤ 1000) (w : World) :
    Calls Tryz.prog 41 #[.string (bs s), .string (bs magic)] w fun e w' => e = .returned (openV (openB s magic)) ∧ Below w.heap.size w w' := by
  by_cases h1 : s.length < magic.length + 6
  · have HO := Lib.hid (show openV (openB s magic) = .tuple #[.int .i64 0, .int .i64 0, .string ⟨#[]⟩, .int .i64 9] by unfold openB; rw [if_pos h1]; rfl)
    go_enter Tryz.func41, Tryz.ntmps41
    go_wp2
    ((try simp only [Exit.inBlock, Exit.then]); refine bodyPost_ret (results_tmp4 rfl _ _ _) rfl ?_)
    exact ⟨by rw [HO.out]; rfl, Below.refl _ _⟩
  have HO := Lib.hid (open_ref s magic (by omega))
  generalize openB s magic = OB at *
  have hd : decide ((s.length : Int) < (magic.length : Int) + 2 + 4) = false := by simp; omega
  have he1 : (bs s).extract 0 magic.length = bs (s.take magic.length) := by rw [bs_extract, List.drop_zero, Nat.sub_zero]
  have he2 : (bs s).extract ((magic.length : Int) + 2).toNat ((magic.length : Int) + 2 + 4).toNat = bs ((s.drop (magic.length + 2)).take 4) := by
    rw [bs_extract, show ((magic.length : Int) + 2).toNat = magic.length + 2 by omega, show ((magic.length : Int) + 2 + 4).toNat - (magic.length + 2) = 4 by omega]
  have he3 : (bs s).extract 0 ((magic.length : Int) + 2).toNat = bs (s.take (magic.length + 2)) := by
    rw [bs_extract, List.drop_zero, Nat.sub_zero, show ((magic.length : Int) + 2).toNat = magic.length + 2 by omega]
  have he4 : (bs s).extract ((magic.length : Int) + 2 + 4).toNat s.length = bs (s.drop (magic.length + 6)) := by
    rw [bs_extract, show ((magic.length : Int) + 2 + 4).toNat = magic.length + 6 by omega, List.take_of_length_le (by simp)]
  have h0' : (0 : Int) ≤ (magic.length : Int) + 2 + 4 := by omega
  have h1' : (magic.length : Int) + 2 + 4 ≤ (s.length : Int) := by omega
  have h2' : (magic.length : Int) + 2 ≤ (s.length : Int) := by omega
  have h3' : (magic.length : Int) ≤ (s.length : Int) := by omega
  have h4' : (0 : Int) ≤ (magic.length : Int) + 2 := by omega
  have h5' : (magic.length : Int) + 2 ≤ (magic.length : Int) + 2 + 4 := by omega
  have q := Lib.hid (fun W => ref01_Tail_any (s.take (magic.length + 2)) (by simp; omega) W)
  by_cases e1 : s.take magic.length = magic
  case neg =>
    have f1 : (s.take magic.length == magic) = false := by simpa using e1
    have HV := Lib.hid (show openV OB = .tuple #[.int .i64 0, .int .i64 0, .string ⟨#[]⟩, .int .i64 9] by rw [HO.out, if_pos (.inl e1)]; rfl)
    clear HO e1
    generalize s.take magic.length = sm at *
    go_enter Tryz.func41, Tryz.ntmps41
    go_wp2_with fail
    refine wp_region_grown (by kernel_rfl) (by kernel_rfl) ?_
    repeat (go_big_quiet_step ((go_at_call 54; exact Calls.grown_of (q.out _))))
    refine wpQuiet_nil ?_
    rintro _ ⟨x, rfl⟩
    go_wp2
    ((try simp only [Exit.inBlock, Exit.then]); refine bodyPost_ret (results_tmp4 rfl _ _ _) rfl ?_)
    exact ⟨by rw [HV.out]; rfl, x.below⟩
  case pos =>
    have f1 : (s.take magic.length == magic) = true := by simpa using e1
    by_cases e2 : (s.drop (magic.length + 2)).take 4 = tailB (s.take (magic.length + 2))
    case neg =>
      have f2 : ((s.drop (magic.length + 2)).take 4 == tailB (s.take (magic.length + 2))) = false := by simpa using e2
      have HV := Lib.hid (show openV OB = .tuple #[.int .i64 0, .int .i64 0, .string ⟨#[]⟩, .int .i64 9] by rw [HO.out, if_pos (.inr e2)]; rfl)
      clear HO e1 e2
      generalize s.take magic.length = sm at *
      generalize tailB (s.take (magic.length + 2)) = tl at *
      generalize (s.drop (magic.length + 2)).take 4 = s4 at *
      generalize s.take (magic.length + 2) = s2 at *
      go_enter Tryz.func41, Tryz.ntmps41
      go_wp2_with fail
      refine wp_region_grown (by kernel_rfl) (by kernel_rfl) ?_
      repeat (go_big_quiet_step ((go_at_call 54; exact Calls.grown_of (q.out _))))
      refine wpQuiet_nil ?_
      rintro _ ⟨x, rfl⟩
      go_wp2
      ((try simp only [Exit.inBlock, Exit.then]); refine bodyPost_ret (results_tmp4 rfl _ _ _) rfl ?_)
      exact ⟨by rw [HV.out]; rfl, x.below⟩
    case pos =>
      have f2 : ((s.drop (magic.length + 2)).take 4 == tailB (s.take (magic.length + 2))) = true := by simpa using e2
      have HV := Lib.hid (show OB = (if 3 < (s.getD magic.length 0).toNat ∨ 3 < (s.getD (magic.length + 1) 0).toNat then (0, 0, [], 10)
        else if (s.getD magic.length 0).toNat = 0 then (0, 0, [], 9)
        else ((s.getD magic.length 0).toNat, (s.getD (magic.length + 1) 0).toNat, s.drop (magic.length + 6), 0)) by
          rw [HO.out, if_neg (fun h => h.elim (fun h => h e1) (fun h => h e2))])
      have hi1 : s[magic.length]? = some (s.getD magic.length 0) := by rw [List.getD_eq_getElem?_getD, List.getElem?_eq_getElem (by omega)]; rfl
      have hi2 : s[magic.length + 1]? = some (s.getD (magic.length + 1) 0) := by rw [List.getD_eq_getElem?_getD, List.getElem?_eq_getElem (by omega)]; rfl
      have hx1 := fun W => run_index_bs (P := Tryz.prog) 9 Tryz.underlying9 s magic.length _ hi1 .i64 W
      have hx2 := fun W => run_index_bs (P := Tryz.prog) 9 Tryz.underlying9 s (magic.length + 1) _ hi2 .i64 W
      have hb1 := (s.getD magic.length 0).toNat_lt
      have hb2 := (s.getD (magic.length + 1) 0).toNat_lt
      have h6' : (magic.length : Int) + 1 < (s.length : Int) := by omega
      have h7' : (magic.length : Int) < (s.length : Int) := by omega
      clear HO e1 e2 hi1 hi2
      generalize (s.getD magic.length 0).toNat = ge at *
      generalize (s.getD (magic.length + 1) 0).toNat = fg at *
      generalize s.take magic.length = sm at *
      generalize tailB (s.take (magic.length + 2)) = tl at *
      generalize (s.drop (magic.length + 2)).take 4 = s4 at *
      generalize s.take (magic.length + 2) = s2 at *
      generalize hsd : s.drop (magic.length + 6) = sd at *
      clear hsd
      have hwm : IntKind.i64.wrap (magic.length : Int) = (magic.length : Int) := by simp [IntKind.wrap, IntKind.bits, IntKind.signed]; omega
      have hwm1 : IntKind.i64.wrap ((magic.length : Int) + 1) = ((magic.length + 1 : Nat) : Int) := by simp [IntKind.wrap, IntKind.bits, IntKind.signed]; omega
      have hwm2 : IntKind.i64.wrap ((magic.length : Int) + 2 - 1) = ((magic.length + 1 : Nat) : Int) := by simp [IntKind.wrap, IntKind.bits, IntKind.signed]; omega
      have hwm3 : IntKind.i64.wrap ((magic.length : Int) + 2 - 2) = ((magic.length : Nat) : Int) := by simp [IntKind.wrap, IntKind.bits, IntKind.signed]; omega
      have hwg : IntKind.i64.wrap (ge : Int) = (ge : Int) := by simp [IntKind.wrap, IntKind.bits, IntKind.signed]; omega
      have hwf : IntKind.i64.wrap (fg : Int) = (fg : Int) := by simp [IntKind.wrap, IntKind.bits, IntKind.signed]; omega
      have hx3 := hx2
      push_cast at hx3
      go_enter Tryz.func41, Tryz.ntmps41
      go_wp2_with fail
      refine wp_region_grown (by kernel_rfl) (by kernel_rfl) ?_
      repeat (go_big_quiet_step ((go_at_call 54; exact Calls.grown_of (q.out _))))
      refine wpQuiet_nil ?_
      rintro _ ⟨x, rfl⟩
      have hb := x.below
      by_cases k1 : 3 < ge ∨ 3 < fg
      · have hR := Lib.hid (show openV OB = .tuple #[.int .i64 0, .int .i64 0, .string ⟨#[]⟩, .int .i64 10] by rw [HV.out, if_pos k1]; rfl)
        by_cases k2 : 3 < ge
        · have k2' : decide ((3 : Int) < (ge : Int)) = true := by simp; omega
          have k2'' : decide (3 < ge) = true := by simp; omega
          clear k1 k2 HV
          go_wp2
          ((try simp only [Exit.inBlock, Exit.then]); refine bodyPost_ret (results_tmp4 rfl _ _ _) rfl ?_)
          exact ⟨by rw [hR.out]; rfl, hb⟩
        · have k3 : 3 < fg := by omega
          have k2' : decide ((3 : Int) < (ge : Int)) = false := by simp; omega
          have k2'' : decide (3 < ge) = false := by simp; omega
          have k3' : decide ((3 : Int) < (fg : Int)) = true := by simp; omega
          have k3'' : decide (3 < fg) = true := by simp; omega
          clear k1 k2 k3 HV
          go_wp2
          ((try simp only [Exit.inBlock, Exit.then]); refine bodyPost_ret (results_tmp4 rfl _ _ _) rfl ?_)
          exact ⟨by rw [hR.out]; rfl, hb⟩
      · have k2' : decide ((3 : Int) < (ge : Int)) = false := by simp; omega
        have k2'' : decide (3 < ge) = false := by simp; omega
        have k3' : decide ((3 : Int) < (fg : Int)) = false := by simp; omega
        have k3'' : decide (3 < fg) = false := by simp; omega
        by_cases k4 : ge = 0
        · have hR := Lib.hid (show openV OB = .tuple #[.int .i64 0, .int .i64 0, .string ⟨#[]⟩, .int .i64 9] by rw [HV.out, if_neg k1, if_pos k4]; rfl)
          have k5 : ((ge : Int) == 0) = true := by simpa using k4
          clear k1 k4 HV
          go_wp2
          ((try simp only [Exit.inBlock, Exit.then]); refine bodyPost_ret (results_tmp4 rfl _ _ _) rfl ?_)
          exact ⟨by rw [hR.out]; rfl, hb⟩
        · have hR := Lib.hid (show openV OB = .tuple #[.int .i64 (ge : Int), .int .i64 (fg : Int), .string (bs sd), .int .i64 0] by rw [HV.out, if_neg k1, if_neg k4]; rfl)
          have k5 : ((ge : Int) == 0) = false := by simpa using k4
          clear k1 k4 HV
          go_wp2_with fail
          go_quiet (fail)
          go_wp2
          ((try simp only [Exit.inBlock, Exit.then]); refine bodyPost_ret (results_tmp4 rfl _ _ _) rfl ?_)
          exact ⟨by rw [hR.out]; rfl, below_drewN hb _⟩
end Go.Proofs.YtgehgjalkponfaaGreatDoor
namespace Go.Proofs.YtgehgjalkponfaaGreatDoor
open Go.RowKit
attribute [local go_sem] bs_toList bs_size

def getN (g : Int) (s : List UInt8) : Option (Nat × Nat) := if g = 1 then Num.getWide s else Num.getSmall s
def nxtB (g last : Int) (v : Nat) : Int := if g = 3 then wr64 (Num.zagI v + last) else wr64 v
def refBlk (g : Int) : Nat → Int → List UInt8 → Option (List Int × List UInt8)
  | 0, _, r => some ([], r)
  | q + 1, last, r => match getN g r with
    | none => none
    | some (v, k) => match refBlk g q (nxtB g last v) (r.drop k) with
      | none => none
      | some (l, t) => some (nxtB g last v :: l, t)
def refRead (s : List UInt8) (g : Int) : Mt × Bool :=
  match getN g s with
  | none => (zeroMt, false)
  | some (nx, i) => match getN g (s.drop i) with
    | none => (zeroMt, false)
    | some (wl, j) => match getN g ((s.drop i).drop j) with
      | none => (zeroMt, false)
      | some (n, k) => if 999999 < nx ∨ 999999 < wl ∨ 40 < n then (zeroMt, false)
        else match refBlk g n 0 (((s.drop i).drop j).drop k) with
          | none => (zeroMt, false)
          | some (l, t) => (⟨g, nx, if g = 3 then (nx : Int) - wl else wl, l⟩, t.isEmpty)
def refGet (s : List UInt8) : Option Mt × Int :=
  match openB s magicM with
  | (g, _, rest, e) => if e ≠ 0 then (none, e)
    else if (frameGet rest 1000).2.2 ≠ 0 ∨ (frameGet rest 1000).2.1 ≠ [] ∨ (refRead (frameGet rest 1000).1 g).2 = false then (none, 9)
    else if putM (refRead (frameGet rest 1000).1 g).1 = (s, 0) then (some (refRead (frameGet rest 1000).1 g).1, 0) else (none, 9)

theorem getN_put (g n : Int) (r : List UInt8) : getN g (numB g n ++ r) = some (u64N n, (numB g n).length) := by
  have h := u64N_lt n
  unfold getN numB
  by_cases hg : g = 1
  · simp only [if_pos hg]
    rw [Num.getWide_wide _ h, Num.wide_len]
  · simp only [if_neg hg]
    rw [Num.getSmall_small _ h]
theorem refBlk_put (g : Int) (hg : g ≠ 3) : ∀ (l : List Int) (last : Int) (r : List UInt8), (∀ x ∈ l, 0 ≤ x ∧ x ≤ 999999) → refBlk g l.length last (l.flatMap (numB g) ++ r) = some (l, r)
  | [], _, r, _ => rfl
  | x :: l, last, r, h => by
    obtain ⟨h1, h2⟩ := h x List.mem_cons_self
    obtain ⟨e1, e2⟩ := u64N_pos x h1 h2
    have hx : nxtB g last (u64N x) = x := by
      unfold nxtB
      rw [if_neg hg, e1, wr64_id x (by omega) (by omega)]
    rw [List.flatMap_cons, List.append_assoc, List.length_cons, refBlk, getN_put]
    simp only
    rw [hx, List.drop_left' rfl, refBlk_put g hg l x r fun y hy => h y (List.mem_cons_of_mem _ hy)]
theorem refBlk_put3 : ∀ (l : List Int) (last : Int) (r : List UInt8), (∀ x ∈ l, 0 ≤ x ∧ x ≤ 999999) → 0 ≤ last → last ≤ 999999 → refBlk 3 l.length last (dltB last l ++ r) = some (l, r)
  | [], _, r, _, _, _ => rfl
  | x :: l, last, r, h, h3, h4 => by
    obtain ⟨h1, h2⟩ := h x List.mem_cons_self
    have hz := Num.zig_bd (x - last) (by omega) (by omega)
    have hz2 : ((Num.zigI (x - last)).toNat : Int) = Num.zigI (x - last) := Int.toNat_of_nonneg hz.1
    have hx : nxtB 3 last (Num.zigI (x - last)).toNat = x := by
      unfold nxtB
      rw [if_pos rfl, hz2, Num.zag_zig, show x - last + last = x by omega, wr64_id x (by omega) (by omega)]
    rw [dltB, List.append_assoc, List.length_cons, refBlk, show getN 3 (Num.small (Num.zigI (x - last)).toNat ++ (dltB x l ++ r)) = some ((Num.zigI (x - last)).toNat, (Num.small (Num.zigI (x - last)).toNat).length) by
      unfold getN
      rw [if_neg (by omega), Num.getSmall_small _ (by omega)]]
    simp only
    rw [hx, List.drop_left' rfl, refBlk_put3 l x r (fun y hy => h y (List.mem_cons_of_mem _ hy)) h1 h2]
theorem refRead_put (m : Mt) (h : validM m = true) : refRead (bodyB m) m.gen = (m, true) := by
  obtain ⟨⟨h1, h2, h3, h4, h5⟩, h6, _⟩ := (validM_iff m).1 h
  have hw := h6 m.wal List.mem_cons_self
  have hb : ∀ x ∈ m.blocks, 0 ≤ x ∧ x ≤ 999999 := fun x hx => by have := h6 x (List.mem_cons_of_mem _ hx); omega
  obtain ⟨n1, n2⟩ := u64N_pos m.next h3 h4
  have hl : u64N (m.blocks.length : Int) = m.blocks.length := by have := (u64N_pos (m.blocks.length : Int) (by omega) (by omega)).1; omega
  unfold refRead bodyB
  by_cases hg : m.gen < 3
  · rw [if_pos hg]
    simp only [List.flatMap_cons]
    obtain ⟨w1, w2⟩ := u64N_pos m.wal hw.1 (by omega)
    rw [getN_put]
    simp only
    rw [List.drop_left' rfl, getN_put]
    simp only
    rw [List.drop_left' rfl, getN_put]
    simp only
    rw [List.drop_left' rfl, hl, if_neg (by omega)]
    have := refBlk_put m.gen (by omega) m.blocks 0 [] hb
    rw [List.append_nil] at this
    rw [this]
    simp only [Prod.mk.injEq]
    exact ⟨Mt.ext' rfl n1 (by simp only; rw [if_neg (by omega), w1]) rfl, rfl⟩
  · have hg3 : m.gen = 3 := by omega
    rw [if_neg hg]
    simp only [List.flatMap_cons, List.flatMap_nil, List.append_nil, List.append_assoc]
    obtain ⟨w1, w2⟩ := u64N_pos (m.next - m.wal) (by omega) (by omega)
    rw [getN_put]
    simp only
    rw [List.drop_left' rfl, getN_put]
    simp only
    rw [List.drop_left' rfl, getN_put]
    simp only
    rw [List.drop_left' rfl, hl, if_neg (by omega)]
    have := refBlk_put3 m.blocks 0 [] hb (by omega) (by omega)
    rw [List.append_nil, ← hg3] at this
    rw [this]
    simp only [Prod.mk.injEq]
    exact ⟨Mt.ext' rfl n1 (by simp only; rw [if_pos hg3, w1, n1]; omega) rfl, rfl⟩
theorem body_of {s rest : List UInt8} {g fl : Nat} {e : Int} {m : Mt} (hO : openB s magicM = (g, fl, rest, e)) (hp : putM m = (s, 0)) : validM m = true ∧ (g : Int) = m.gen ∧ frameGet rest 1000 = (bodyB m, [], 0) ∧ e = 0 := by
  cases hv : validM m with
  | false =>
    unfold putM at hp
    rw [hv] at hp
    simp at hp
  | true =>
    obtain ⟨⟨h1, h2, _, _, h5⟩, _⟩ := (validM_iff m).1 hv
    have hp2 : putM m = (headB magicM m.gen.toNat 0 ++ framePut (bodyB m), 0) := by
      unfold putM
      rw [if_pos hv]
    rw [hp2] at hp
    have hs := (Prod.mk.inj hp).1
    have hb := body_len m h5
    have hf := frameGet_put (bodyB m) [] 1000 (by omega) (by omega)
    rw [List.append_nil] at hf
    rw [← hs, openB_headM m.gen.toNat (by omega) (by omega)] at hO
    obtain ⟨rfl, e1⟩ := Prod.mk.inj hO
    obtain ⟨rfl, e2⟩ := Prod.mk.inj e1
    obtain ⟨rfl, rfl⟩ := Prod.mk.inj e2
    exact ⟨rfl, Int.toNat_of_nonneg (by omega), hf, rfl⟩
theorem refGet_is (s : List UInt8) : refGet s = getM s := by
  unfold refGet getM
  rcases hO : openB s magicM with ⟨g, fl, rest, e⟩
  simp only
  by_cases hE : ∃ m, putM m = (s, 0)
  · obtain ⟨m, hm⟩ := hE
    obtain ⟨hv, hg, hf, he⟩ := body_of hO hm
    rw [hf, hg, readM_put m hv, refRead_put m hv, he]
    simp [doneB, hm]
  · have hn : ∀ m, ¬ putM m = (s, 0) := fun m h => hE ⟨m, h⟩
    simp only [hn, if_false, ite_self]
end Go.Proofs.YtgehgjalkponfaaGreatDoor
namespace Go.Proofs.YtgehgjalkponfaaGreatDoor
open Go.RowKit
attribute [local go_sem] bs_toList bs_size

/-- As far as place i all is well. -/
def okTo (m : Mt) (i : Nat) : Prop := (∀ x ∈ m.blocks.take i, 0 ≤ x ∧ x < m.next ∧ x ≠ m.wal) ∧ (m.blocks.take i).Nodup
theorem okTo_zero (m : Mt) : okTo m 0 := ⟨(fun x hx => by simp at hx), by simp⟩
theorem okTo_mono (m : Mt) {i j : Nat} (h : i ≤ j) (hj : okTo m j) : okTo m i := by
  have hs : (m.blocks.take i).Sublist (m.blocks.take j) := by
    have : m.blocks.take i = (m.blocks.take j).take i := by rw [List.take_take]; congr 1; omega
    rw [this]
    exact List.take_sublist _ _
  exact ⟨fun x hx => hj.1 x (hs.subset hx), hj.2.sublist hs⟩
theorem okTo_step (m : Mt) {i : Nat} (h : i < m.blocks.length) : okTo m (i + 1) ↔ okTo m i ∧ 0 ≤ m.blocks[i] ∧ m.blocks[i] < m.next ∧ m.blocks[i] ≠ m.wal ∧ ∀ k y, k < i → m.blocks[k]? = some y → y ≠ m.blocks[i] := by
  unfold okTo
  rw [List.take_succ_eq_append_getElem h]
  constructor
  · rintro ⟨h1, h2⟩
    obtain ⟨h3, _, h4⟩ := List.nodup_append.1 h2
    have h5 := h1 m.blocks[i] (List.mem_append_right _ List.mem_cons_self)
    refine ⟨⟨fun x hx => h1 x (List.mem_append_left _ hx), h3⟩, h5.1, h5.2.1, h5.2.2, fun k y hk hy e => ?_⟩
    refine h4 y ?_ m.blocks[i] List.mem_cons_self e
    have : (m.blocks.take i)[k]? = some y := by rw [List.getElem?_take_of_lt hk]; exact hy
    exact List.mem_of_getElem? this
  · rintro ⟨⟨h1, h2⟩, h3, h4, h5, h6⟩
    refine ⟨fun x hx => ?_, List.nodup_append.2 ⟨h2, by simp, fun x hx y hy e => ?_⟩⟩
    · rcases List.mem_append.1 hx with hx | hx
      · exact h1 x hx
      · obtain rfl := List.mem_singleton.1 hx
        exact ⟨h3, h4, h5⟩
    · obtain rfl := List.mem_singleton.1 hy
      obtain ⟨k, hk⟩ := List.getElem?_of_mem hx
      have hki : k < i := by
        rcases Nat.lt_or_ge k i with h | h
        · exact h
        · rw [List.getElem?_eq_none (by simp; omega)] at hk; cases hk
      rw [List.getElem?_take_of_lt hki] at hk
      exact h6 k x hki hk e
theorem valid_okTo (m : Mt) (h1 : 1 ≤ m.gen ∧ m.gen ≤ 3 ∧ 0 ≤ m.next ∧ m.next ≤ 999999 ∧ m.blocks.length ≤ 40) (h2 : 0 ≤ m.wal ∧ m.wal < m.next) : validM m = true ↔ okTo m m.blocks.length := by
  rw [validM_iff]
  unfold okTo
  rw [List.take_length, List.nodup_cons]
  constructor
  · rintro ⟨_, h3, h4, h5⟩
    exact ⟨fun x hx => ⟨(h3 x (List.mem_cons_of_mem _ hx)).1, (h3 x (List.mem_cons_of_mem _ hx)).2, fun e => h4 (e ▸ hx)⟩, h5⟩
  · rintro ⟨h3, h4⟩
    refine ⟨h1, fun x hx => ?_, fun hx => (h3 _ hx).2.2 rfl, h4⟩
    rcases List.mem_cons.1 hx with rfl | hx
    · exact h2
    · exact ⟨(h3 x hx).1, (h3 x hx).2.1⟩
theorem valid_bad (m : Mt) (h1 : 1 ≤ m.gen ∧ m.gen ≤ 3 ∧ 0 ≤ m.next ∧ m.next ≤ 999999 ∧ m.blocks.length ≤ 40) (h2 : 0 ≤ m.wal ∧ m.wal < m.next) {i : Nat} (h : i < m.blocks.length)
    (hb : ¬ (0 ≤ m.blocks[i] ∧ m.blocks[i] < m.next ∧ m.blocks[i] ≠ m.wal ∧ ∀ k y, k < i → m.blocks[k]? = some y → y ≠ m.blocks[i])) : validM m = false := by
  cases hv : validM m with
  | false => rfl
  | true => exact absurd ((okTo_step m h).1 (okTo_mono m (show i + 1 ≤ m.blocks.length from h) ((valid_okTo m h1 h2).1 hv))).2 hb
theorem valid_no (m : Mt) (h : ¬ ((1 ≤ m.gen ∧ m.gen ≤ 3 ∧ 0 ≤ m.next ∧ m.next ≤ 999999 ∧ m.blocks.length ≤ 40) ∧ 0 ≤ m.wal ∧ m.wal < m.next)) : validM m = false := by
  cases hv : validM m with
  | false => rfl
  | true =>
    obtain ⟨h1, h2, _⟩ := (validM_iff m).1 hv
    exact absurd ⟨h1, h2 m.wal List.mem_cons_self⟩ h
/-- The blocks' numbers, from one on. -/
def restB (g last : Int) (l : List Int) : List UInt8 := if g = 3 then dltB last l else l.flatMap (numB g)
theorem restB_cons (g last x : Int) (l : List Int) : restB g last (x :: l) = (if g = 3 then Num.small (Num.zigI (x - last)).toNat else numB g x) ++ restB g x l := by
  unfold restB
  by_cases h : g = 3
  · simp only [if_pos h]
    rfl
  · simp only [if_neg h]
    rfl
theorem restB_nil (g last : Int) : restB g last [] = [] := by
  unfold restB
  split <;> rfl
theorem body_rest (m : Mt) (h : m.gen ≤ 3) : bodyB m = (numB m.gen m.next ++ numB m.gen (if m.gen = 3 then m.next - m.wal else m.wal)) ++ numB m.gen (m.blocks.length : Int) ++ restB m.gen 0 m.blocks := by
  unfold bodyB restB
  by_cases hg : m.gen = 3
  · rw [if_neg (by omega), if_pos hg, if_pos hg]
    simp
  · rw [if_pos (by omega), if_neg hg, if_neg hg]
    simp
theorem restB_len (g : Int) : ∀ (l : List Int) (last : Int), (restB g last l).length ≤ l.length * 10 := by
  intro l last
  unfold restB
  split
  · exact dlt_len l last
  · exact flat_len g l
end Go.Proofs.YtgehgjalkponfaaGreatDoor
