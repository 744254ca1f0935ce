/- The walks of num.Fixed and of the reference's. The walks of what a cursor takes: num.small, and the closures. The walks of take, and of the closures that it is handed. The walks of the closures that take is handed. The walk of the closure in Cursor.Fixed. The contracts of a cursor's methods. A cursor alone in its block: the contracts of its methods, part by part. -/
import Derived.Test.YtgagcncmlonciaaGreatDoorGA
import Derived.Test.YtgagcncmlonciaaGreatDoorShelf
import Derived.Deep.RegionWith
import Derived.Deep.QuietTactic
import Derived.BigQuiet
namespace Go.Proofs.YtgagcncmlonciaaGreatDoor
open Go.RowKit

theorem repeat0 (c : Nat) : Lib.repeatL [0] c = List.replicate c 0 := by
  induction c with
  | zero => rfl
  | succ c ih => simp [Lib.repeatL, ih, List.replicate_succ]

theorem rep0_any (c : Nat) (hc : c ≤ 255) (w : World) :
    Calls Tryz.prog 66 #[.string ⟨#[0]⟩, .int .i64 (c : Int)] w fun e w' => e = .returned (.string (bs (List.replicate c 0))) ∧ Below w.heap.size w w' :=
  (Tryz.strings_Repeat ⟨#[0]⟩ c w (by omega) (by show 1 * c ≤ _; omega)).mono fun e w' ⟨h1, h2⟩ => ⟨by rw [h1]; show _ = Ending.returned (Value.string (bs (List.replicate c 0))); rw [← repeat0]; rfl, h2⟩

set_option maxRecDepth 100000 in
set_option maxHeartbeats 400000 in
theorem num_Fixed_any (t : List UInt8) (k : Int) (w : World) (h1 : t.length ≤ 1099511627776) (hk1 : -9223372036854775808 ≤ k) (hk2 : k ≤ 9223372036854775807) :
    Calls Tryz.prog 232 #[.string (bs t), .int .i64 k] w fun e w' => e = .returned (.string (bs (Num.fixed t k))) ∧ Below w.heap.size w w' := by
  have hz := bs_size t
  obtain ⟨K, hK⟩ : ∃ K : Nat, Num.szI k = K := ⟨Num.szN k, by unfold Num.szN Num.szI; omega⟩
  have hK2 : K ≤ 255 := by have := Num.szN_le k; unfold Num.szN at this; omega
  go_enter Tryz.func232, Tryz.ntmps232
  go_wp2_with (go_at_call 282; refine (num_size_any _ _ hk1 hk2).mono ?_; rw [hK]; rintro e w' ⟨rfl, rfl⟩)
  have hext : (bs t).extract 0 (min (t.length : Int) (K : Int)).toNat = bs (t.take K) := by
    rw [bs_extract]
    congr 1
    rcases Nat.le_total t.length K with h | h
    · rw [show (min (t.length : Int) (K : Int)).toNat - 0 = t.length from by omega, List.take_of_length_le h]; simp
    · rw [show (min (t.length : Int) (K : Int)).toNat - 0 = K from by omega]; simp
  rw [hext]
  obtain ⟨q, hq⟩ : ∃ q, t.take K = q := ⟨_, rfl⟩
  rw [hq]
  have hql : q.length ≤ K := by rw [← hq]; simp; omega
  have Hq := Lib.hid hq
  have HK := Lib.hid hK
  have hs := bs_size q
  have hwr : IntKind.i64.wrap ((K : Int) - (q.length : Int)) = ((K - q.length : Nat) : Int) := by rw [IntKind.wrap_i64]; omega
  clear hq hK hext hz h1
  have hrep := fun W => rep0_any (K - q.length) (by omega) W
  have hrl : (List.replicate (K - q.length) (0 : UInt8)).length = K - q.length := by simp
  generalize hr : List.replicate (K - q.length) (0 : UInt8) = r at hrl hrep
  have Hr := Lib.hid hr
  have ha1 := fun W => run_add_bs (P := Tryz.prog) q r (by omega) W
  have ha2 := fun W => run_add_bs (P := Tryz.prog) (q ++ r) [UInt8.ofNat q.length] (by simp; omega) W
  have hcv := fun g W hc => run_conv_one (P := Tryz.prog) 93 9 5 Tryz.underlying93 Tryz.underlying5 Tryz.underlying9 g 1 (IntKind.u8.wrap (q.length : Int)) (UInt8.ofNat q.length)
    (by rw [Num.ofNat_toNat _ (by omega), IntKind.wrap_u8']; omega) W hc
  clear hr hrl
  go_region_with (go_at_call 66; refine (hrep _).mono ?_; rintro e w' ⟨rfl, hb⟩; first | (have hcell := hb.cell (p := ⟨w.heap.size, 0, none⟩) (lt_alloc w _)) | skip)
  all_goals go_wp2
  all_goals go_ret
  all_goals refine ⟨?_, ?_⟩
  all_goals first
    | (show Ending.returned (Value.string (bs (q ++ (r ++ [UInt8.ofNat q.length])))) = _
       rw [← Hr.out, ← Hq.out]
       unfold Num.fixed
       rw [show Num.szN k = K from by have := HK.out; unfold Num.szN; omega]
       simp [List.append_assoc])
    | exact (((Below.refl _ w).drew.trans hb).alloc hb.size _)
    | exact ((((Below.refl _ w).alloc (Nat.le_refl _) _).drew).trans (hb.mono (Nat.le_succ _)))
    | exact ((((Below.refl _ w).alloc (Nat.le_refl _) _).drew).trans (hb.mono (by simp)))
end Go.Proofs.YtgagcncmlonciaaGreatDoor
namespace Go.Proofs.YtgagcncmlonciaaGreatDoor
open Go.RowKit

def gval : Option (Nat × Nat) → Int | none => 0 | some (n, _) => n
def gcnt {α : Type} : Option (α × Nat) → Int | none => -1 | some (_, k) => k

/-- s[i] of a text that is a list. -/
theorem run_index_bs {P : Program} (t : TypeId) (h : P.underlying t = some .string) (l : List UInt8) (i : Nat) (b : UInt8) (hb : l[i]? = some b) (k : IntKind) (W : World) :
    (Instr.index t (.string (bs l)) (.int k (i : Int))).run P W = .ok (.int .u8 (b.toNat : Int)) W := by
  obtain ⟨hi, hb⟩ := List.getElem?_eq_some_iff.1 hb
  rw [run_index_string W t (bs l) k i h, dif_pos ⟨by omega, by rw [bs_size]; omega⟩]
  congr 3
  rw [bs_getElem]
  simp only [Int.toNat_natCast]
  rw [hb]

def GsRel (l : List UInt8) (vn vi : Value) : Prop :=
  ∃ (i acc : Nat), vi = .int .i64 (i : Int) ∧ vn = .int .u64 (acc : Int) ∧ i ≤ l.length ∧ i ≤ 10 ∧ acc < 128 ^ i ∧ acc < 18446744073709551616 ∧ Num.getSmall l = Num.gsF (10 - i) i acc (l.drop i)

theorem or7_bd (i b : Nat) (hi : i < 10) (h : i = 9 → b % 128 ≤ 1) : b % 128 * 128 ^ i < 18446744073709551616 := by
  rcases Nat.lt_or_ge i 9 with h9 | h9
  · have h1 : 128 ^ (i + 1) ≤ 128 ^ 9 := Nat.pow_le_pow_right (by omega) (by omega)
    have h2 : b % 128 ≤ 127 := by omega
    have h3 := Nat.mul_le_mul_right (128 ^ i) h2
    rw [Num.p128] at h1
    omega
  · obtain rfl : i = 9 := by omega
    have := h rfl
    have h3 := Nat.mul_le_mul_right (128 ^ 9) this
    omega
theorem or7 (i acc b : Nat) (hb : b < 256) (ha : acc < 128 ^ i) (hd : b % 128 * 128 ^ i < 18446744073709551616) (ha2 : acc < 18446744073709551616) :
    bits BinOp.or IntKind.u64 (acc : Int) (IntKind.u64.wrap (IntKind.u64.wrap (bits BinOp.andNot IntKind.u8 (b : Int) 128) * 2 ^ (7 * i))) = ((acc + b % 128 * 128 ^ i : Nat) : Int) := by
  have w (x : Int) : IntKind.u64.wrap x = x % 18446744073709551616 := by simp [IntKind.wrap, IntKind.bits, IntKind.signed]
  have e1 : bits BinOp.andNot IntKind.u8 (b : Int) 128 = ((b % 128 : Nat) : Int) := by
    rw [u8_andNot _ _ (by omega) (by omega) (by omega) (by omega)]
    simp only [Int.toNat_natCast]
    rw [show 255 - (128 : Int).toNat = 127 from rfl, nat_mask7]
  have e2 : (2 : Int) ^ (7 * i) = ((128 ^ i : Nat) : Int) := by
    rw [show (128 : Nat) ^ i = 2 ^ (7 * i) from by rw [Nat.pow_mul]]; simp
  have e3 : IntKind.u64.wrap (((b % 128 : Nat) : Int)) = ((b % 128 : Nat) : Int) := by rw [w]; omega
  have e4 : IntKind.u64.wrap (((b % 128 : Nat) : Int) * ((128 ^ i : Nat) : Int)) = ((b % 128 * 128 ^ i : Nat) : Int) := by
    rw [w, ← Int.natCast_mul]; omega
  rw [e1, e3, e2, e4, u64_or_nat _ _ ha2 hd, Nat.or_comm, nat_join (7 * i) (b % 128 * 128 ^ i) acc]
  · rw [Nat.add_comm]
  · rw [Nat.pow_mul, show (2 : Nat) ^ 7 = 128 from rfl]; exact Nat.mul_mod_left _ _
  · rw [Nat.pow_mul]; exact ha

set_option maxRecDepth 100000 in
set_option maxHeartbeats 400000 in
theorem num_small_any (l : List UInt8) (w : World) (hl : l.length ≤ 1099511627776) :
    Calls Tryz.prog 171 #[.string (bs l)] w fun e w' => e = .returned (.tuple #[.int .u64 (gval (Num.getSmall l)), .int .i64 (gcnt (Num.getSmall l))]) ∧ w = w' := by
  have hz := bs_size l
  go_enter Tryz.func171, Tryz.ntmps171
  go_wp2
  go_loop [4, 10] (fun vn vi => GsRel l vn vi) (fun _ vi => 10 - (intOf vi).toNat)
  case atStart => exact ⟨0, 0, rfl, rfl, by omega, by omega, by omega, by omega, rfl⟩
  case round =>
    obtain ⟨i, acc, rfl, rfl, hi, hi10, hacc, hacc2, hg⟩ := hrel
    have hm0 : (min (l.length : Int) 10) = ((min l.length 10 : Nat) : Int) := by omega
    by_cases hlt : i < min l.length 10
    · obtain ⟨b, hb⟩ : ∃ b, l[i]? = some b := ⟨l[i]'(by omega), List.getElem?_eq_getElem (by omega)⟩
      have hix := fun k W => run_index_bs (P := Tryz.prog) 9 Tryz.underlying9 l i b hb k W
      have hdrop : l.drop i = b :: l.drop (i + 1) := by
        rw [List.drop_eq_getElem_cons (by omega)]
        rw [List.getElem?_eq_getElem (by omega)] at hb
        simp at hb; rw [hb]
      have hbl : b.toNat < 256 := UInt8.toNat_lt b
      have e10 : 10 - i = (9 - i) + 1 := by omega
      rw [hdrop, e10, Num.gsF] at hg
      have hltI : (i : Int) < min (l.length : Int) 10 := by omega
      clear hb hdrop hm0 hz
      by_cases hbad : (i = 9 ∧ 1 < b.toNat) ∨ (0 < i ∧ b.toNat = 0)
      · rw [if_pos hbad] at hg
        have HG := Lib.hid hg
        have hcase : (((i : Int) == 9) = true ∧ (1 : Int) < (b.toNat : Int)) ∨ (((i : Int) == 9) = true ∧ ¬ (1 : Int) < (b.toNat : Int) ∧ (0 : Int) < (i : Int) ∧ ((b.toNat : Int) == 0) = true) ∨ (((i : Int) == 9) = false ∧ (0 : Int) < (i : Int) ∧ ((b.toNat : Int) == 0) = true) := by
          simp only [beq_eq_false_iff_ne, beq_iff_eq, ne_eq]; omega
        clear hg hbad e10
        rcases hcase with ⟨c1, c2⟩ | ⟨c1, c2, c3, c4⟩ | ⟨c1, c2, c3⟩
        all_goals go_wp2
        all_goals go_ret2
        all_goals exact ⟨by rw [HG.out]; rfl, rfl⟩
      · rw [if_neg hbad] at hg
        have HG := Lib.hid hg
        clear hg e10
        have hcase : (((i : Int) == 9) = false ∧ ¬ (0 : Int) < (i : Int)) ∨ (((i : Int) == 9) = false ∧ (0 : Int) < (i : Int) ∧ ((b.toNat : Int) == 0) = false) ∨ (((i : Int) == 9) = true ∧ ¬ (1 : Int) < (b.toNat : Int) ∧ (0 : Int) < (i : Int) ∧ ((b.toNat : Int) == 0) = false) := by
          simp only [beq_eq_false_iff_ne, beq_iff_eq, ne_eq]; omega
        have hd9 : b.toNat % 128 * 128 ^ i < 18446744073709551616 := or7_bd i b.toNat (by omega) (by omega)
        have hor := Lib.hid (or7 i acc b.toNat hbl hacc hd9 hacc2)
        have h9 : i = 9 → b.toNat ≤ 1 := by omega
        clear hbad
        by_cases h128 : b.toNat < 128
        · have hfin : Hid (Num.getSmall l = some (acc + b.toNat % 128 * 128 ^ i, i + 1)) := by
            show _ = _; rw [HG.out, if_pos h128, Nat.mod_eq_of_lt h128]
          clear hd9 HG h9
          rcases hcase with ⟨c1, c2⟩ | ⟨c1, c2, c3⟩ | ⟨c1, c2, c3, c4⟩
          all_goals go_wp2
          all_goals go_ret2
          all_goals exact ⟨by rw [hfin.out, gval, gcnt, ← hor.out]; rfl, rfl⟩
        · have hi8 : i + 1 ≤ 9 := by omega
          have hfin : Hid (Num.getSmall l = Num.gsF (10 - (i + 1)) (i + 1) (acc + b.toNat % 128 * 128 ^ i) (l.drop (i + 1))) := by
            show _ = _; rw [HG.out, if_neg h128, show b.toNat % 128 = b.toNat - 128 from by omega, show 10 - (i + 1) = 9 - i from by omega]
          have hacc' : acc + b.toNat % 128 * 128 ^ i < 128 ^ (i + 1) := by
            have : b.toNat % 128 ≤ 127 := by omega
            have := Nat.mul_le_mul_right (128 ^ i) this
            rw [Num.p128]; omega
          have hacc2' : acc + b.toNat % 128 * 128 ^ i < 18446744073709551616 := by
            have : 128 ^ (i + 1) ≤ 128 ^ 9 := Nat.pow_le_pow_right (by omega) hi8
            omega
          have HR := Lib.hid (show GsRel l (.int .u64 ((acc + b.toNat % 128 * 128 ^ i : Nat) : Int)) (.int .i64 ((i : Int) + 1)) from
            ⟨i + 1, _, rfl, rfl, by omega, by omega, hacc', hacc2', hfin.out⟩)
          clear hd9 HG hfin hacc' hacc2' h9
          rcases hcase with ⟨c1, c2⟩ | ⟨c1, c2, c3⟩ | ⟨c1, c2, c3, c4⟩
          all_goals go_wp2
          all_goals go_round
          all_goals first | (rw [hor.out]; exact HR.out) | (simp [intOf]; omega)
    · have hnone : Hid (Num.getSmall l = none) := by
        show _ = _
        rw [hg]
        rcases Nat.lt_or_ge i 10 with h | h
        · rw [List.drop_of_length_le (by omega), show 10 - i = (9 - i) + 1 from by omega]; rfl
        · rw [show 10 - i = 0 from by omega]; rfl
      have hge : min (l.length : Int) 10 ≤ (i : Int) := by omega
      clear hg hm0
      go_wp2
      go_ret2
      exact ⟨by rw [hnone.out]; rfl, rfl⟩
end Go.Proofs.YtgagcncmlonciaaGreatDoor
namespace Go.Proofs.YtgagcncmlonciaaGreatDoor
open Go.RowKit

/-- What a call on a cursor in block g, from cell o on, leaves. -/
def CurPost (w : World) (g o : Nat) (t : TypeId) (cs : Array Value) (c' : List UInt8 × Bool) (v : Value) (e : Ending) (w' : World) : Prop :=
  e = .returned v ∧ Blk w' g t ((cs.setIfInBounds o (.string (bs c'.1))).setIfInBounds (o + 1) (.bool c'.2)) ∧ w.grownBy w' (some g)

theorem set_same (cs : Array Value) (i : Nat) (v : Value) (h : cs[i]? = some v) : cs.setIfInBounds i v = cs := by
  apply Array.ext_getElem?
  intro j
  rw [Array.getElem?_setIfInBounds]
  split
  · rename_i hij; subst hij
    rw [h]; simp
    exact (Array.getElem?_eq_some_iff.1 h).1
  · rfl

theorem below_grown {w w' : World} (h : Below w.heap.size w w') (row : Option Nat) : w.grownBy w' row := ⟨h.os, h.tape, h.output, h.size, fun k hk _ => h.block k hk⟩
theorem grown_trans' {a b c : World} {row : Option Nat} (h : a.grownBy b row) (k : b.grownBy c row) : a.grownBy c row :=
  ⟨k.os.trans h.os, k.tape.trans h.tape, k.output.trans h.output, Nat.le_trans h.size k.size, fun i hi hne => (k.block i (Nat.lt_of_lt_of_le hi h.size) hne).trans (h.block i hi hne)⟩
theorem grown_set (w : World) (g o : Nat) (v : Value) : w.grownBy (w.setCell ⟨g, o, none⟩ v) (some g) :=
  ⟨rfl, rfl, rfl, by simp [World.setCell], fun k _ hne => Below.heap_setCell w ⟨g, o, none⟩ v k (fun e => hne (by simp [e]))⟩

def gsval : Option (List UInt8 × Nat) → List UInt8 | none => [] | some (t, _) => t

set_option maxRecDepth 100000 in
set_option maxHeartbeats 400000 in
theorem take_u64_any (g o : Nat) (t : TypeId) (cs : Array Value) (s : List UInt8) (bad : Bool) (f : FuncId) (capt : Array Value) (r : Option (Nat × Nat)) (w : World)
    (hB : Blk w g t cs) (h0 : cs[o]? = some (.string (bs s))) (h1 : cs[o + 1]? = some (.bool bad))
    (hget : bad = false → Calls Tryz.prog f (#[.string (bs s)] ++ capt) w fun e w' => e = .returned (.tuple #[.int .u64 (gval r), .int .i64 (gcnt r)]) ∧ Below w.heap.size w w')
    (hcf : ∀ W, (callFunc f (#[.string (bs s)] ++ capt)).run Tryz.prog W = .ok (.enter f (#[.string (bs s)] ++ capt)) W)
    (hr : ∀ v k, r = some (v, k) → k ≤ s.length) :
    Calls Tryz.prog 170 #[.pointer (some ⟨g, o, none⟩), .func (.func f) #[] capt] w (CurPost w g o t cs (Num.nxt (s, bad) r) (.int .u64 (if bad then 0 else gval r))) := by
  have e0 : w.cell? ⟨g, o, none⟩ = some (.string (bs s)) := (hB.cell o).trans h0
  have e1 : w.cell? ⟨g, o + 1, none⟩ = some (.bool bad) := (hB.cell (o + 1)).trans h1
  cases bad with
  | true =>
    go_enter Tryz.func170, Tryz.ntmps170
    go_wp2
    go_ret
    exact ⟨rfl, by simpa [Num.nxt, set_same _ _ _ h0, set_same _ _ _ h1] using hB, ⟨rfl, rfl, rfl, Nat.le_refl _, fun _ _ _ => rfl⟩⟩
  | false =>
    have hg := Lib.hid (hget rfl)
    clear hget
    go_enter Tryz.func170, Tryz.ntmps170
    go_wp2_with fail
    refine hg.out.mono ?_
    clear hg hcf
    rintro e w1 ⟨rfl, hb1⟩
    have hB1 := hB.below hb1 hB.lt
    have c0 : w1.cell? ⟨g, o, none⟩ = some (.string (bs s)) := (hB1.cell o).trans h0
    have c1 : w1.cell? ⟨g, o + 1, none⟩ = some (.bool false) := (hB1.cell (o + 1)).trans h1
    have f0 := hB1.frozen o
    have f1 := hB1.frozen (o + 1)
    have hG := below_grown hb1 (some g)
    cases r with
    | none =>
      have hk : gcnt (none : Option (Nat × Nat)) = -1 := rfl
      have hv : gval none = 0 := rfl
      rw [hk, hv]
      have hP := Lib.hid (hB1.set_ (o + 1) (.bool true))
      clear hB hB1 hr hb1 hk hv
      go_wp2
      go_ret
      exact ⟨rfl, by simpa [Num.nxt, set_same _ _ _ h0] using hP.out, grown_trans' hG (grown_set _ _ _ _)⟩
    | some x =>
      obtain ⟨v, k⟩ := x
      have hk : gcnt (some (v, k)) = (k : Int) := rfl
      have hks := hr v k rfl
      have hz := bs_size s
      have hx : (bs s).extract k s.length = bs (s.drop k) := by rw [bs_extract, List.take_of_length_le (by simp)]
      rw [hk]
      have hP := Lib.hid (hB1.set_ o (.string (bs (s.drop k))))
      have h1' := Lib.hid h1
      clear hB hB1 hr hb1 hk e0 e1 h0 h1
      go_wp2
      go_ret
      refine ⟨rfl, ?_, grown_trans' hG (grown_set _ _ _ _)⟩
      show Blk _ g t ((cs.setIfInBounds o (.string (bs (s.drop k)))).setIfInBounds (o + 1) (.bool false))
      rw [set_same _ (o + 1) (.bool false) (by rw [Array.getElem?_setIfInBounds, if_neg (by omega)]; exact h1'.out)]
      exact hP.out

set_option maxRecDepth 100000 in
set_option maxHeartbeats 400000 in
theorem take_str_any (g o : Nat) (t : TypeId) (cs : Array Value) (s : List UInt8) (bad : Bool) (f : FuncId) (capt : Array Value) (r : Option (List UInt8 × Nat)) (w : World)
    (hB : Blk w g t cs) (h0 : cs[o]? = some (.string (bs s))) (h1 : cs[o + 1]? = some (.bool bad))
    (hget : bad = false → Calls Tryz.prog f (#[.string (bs s)] ++ capt) w fun e w' => e = .returned (.tuple #[.string (bs (gsval r)), .int .i64 (gcnt r)]) ∧ Below w.heap.size w w')
    (hcf : ∀ W, (callFunc f (#[.string (bs s)] ++ capt)).run Tryz.prog W = .ok (.enter f (#[.string (bs s)] ++ capt)) W)
    (hr : ∀ v k, r = some (v, k) → k ≤ s.length) :
    Calls Tryz.prog 172 #[.pointer (some ⟨g, o, none⟩), .func (.func f) #[] capt] w (CurPost w g o t cs (Num.nxt (s, bad) r) (.string (bs (if bad then [] else gsval r)))) := by
  have e0 : w.cell? ⟨g, o, none⟩ = some (.string (bs s)) := (hB.cell o).trans h0
  have e1 : w.cell? ⟨g, o + 1, none⟩ = some (.bool bad) := (hB.cell (o + 1)).trans h1
  cases bad with
  | true =>
    go_enter Tryz.func172, Tryz.ntmps172
    go_wp2
    go_ret
    exact ⟨rfl, by simpa [Num.nxt, set_same _ _ _ h0, set_same _ _ _ h1] using hB, ⟨rfl, rfl, rfl, Nat.le_refl _, fun _ _ _ => rfl⟩⟩
  | false =>
    have hg := Lib.hid (hget rfl)
    clear hget
    go_enter Tryz.func172, Tryz.ntmps172
    go_wp2_with fail
    refine hg.out.mono ?_
    clear hg hcf
    rintro e w1 ⟨rfl, hb1⟩
    have hB1 := hB.below hb1 hB.lt
    have c0 : w1.cell? ⟨g, o, none⟩ = some (.string (bs s)) := (hB1.cell o).trans h0
    have c1 : w1.cell? ⟨g, o + 1, none⟩ = some (.bool false) := (hB1.cell (o + 1)).trans h1
    have f0 := hB1.frozen o
    have f1 := hB1.frozen (o + 1)
    have hG := below_grown hb1 (some g)
    cases r with
    | none =>
      have hk : gcnt (none : Option (List UInt8 × Nat)) = -1 := rfl
      have hv : bs (gsval none) = ⟨#[]⟩ := rfl
      rw [hk, hv]
      have hP := Lib.hid (hB1.set_ (o + 1) (.bool true))
      clear hB hB1 hr hb1 hk hv
      go_wp2
      go_ret
      exact ⟨rfl, by simpa [Num.nxt, set_same _ _ _ h0] using hP.out, grown_trans' hG (grown_set _ _ _ _)⟩
    | some x =>
      obtain ⟨v, k⟩ := x
      have hk : gcnt (some (v, k)) = (k : Int) := rfl
      have hks := hr v k rfl
      have hz := bs_size s
      have hx : (bs s).extract k s.length = bs (s.drop k) := by rw [bs_extract, List.take_of_length_le (by simp)]
      have hv : gsval (some (v, k)) = v := rfl
      rw [hk, hv]
      have hP := Lib.hid (hB1.set_ o (.string (bs (s.drop k))))
      have h1' := Lib.hid h1
      clear hB hB1 hr hb1 hk e0 e1 h0 h1
      go_wp2
      go_ret
      refine ⟨rfl, ?_, grown_trans' hG (grown_set _ _ _ _)⟩
      show Blk _ g t ((cs.setIfInBounds o (.string (bs (s.drop k)))).setIfInBounds (o + 1) (.bool false))
      rw [set_same _ (o + 1) (.bool false) (by rw [Array.getElem?_setIfInBounds, if_neg (by omega)]; exact h1'.out)]
      exact hP.out
end Go.Proofs.YtgagcncmlonciaaGreatDoor
namespace Go.Proofs.YtgagcncmlonciaaGreatDoor
open Go.RowKit

theorem unw_take_succ (l : List UInt8) (i : Nat) (b : UInt8) (h : l[i]? = some b) : Num.unw (l.take (i + 1)) = Num.unw (l.take i) + b.toNat * 256 ^ i := by
  induction l generalizing i with
  | nil => simp at h
  | cons c r ih =>
    cases i with
    | zero => simp at h; simp [Num.unw, h]
    | succ i =>
      have := ih i (by simpa using h)
      simp only [List.take_succ_cons, Num.unw] at *
      rw [this, Nat.pow_succ, Nat.mul_comm (256 ^ i) 256, ← Nat.mul_assoc, Nat.mul_comm b.toNat 256, Nat.mul_assoc, Nat.mul_add, Nat.add_assoc]
theorem or8 (i acc b : Nat) (hb : b < 256) (ha : acc < 256 ^ i) (hi : i < 8) :
    bits BinOp.or IntKind.u64 (acc : Int) (IntKind.u64.wrap ((b : Int) * 2 ^ (8 * i))) = ((acc + b * 256 ^ i : Nat) : Int) ∧ acc + b * 256 ^ i < 256 ^ (i + 1) := by
  have w (x : Int) : IntKind.u64.wrap x = x % 18446744073709551616 := by simp [IntKind.wrap, IntKind.bits, IntKind.signed]
  have e2 : (2 : Int) ^ (8 * i) = ((256 ^ i : Nat) : Int) := by
    rw [show (256 : Nat) ^ i = 2 ^ (8 * i) from by rw [Nat.pow_mul]]; simp
  have hp : 256 ^ (i + 1) ≤ 256 ^ 8 := Nat.pow_le_pow_right (by omega) (by omega)
  have hb' : b ≤ 255 := by omega
  have hm := Nat.mul_le_mul_right (256 ^ i) hb'
  rw [Nat.pow_succ] at hp
  have e4 : IntKind.u64.wrap ((b : Int) * ((256 ^ i : Nat) : Int)) = ((b * 256 ^ i : Nat) : Int) := by
    rw [w, ← Int.natCast_mul]; omega
  refine ⟨?_, by rw [Nat.pow_succ]; omega⟩
  rw [e2, e4, u64_or_nat _ _ (by omega) (by omega), Nat.or_comm, nat_join (8 * i) (b * 256 ^ i) acc]
  · rw [Nat.add_comm]
  · rw [Nat.pow_mul, show (2 : Nat) ^ 8 = 256 from rfl]; exact Nat.mul_mod_left _ _
  · rw [Nat.pow_mul]; exact ha

def GwRel (l : List UInt8) (vn vi : Value) : Prop := ∃ i : Nat, vi = .int .i64 (i : Int) ∧ vn = .int .u64 ((Num.unw (l.take i) : Nat) : Int) ∧ i ≤ 8

set_option maxRecDepth 100000 in
set_option maxHeartbeats 400000 in
theorem Wide1_any (l : List UInt8) (w : World) (hl : l.length ≤ 1099511627776) :
    Calls Tryz.prog 174 #[.string (bs l)] w fun e w' => e = .returned (.tuple #[.int .u64 (gval (Num.getWide l)), .int .i64 (gcnt (Num.getWide l))]) ∧ Below w.heap.size w w' := by
  have hz := bs_size l
  by_cases h8 : l.length < 8
  · have hn : Hid (Num.getWide l = none) := by show _ = _; unfold Num.getWide; rw [if_pos h8]
    go_enter Tryz.func174, Tryz.ntmps174
    go_wp2
    go_ret2
    exact ⟨by rw [hn.out]; rfl, Below.refl _ _⟩
  · have hn : Hid (Num.getWide l = some (Num.unw (l.take 8), 8)) := by show _ = _; unfold Num.getWide; rw [if_neg h8]
    have h8' : 8 ≤ l.length := by omega
    go_enter Tryz.func174, Tryz.ntmps174
    go_wp2
    go_loop [4, 9] (fun vn vi => GwRel l vn vi) (fun _ vi => 10 - (intOf vi).toNat)
    case atStart => exact ⟨0, rfl, rfl, by omega⟩
    case round =>
      obtain ⟨i, rfl, hvn, hi8⟩ := hrel
      by_cases hlt : i < 8
      · obtain ⟨b, hb⟩ : ∃ b, l[i]? = some b := ⟨l[i]'(by omega), List.getElem?_eq_getElem (by omega)⟩
        have hix := fun k W => run_index_bs (P := Tryz.prog) 9 Tryz.underlying9 l i b hb k W
        have hbl : b.toNat < 256 := UInt8.toNat_lt b
        have hu := unw_take_succ l i b hb
        have hlt' : Num.unw (l.take i) < 256 ^ i := by have := Num.unw_lt (l.take i); rwa [List.length_take_of_le (by omega)] at this
        have ho := or8 i (Num.unw (l.take i)) b.toNat hbl hlt' hlt
        rw [← hu] at ho
        have HR := Lib.hid (show GwRel l (.int .u64 ((Num.unw (l.take (i + 1)) : Nat) : Int)) (.int .i64 ((i : Int) + 1)) from ⟨i + 1, rfl, rfl, by omega⟩)
        generalize Num.unw (l.take (i + 1)) = y at ho HR
        generalize Num.unw (l.take i) = x at hvn ho
        have hor := Lib.hid ho.1
        subst hvn
        clear hb hu hlt' ho hz
        go_wp2
        go_round
        case rel => rw [hor.out]; exact HR.out
        case measure => simp [intOf]; omega
      · obtain rfl : i = 8 := by omega
        subst hvn
        go_wp2
        go_ret2
        exact ⟨by rw [hn.out]; rfl, Below.refl _ _⟩

set_option maxRecDepth 100000 in
set_option maxHeartbeats 400000 in
theorem Take1_any (l : List UInt8) (n : Int) (p : Addr) (w : World) (_hl : l.length ≤ 1099511627776) (hn1 : -9223372036854775808 ≤ n) (hn2 : n ≤ 9223372036854775807) (hp : w.cell? p = some (.int .i64 n)) :
    Calls Tryz.prog 173 #[.string (bs l), .pointer (some p)] w fun e w' => e = .returned (.tuple #[.string (bs (gsval (Num.getTake l n))), .int .i64 (gcnt (Num.getTake l n))]) ∧ Below w.heap.size w w' := by
  have hz := bs_size l
  by_cases h0 : n < 0
  · have hn : Hid (Num.getTake l n = none) := by show _ = _; unfold Num.getTake; rw [if_pos (.inl h0)]
    go_enter Tryz.func173, Tryz.ntmps173
    go_wp2
    go_ret2
    exact ⟨by rw [hn.out]; rfl, Below.refl _ _⟩
  · by_cases h1 : (l.length : Int) < n
    · have hn : Hid (Num.getTake l n = none) := by show _ = _; unfold Num.getTake; rw [if_pos (.inr h1)]
      go_enter Tryz.func173, Tryz.ntmps173
      go_wp2
      go_ret2
      exact ⟨by rw [hn.out]; rfl, Below.refl _ _⟩
    · obtain ⟨m, rfl⟩ := Int.eq_ofNat_of_zero_le (show 0 ≤ n by omega)
      have hn : Hid (Num.getTake l m = some (l.take m, m)) := by show _ = _; unfold Num.getTake; rw [if_neg (by omega)]; rfl
      have hx := Lib.hid (bs_extract l 0 m)
      have h0' : (0 : Int) ≤ (m : Int) := by omega
      have h1' : (m : Int) ≤ (l.length : Int) := by omega
      go_enter Tryz.func173, Tryz.ntmps173
      go_wp2
      go_quiet (fail)
      go_wp2
      go_ret2
      exact ⟨by rw [hn.out, hx.out]; rfl, (below_drewN (Below.refl _ _) _)⟩

theorem getSmall_bd (l : List UInt8) (n k : Nat) (h : Num.getSmall l = some (n, k)) : n < 18446744073709551616 ∧ k ≤ l.length ∧ k ≤ 10 ∧ 1 ≤ k := by
  obtain ⟨h1, h2, h3⟩ := Num.getSmall_only l n k h
  have := Num.small_len n
  refine ⟨h1, ?_, by omega, by omega⟩
  have := congrArg List.length h3
  simp at this; omega

set_option maxRecDepth 100000 in
set_option maxHeartbeats 400000 in
theorem Text1_any (l : List UInt8) (most : Int) (p : Addr) (w : World) (hl : l.length ≤ 1099511627776) (hn1 : -9223372036854775808 ≤ most) (hn2 : most ≤ 9223372036854775807) (hp : w.cell? p = some (.int .i64 most)) :
    Calls Tryz.prog 308 #[.string (bs l), .pointer (some p)] w fun e w' => e = .returned (.tuple #[.string (bs (gsval (Num.getText l most))), .int .i64 (gcnt (Num.getText l most))]) ∧ Below w.heap.size w w' := by
  have hz := bs_size l
  cases hg : Num.getSmall l with
  | none =>
    have hn : Hid (Num.getText l most = none) := by show _ = _; unfold Num.getText; rw [hg]
    have hc := num_small_any l w hl
    rw [hg] at hc
    have hc' := Lib.hid hc
    clear hc hg
    go_enter Tryz.func308, Tryz.ntmps308
    go_wp2_with (go_at_call 171; refine hc'.out.mono ?_; simp only [gval, gcnt]; rintro e w' ⟨rfl, rfl⟩)
    go_ret2
    exact ⟨by rw [hn.out]; rfl, Below.refl _ _⟩
  | some x =>
    obtain ⟨n, k⟩ := x
    obtain ⟨b1, b2, b3, b4⟩ := getSmall_bd l n k hg
    have hc := num_small_any l w hl
    rw [hg] at hc
    have hc' := Lib.hid hc
    have HG := Lib.hid hg
    have hn0 : (0 : Int) ≤ (n : Int) := by omega
    have hn1' : (n : Int) < 18446744073709551616 := by omega
    have hk1 : (k : Int) ≤ (l.length : Int) := by omega
    clear hc hg b1
    by_cases h0 : most < 0
    · have hn : Hid (Num.getText l most = none) := by show _ = _; unfold Num.getText; rw [HG.out]; simp only []; rw [if_pos (.inl h0)]
      go_enter Tryz.func308, Tryz.ntmps308
      go_wp2_with (go_at_call 171; refine hc'.out.mono ?_; simp only [gval, gcnt]; rintro e w' ⟨rfl, rfl⟩)
      go_ret2
      exact ⟨by rw [hn.out]; rfl, Below.refl _ _⟩
    · by_cases h1 : min ((l.length : Int) - k) most < n
      · have hn : Hid (Num.getText l most = none) := by show _ = _; unfold Num.getText; rw [HG.out]; simp only []; rw [if_pos (by omega)]
        go_enter Tryz.func308, Tryz.ntmps308
        go_wp2_with (go_at_call 171; refine hc'.out.mono ?_; simp only [gval, gcnt]; rintro e w' ⟨rfl, rfl⟩)
        go_ret2
        exact ⟨by rw [hn.out]; rfl, Below.refl _ _⟩
      · have hn : Hid (Num.getText l most = some ((l.drop k).take n, k + n)) := by show _ = _; unfold Num.getText; rw [HG.out]; simp only []; rw [if_neg (by omega)]
        have hx := Lib.hid (bs_extract l k (k + n))
        have hm2 : (n : Int) ≤ (l.length : Int) - k := by omega
        clear hn1'
        go_enter Tryz.func308, Tryz.ntmps308
        go_wp2_with (go_at_call 171; refine hc'.out.mono ?_; simp only [gval, gcnt]; rintro e w' ⟨rfl, rfl⟩)
        go_ret2
        exact ⟨by rw [hn.out, hx.out, show k + n - k = n from by omega]; rfl, Below.refl _ _⟩
end Go.Proofs.YtgagcncmlonciaaGreatDoor
namespace Go.Proofs.YtgagcncmlonciaaGreatDoor
open Go.RowKit

theorem dropWhile_nil_iff (l : List UInt8) : l.dropWhile (· == 0) = [] ↔ l.all (· == 0) = true := by
  induction l with
  | nil => simp
  | cons b r ih =>
    rw [List.dropWhile_cons]
    by_cases h : (b == 0) = true
    · rw [if_pos h, ih]; simp [h]
    · rw [if_neg h]; simp [h]
theorem dropWhile_all (l : List UInt8) (h : l.all (· == 0) = true) : l.dropWhile (· == 0) = [] := (dropWhile_nil_iff l).2 h
end Go.Proofs.YtgagcncmlonciaaGreatDoor
namespace Go.Proofs.YtgagcncmlonciaaGreatDoor
open Go.RowKit

theorem cf_small (a : Array Value) (W : World) : (callFunc 171 a).run Tryz.prog W = .ok (.enter 171 a) W := by kernel_rfl
theorem cf_Wide1 (a : Array Value) (W : World) : (callFunc 174 a).run Tryz.prog W = .ok (.enter 174 a) W := by kernel_rfl
theorem cf_Text1 (a : Array Value) (W : World) : (callFunc 308 a).run Tryz.prog W = .ok (.enter 308 a) W := by kernel_rfl
theorem cf_Fixed1 (a : Array Value) (W : World) : (callFunc 306 a).run Tryz.prog W = .ok (.enter 306 a) W := by kernel_rfl
theorem cf_Take1 (a : Array Value) (W : World) : (callFunc 173 a).run Tryz.prog W = .ok (.enter 173 a) W := by kernel_rfl

theorem getSmall_le (l : List UInt8) (v k : Nat) (h : Num.getSmall l = some (v, k)) : k ≤ l.length := (getSmall_bd l v k h).2.1
theorem getWide_le (l : List UInt8) (v k : Nat) (h : Num.getWide l = some (v, k)) : k ≤ l.length := by
  unfold Num.getWide at h; split at h
  · cases h
  · simp only [Option.some.injEq, Prod.mk.injEq] at h; omega
theorem getText_le (l : List UInt8) (most : Int) (v : List UInt8) (k : Nat) (h : Num.getText l most = some (v, k)) : k ≤ l.length := by
  unfold Num.getText at h
  cases hg : Num.getSmall l with
  | none => rw [hg] at h; cases h
  | some x =>
    obtain ⟨n, j⟩ := x
    rw [hg] at h
    simp only [] at h
    have := (getSmall_bd l n j hg).2.1
    split at h
    · cases h
    · simp only [Option.some.injEq, Prod.mk.injEq] at h; omega
theorem getFixed_le (l : List UInt8) (k0 : Int) (v : List UInt8) (k : Nat) (h : Num.getFixed l k0 = some (v, k)) : k ≤ l.length := by
  unfold Num.getFixed at h
  cases hg : l[Num.szN k0]? with
  | none => rw [hg] at h; cases h
  | some b =>
    rw [hg] at h
    simp only [] at h
    have := (List.getElem?_eq_some_iff.1 hg).1
    split at h
    · cases h
    · simp only [Option.some.injEq, Prod.mk.injEq] at h; omega
theorem getTake_le (l : List UInt8) (n : Int) (v : List UInt8) (k : Nat) (h : Num.getTake l n = some (v, k)) : k ≤ l.length := by
  unfold Num.getTake at h
  split at h
  · cases h
  · simp only [Option.some.injEq, Prod.mk.injEq] at h; omega

set_option maxRecDepth 100000 in
set_option maxHeartbeats 400000 in
theorem Cursor_Small_any (g o : Nat) (t : TypeId) (cs : Array Value) (s : List UInt8) (bad : Bool) (w : World)
    (hB : Blk w g t cs) (h0 : cs[o]? = some (.string (bs s))) (h1 : cs[o + 1]? = some (.bool bad)) (hs : s.length ≤ 1099511627776) :
    Calls Tryz.prog 109 #[.pointer (some ⟨g, o, none⟩)] w (CurPost w g o t cs (Num.nxt (s, bad) (Num.getSmall s)) (.int .u64 (if bad then 0 else gval (Num.getSmall s)))) := by
  have hc := Lib.hid (take_u64_any g o t cs s bad 171 #[] (Num.getSmall s) w hB h0 h1
    (fun _ => (num_small_any s w hs).mono fun e w' ⟨he, hw⟩ => ⟨he, hw ▸ Below.refl _ _⟩) (cf_small _) (getSmall_le s))
  clear hB h0 h1
  generalize hv : (if bad then 0 else gval (Num.getSmall s)) = v at hc
  clear hv
  go_enter Tryz.func109, Tryz.ntmps109
  go_wp2_with (go_at_call 170; refine hc.out.mono ?_; rintro e w' ⟨rfl, hp⟩)
  go_ret
  exact ⟨rfl, hp⟩

theorem grown_alloc' (w : World) (ob : Obj) (row : Option Nat) : w.grownBy (w.alloc ob) row := World.grownBy_alloc w ob row

set_option maxRecDepth 100000 in
set_option maxHeartbeats 400000 in
theorem Cursor_Wide_any (g o : Nat) (t : TypeId) (cs : Array Value) (s : List UInt8) (bad : Bool) (w : World)
    (hB : Blk w g t cs) (h0 : cs[o]? = some (.string (bs s))) (h1 : cs[o + 1]? = some (.bool bad)) (hs : s.length ≤ 1099511627776) :
    Calls Tryz.prog 113 #[.pointer (some ⟨g, o, none⟩)] w (CurPost w g o t cs (Num.nxt (s, bad) (Num.getWide s)) (.int .u64 (if bad then 0 else gval (Num.getWide s)))) := by
  have hc := Lib.hid (take_u64_any g o t cs s bad 174 #[] (Num.getWide s) w hB h0 h1
    (fun _ => Wide1_any s w hs) (cf_Wide1 _) (getWide_le s))
  clear hB h0 h1
  generalize hv : (if bad then 0 else gval (Num.getWide s)) = v at hc
  clear hv
  go_enter Tryz.func113, Tryz.ntmps113
  go_wp2_with (go_at_call 170; refine hc.out.mono ?_; rintro e w' ⟨rfl, hp⟩)
  go_ret
  exact ⟨rfl, hp⟩

set_option maxRecDepth 100000 in
set_option maxHeartbeats 400000 in
theorem Cursor_Text_any (g o : Nat) (t : TypeId) (cs : Array Value) (s : List UInt8) (bad : Bool) (most : Int) (w : World)
    (hB : Blk w g t cs) (h0 : cs[o]? = some (.string (bs s))) (h1 : cs[o + 1]? = some (.bool bad)) (hs : s.length ≤ 1099511627776)
    (hm1 : -9223372036854775808 ≤ most) (hm2 : most ≤ 9223372036854775807) :
    Calls Tryz.prog 273 #[.pointer (some ⟨g, o, none⟩), .int .i64 most] w (CurPost w g o t cs (Num.nxt (s, bad) (Num.getText s most)) (.string (bs (if bad then [] else gsval (Num.getText s most))))) := by
  have hc := Lib.hid (take_str_any g o t cs s bad 308 #[.pointer (some ⟨w.heap.size, 0, none⟩)] (Num.getText s most) (w.alloc (.cells #[.int .i64 most] 3)) (hB.alloc _) h0 h1
    (fun _ => Text1_any s most ⟨w.heap.size, 0, none⟩ _ hs hm1 hm2 (cell_new_arr _ _ _ _)) (cf_Text1 _) (getText_le s most))
  clear hB h0 h1
  generalize hv : (if bad then [] else gsval (Num.getText s most)) = v at hc
  clear hv
  go_enter Tryz.func273, Tryz.ntmps273
  go_wp2_with (go_at_call 172; refine hc.out.mono ?_; rintro e w' ⟨rfl, hp1, hp2⟩)
  go_ret
  exact ⟨rfl, hp1, grown_trans' (grown_alloc' _ _ _) hp2⟩

set_option maxRecDepth 100000 in
set_option maxHeartbeats 400000 in
theorem Cursor_Take_any (g o : Nat) (t : TypeId) (cs : Array Value) (s : List UInt8) (bad : Bool) (n : Int) (w : World)
    (hB : Blk w g t cs) (h0 : cs[o]? = some (.string (bs s))) (h1 : cs[o + 1]? = some (.bool bad)) (hs : s.length ≤ 1099511627776)
    (hm1 : -9223372036854775808 ≤ n) (hm2 : n ≤ 9223372036854775807) :
    Calls Tryz.prog 111 #[.pointer (some ⟨g, o, none⟩), .int .i64 n] w (CurPost w g o t cs (Num.nxt (s, bad) (Num.getTake s n)) (.string (bs (if bad then [] else gsval (Num.getTake s n))))) := by
  have hc := Lib.hid (take_str_any g o t cs s bad 173 #[.pointer (some ⟨w.heap.size, 0, none⟩)] (Num.getTake s n) (w.alloc (.cells #[.int .i64 n] 3)) (hB.alloc _) h0 h1
    (fun _ => Take1_any s n ⟨w.heap.size, 0, none⟩ _ hs hm1 hm2 (cell_new_arr _ _ _ _)) (cf_Take1 _) (getTake_le s n))
  clear hB h0 h1
  generalize hv : (if bad then [] else gsval (Num.getTake s n)) = v at hc
  clear hv
  go_enter Tryz.func111, Tryz.ntmps111
  go_wp2_with (go_at_call 172; refine hc.out.mono ?_; rintro e w' ⟨rfl, hp1, hp2⟩)
  go_ret
  exact ⟨rfl, hp1, grown_trans' (grown_alloc' _ _ _) hp2⟩

/-- What Done answers. -/
def doneB (s : List UInt8) (bad : Bool) : Bool := s.isEmpty && !bad

set_option maxRecDepth 100000 in
set_option maxHeartbeats 400000 in
theorem Cursor_Done_any (g o : Nat) (t : TypeId) (cs : Array Value) (s : List UInt8) (bad : Bool) (w : World)
    (hB : Blk w g t cs) (h0 : cs[o]? = some (.string (bs s))) (h1 : cs[o + 1]? = some (.bool bad)) :
    Calls Tryz.prog 115 #[.pointer (some ⟨g, o, none⟩)] w fun e w' => e = .returned (.bool (doneB s bad)) ∧ w = w' := by
  have e0 : w.cell? ⟨g, o, none⟩ = some (.string (bs s)) := (hB.cell o).trans h0
  have e1 : w.cell? ⟨g, o + 1, none⟩ = some (.bool bad) := (hB.cell (o + 1)).trans h1
  have ht := bs_toList s
  clear hB h0 h1
  cases s <;> cases bad
  all_goals go_enter Tryz.func115, Tryz.ntmps115
  all_goals go_wp2
  all_goals go_ret
  all_goals exact ⟨rfl, rfl⟩
end Go.Proofs.YtgagcncmlonciaaGreatDoor
namespace Go.Proofs.YtgagcncmlonciaaGreatDoor
open Go.RowKit

/-- A cursor alone in its block. -/
def Cur (w : World) (g : Nat) (s : List UInt8) (bad : Bool) : Prop := Blk w g 199 #[.string (bs s), .bool bad]
theorem Cur.grown {w w' : World} {g : Nat} {s : List UInt8} {bad : Bool} {row : Option Nat} (h : Cur w g s bad) (hg : w.grownBy w' row) (hne : some g ≠ row) : Cur w' g s bad := Blk.grown h hg hne
theorem Cur.c0 {w : World} {g : Nat} {s : List UInt8} {bad : Bool} (h : Cur w g s bad) : w.cell? ⟨g, 0, none⟩ = some (.string (bs s)) := (Blk.cell h 0).trans rfl
theorem Cur.c1 {w : World} {g : Nat} {s : List UInt8} {bad : Bool} (h : Cur w g s bad) : w.cell? ⟨g, 1, none⟩ = some (.bool bad) := (Blk.cell h 1).trans rfl

theorem CSmall (g : Nat) (s : List UInt8) (bad : Bool) (w : World) (hB : Cur w g s bad) (hs : s.length ≤ 1099511627776) :
    Calls Tryz.prog 109 #[.pointer (some ⟨g, 0, none⟩)] w fun e w' => e = .returned (.int .u64 (if bad then 0 else gval (Num.getSmall s))) ∧ Cur w' g (Num.nxt (s, bad) (Num.getSmall s)).1 (Num.nxt (s, bad) (Num.getSmall s)).2 ∧ w.grownBy w' (some g) :=
  Cursor_Small_any g 0 _ _ s bad w hB rfl rfl hs
theorem CWide (g : Nat) (s : List UInt8) (bad : Bool) (w : World) (hB : Cur w g s bad) (hs : s.length ≤ 1099511627776) :
    Calls Tryz.prog 113 #[.pointer (some ⟨g, 0, none⟩)] w fun e w' => e = .returned (.int .u64 (if bad then 0 else gval (Num.getWide s))) ∧ Cur w' g (Num.nxt (s, bad) (Num.getWide s)).1 (Num.nxt (s, bad) (Num.getWide s)).2 ∧ w.grownBy w' (some g) :=
  Cursor_Wide_any g 0 _ _ s bad w hB rfl rfl hs
theorem CText (g : Nat) (s : List UInt8) (bad : Bool) (n : Int) (w : World) (hB : Cur w g s bad) (hs : s.length ≤ 1099511627776) (h1 : -9223372036854775808 ≤ n) (h2 : n ≤ 9223372036854775807) :
    Calls Tryz.prog 273 #[.pointer (some ⟨g, 0, none⟩), .int .i64 n] w fun e w' => e = .returned (.string (bs (if bad then [] else gsval (Num.getText s n)))) ∧ Cur w' g (Num.nxt (s, bad) (Num.getText s n)).1 (Num.nxt (s, bad) (Num.getText s n)).2 ∧ w.grownBy w' (some g) :=
  Cursor_Text_any g 0 _ _ s bad n w hB rfl rfl hs h1 h2
theorem CTake (g : Nat) (s : List UInt8) (bad : Bool) (n : Int) (w : World) (hB : Cur w g s bad) (hs : s.length ≤ 1099511627776) (h1 : -9223372036854775808 ≤ n) (h2 : n ≤ 9223372036854775807) :
    Calls Tryz.prog 111 #[.pointer (some ⟨g, 0, none⟩), .int .i64 n] w fun e w' => e = .returned (.string (bs (if bad then [] else gsval (Num.getTake s n)))) ∧ Cur w' g (Num.nxt (s, bad) (Num.getTake s n)).1 (Num.nxt (s, bad) (Num.getTake s n)).2 ∧ w.grownBy w' (some g) :=
  Cursor_Take_any g 0 _ _ s bad n w hB rfl rfl hs h1 h2
theorem CDone (g : Nat) (s : List UInt8) (bad : Bool) (w : World) (hB : Cur w g s bad) :
    Calls Tryz.prog 115 #[.pointer (some ⟨g, 0, none⟩)] w fun e w' => e = .returned (.bool (doneB s bad)) ∧ w = w' :=
  Cursor_Done_any g 0 _ _ s bad w hB rfl rfl


theorem CSmall_some (g : Nat) (s : List UInt8) (v k : Nat) (r : List UInt8) (w : World) (hB : Cur w g s false) (hs : s.length ≤ 1099511627776) (hg : Num.getSmall s = some (v, k)) (hr : s.drop k = r) :
    Calls Tryz.prog 109 #[.pointer (some ⟨g, 0, none⟩)] w fun e w' => e = .returned (.int .u64 (v : Int)) ∧ Cur w' g r false ∧ w.grownBy w' (some g) := by
  have h := CSmall g s false w hB hs
  rw [hg] at h
  subst hr
  exact h
theorem CSmall_fail (g : Nat) (s : List UInt8) (bad : Bool) (w : World) (hB : Cur w g s bad) (hs : s.length ≤ 1099511627776) (hg : bad = true ∨ Num.getSmall s = none) :
    Calls Tryz.prog 109 #[.pointer (some ⟨g, 0, none⟩)] w fun e w' => e = .returned (.int .u64 0) ∧ Cur w' g s true ∧ w.grownBy w' (some g) := by
  have h := CSmall g s bad w hB hs
  cases bad with
  | true => exact h
  | false =>
    rw [hg.resolve_left (by simp)] at h
    exact h

theorem CWide_some (g : Nat) (s : List UInt8) (v k : Nat) (r : List UInt8) (w : World) (hB : Cur w g s false) (hs : s.length ≤ 1099511627776) (hg : Num.getWide s = some (v, k)) (hr : s.drop k = r) :
    Calls Tryz.prog 113 #[.pointer (some ⟨g, 0, none⟩)] w fun e w' => e = .returned (.int .u64 (v : Int)) ∧ Cur w' g r false ∧ w.grownBy w' (some g) := by
  have h := CWide g s false w hB hs
  rw [hg] at h
  subst hr
  exact h
theorem CWide_fail (g : Nat) (s : List UInt8) (bad : Bool) (w : World) (hB : Cur w g s bad) (hs : s.length ≤ 1099511627776) (hg : bad = true ∨ Num.getWide s = none) :
    Calls Tryz.prog 113 #[.pointer (some ⟨g, 0, none⟩)] w fun e w' => e = .returned (.int .u64 0) ∧ Cur w' g s true ∧ w.grownBy w' (some g) := by
  have h := CWide g s bad w hB hs
  cases bad with
  | true => exact h
  | false =>
    rw [hg.resolve_left (by simp)] at h
    exact h

theorem CText_some (g : Nat) (s : List UInt8) (n : Int) (v : List UInt8) (k : Nat) (r : List UInt8) (w : World) (hB : Cur w g s false) (hs : s.length ≤ 1099511627776) (h1 : -9223372036854775808 ≤ n) (h2 : n ≤ 9223372036854775807) (hg : Num.getText s n = some (v, k)) (hr : s.drop k = r) :
    Calls Tryz.prog 273 #[.pointer (some ⟨g, 0, none⟩), .int .i64 n] w fun e w' => e = .returned (.string (bs v)) ∧ Cur w' g r false ∧ w.grownBy w' (some g) := by
  have h := CText g s false n w hB hs h1 h2
  rw [hg] at h
  subst hr
  exact h
theorem CText_fail (g : Nat) (s : List UInt8) (bad : Bool) (n : Int) (w : World) (hB : Cur w g s bad) (hs : s.length ≤ 1099511627776) (h1 : -9223372036854775808 ≤ n) (h2 : n ≤ 9223372036854775807) (hg : bad = true ∨ Num.getText s n = none) :
    Calls Tryz.prog 273 #[.pointer (some ⟨g, 0, none⟩), .int .i64 n] w fun e w' => e = .returned (.string ⟨#[]⟩) ∧ Cur w' g s true ∧ w.grownBy w' (some g) := by
  have h := CText g s bad n w hB hs h1 h2
  cases bad with
  | true => exact h
  | false =>
    rw [hg.resolve_left (by simp)] at h
    exact h

theorem CTake_some (g : Nat) (s : List UInt8) (n : Int) (v : List UInt8) (k : Nat) (r : List UInt8) (w : World) (hB : Cur w g s false) (hs : s.length ≤ 1099511627776) (h1 : -9223372036854775808 ≤ n) (h2 : n ≤ 9223372036854775807) (hg : Num.getTake s n = some (v, k)) (hr : s.drop k = r) :
    Calls Tryz.prog 111 #[.pointer (some ⟨g, 0, none⟩), .int .i64 n] w fun e w' => e = .returned (.string (bs v)) ∧ Cur w' g r false ∧ w.grownBy w' (some g) := by
  have h := CTake g s false n w hB hs h1 h2
  rw [hg] at h
  subst hr
  exact h
theorem CTake_fail (g : Nat) (s : List UInt8) (bad : Bool) (n : Int) (w : World) (hB : Cur w g s bad) (hs : s.length ≤ 1099511627776) (h1 : -9223372036854775808 ≤ n) (h2 : n ≤ 9223372036854775807) (hg : bad = true ∨ Num.getTake s n = none) :
    Calls Tryz.prog 111 #[.pointer (some ⟨g, 0, none⟩), .int .i64 n] w fun e w' => e = .returned (.string ⟨#[]⟩) ∧ Cur w' g s true ∧ w.grownBy w' (some g) := by
  have h := CTake g s bad n w hB hs h1 h2
  cases bad with
  | true => exact h
  | false =>
    rw [hg.resolve_left (by simp)] at h
    exact h

end Go.Proofs.YtgagcncmlonciaaGreatDoor
