/- The walks of num.Small, num.Wide, and of the reference's. -/
import Derived.Test.YtgehgjalkponfaaGreatDoorNmA
namespace Go.Proofs.YtgehgjalkponfaaGreatDoor
open Go.RowKit

theorem or128 (m : Int) (h0 : 0 ≤ m) : bits BinOp.or IntKind.u8 (m % 256) 128 = (((UInt8.ofNat (m.toNat % 128 + 128)).toNat : Nat) : Int) := by
  rw [u8_or _ _ (by omega) (by omega) (by omega) (by omega), Num.ofNat_toNat _ (by omega), show (128 : Int).toNat = 128 from rfl]
  have e : ∀ x : Fin 256, x.val ||| 128 = x.val % 128 + 128 := by decide +kernel
  have h := e ⟨(m % 256).toNat, by omega⟩
  simp only at h
  rw [h]
  congr 1
  omega

def SmallRel (n : Int) (w : World) (vn vi : Value) (wr : World) : Prop :=
  ∃ (k : Nat) (m : Int) (E : List UInt8), vi = .int .i64 (k : Nat) ∧ vn = .int .u64 m ∧ E.length = k ∧ k ≤ 9 ∧ 0 ≤ m ∧ m < 18446744073709551616 ∧ m.toNat < 128 ^ (10 - k) ∧
    Num.small n.toNat = E ++ Num.smallF (9 - k) m.toNat ∧ wr = w.alloc (.cells (arrV 10 E) 81)

theorem SmallRel.next {n : Int} {w : World} {k : Nat} {m : Int} {E : List UInt8} (hk : E.length = k) (hk9 : k ≤ 9) (hm0 : 0 ≤ m) (hm : m < 18446744073709551616) (hp : m.toNat < 128 ^ (10 - k))
    (he : Num.small n.toNat = E ++ Num.smallF (9 - k) m.toNat) (hlt : 128 ≤ m) (wr : World)
    (hw : wr = w.alloc (.cells ((arrV 10 E).setIfInBounds k (.int .u8 (bits BinOp.or IntKind.u8 (m % 256) 128))) 81)) :
    k + 1 ≤ 9 ∧ SmallRel n w (.int .u64 (m / 128)) (.int .i64 ((k : Int) + 1)) wr := by
  have hk8 : k ≤ 8 := by
    rcases Nat.lt_or_ge k 9 with h | h
    · omega
    · obtain rfl : k = 9 := by omega
      simp at hp; omega
  refine ⟨by omega, k + 1, m / 128, E ++ [UInt8.ofNat (m.toNat % 128 + 128)], by simp, rfl, by simp [hk], by omega, by omega, by omega, ?_, ?_, ?_⟩
  · have e : 10 - k = 10 - (k + 1) + 1 := by omega
    rw [e, Num.p128] at hp
    have : (m / 128).toNat = m.toNat / 128 := by omega
    omega
  · have e : 9 - k = 9 - (k + 1) + 1 := by omega
    rw [he, e, Num.smallF, if_neg (by omega)]
    have : (m / 128).toNat = m.toNat / 128 := by omega
    simp [this]
  · rw [hw, or128 m hm0]
    subst hk
    rw [arrV_set 10 E (by omega)]

theorem small_done {n m : Int} {k : Nat} {E : List UInt8} (hm0 : 0 ≤ m) (he : Num.small n.toNat = E ++ Num.smallF (9 - k) m.toNat) (hlt : m < 128) : E ++ [UInt8.ofNat m.toNat] = Num.small n.toNat := by
  rw [he]
  congr 1
  cases 9 - k with
  | zero => simp [Num.smallF]
  | succ f => rw [Num.smallF, if_pos (by omega)]

set_option maxRecDepth 100000 in
set_option maxHeartbeats 400000 in
theorem num_Small_any (n : Int) (w : World) (h1 : 0 ≤ n) (h2 : n < 18446744073709551616) :
    Calls Tryz.prog 25 #[.int .u64 n] w fun e w' => e = .returned (.string (bs (Num.small n.toNat))) ∧ Below w.heap.size w w' := by
  go_enter Tryz.func25, Tryz.ntmps25
  go_wp2
  go_loopw [0, 4] (fun vn vi wr => SmallRel n w vn vi wr) (fun _ vi _ => 10 - (intOf vi).toNat)
  case atStart =>
    exact ⟨0, n, [], rfl, rfl, rfl, by omega, h1, h2, by simp; omega, by simp [Num.small], rfl⟩
  case round =>
    obtain ⟨k, m, E, rfl, rfl, hk, hk9, hm0, hm, hp, he, rfl⟩ := hrel
    by_cases hlt : 128 ≤ m
    · have hn := Lib.hid (fun wr hw => SmallRel.next (w := w) hk hk9 hm0 hm hp he hlt wr hw)
      have ha : (arrV 10 E)[k]? = some (.int .u8 0) := by rw [← hk]; exact arrV_next 10 E (by omega)
      clear hk hp he
      go_wp2
      go_roundw
      case rel => exact (hn.out _ rfl).2
      case measure => have := (hn.out _ rfl).1; simp [intOf]; omega
    · have hlt' : m < 128 := by omega
      have hd := Lib.hid (small_done hm0 he hlt')
      have ha : (arrV 10 E)[k]? = some (.int .u8 0) := by rw [← hk]; exact arrV_next 10 E (by omega)
      have hset : (arrV 10 E).setIfInBounds k (.int .u8 m) = arrV 10 (E ++ [UInt8.ofNat m.toNat]) := by
        have := arrV_set 10 E (by omega) (UInt8.ofNat m.toNat)
        rw [Num.ofNat_toNat _ (by omega), hk, Int.toNat_of_nonneg hm0] at this; exact this
      have hs := fun W => run_sliceAt_h (P := Tryz.prog) 81 5 10 1 Tryz.underlying81 (by kernel_rfl) w.heap.size (k + 1) .i64 (by omega) W
      have hc := run_conv_arr (P := Tryz.prog) 76 9 5 Tryz.underlying76 Tryz.underlying5 Tryz.underlying9 10 10 (E ++ [UInt8.ofNat m.toNat]) 81 w
      have hl : (E ++ [UInt8.ofNat m.toNat]).length = k + 1 := by simp [hk]
      rw [hl] at hc
      rw [hd.out] at hc hset
      clear hk hp he hl hlt
      simp only [Int.natCast_add, Int.cast_ofNat_Int] at hs
      go_wp2
      go_ret
      exact ⟨rfl, (Below.refl _ _).alloc (Nat.le_refl _) _⟩

theorem u8_info : (Tryz.prog.info? 5).map (fun i => (i.zero, i.size, i.bytes)) = some (some (.int .u8 0), 1, 1) := by kernel_rfl

def RSmallRel (n : Int) (w : World) (vn vb : Value) (wr : World) : Prop :=
  ∃ (m : Int) (E : List UInt8), vn = .int .u64 m ∧ OwnB wr w.heap.size 5 vb E ∧ Below w.heap.size w wr ∧ E.length ≤ 9 ∧ 0 ≤ m ∧ m < 18446744073709551616 ∧ m.toNat < 128 ^ (10 - E.length) ∧
    Num.small n.toNat = E ++ Num.smallF (9 - E.length) m.toNat

theorem RSmallRel.next {n : Int} {w : World} {m : Int} {E : List UInt8} (hk9 : E.length ≤ 9) (hm0 : 0 ≤ m) (hm : m < 18446744073709551616) (hp : m.toNat < 128 ^ (10 - E.length))
    (he : Num.small n.toNat = E ++ Num.smallF (9 - E.length) m.toNat) (hlt : 127 < m) (v : Value) (wr : World)
    (ho : OwnB wr w.heap.size 5 v (E ++ [UInt8.ofNat (m.toNat % 128 + 128)])) (hb : Below w.heap.size w wr) : RSmallRel n w (.int .u64 (m / 128)) v wr := by
  have hk8 : E.length ≤ 8 := by
    rcases Nat.lt_or_ge E.length 9 with h | h
    · omega
    · have h9 : E.length = 9 := by omega
      rw [h9] at hp
      simp at hp; omega
  have hl : (E ++ [UInt8.ofNat (m.toNat % 128 + 128)]).length = E.length + 1 := by simp
  have hd : (m / 128).toNat = m.toNat / 128 := by omega
  refine ⟨m / 128, _, rfl, ho, hb, by omega, by omega, by omega, ?_, ?_⟩
  · have e : 10 - E.length = 10 - (E.length + 1) + 1 := by omega
    rw [e, Num.p128] at hp
    rw [hl]
    omega
  · have e : 9 - E.length = 9 - (E.length + 1) + 1 := by omega
    rw [he, e, Num.smallF, if_neg (by omega), hl, hd]
    simp

end Go.Proofs.YtgehgjalkponfaaGreatDoor
