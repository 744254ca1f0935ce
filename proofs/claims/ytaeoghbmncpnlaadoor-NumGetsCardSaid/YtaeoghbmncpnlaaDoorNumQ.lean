/- The walks of the reference's GetText and GetFixed. -/
import Derived.Test.YtaeoghbmncpnlaaDoorNumP
import Derived.Test.YtaeoghbmncpnlaaDoorNumPlainB
namespace Go.Proofs.YtaeoghbmncpnlaaDoor
namespace Num
theorem szN_szN (k : Int) : szN (szN k : Int) = szN k := by unfold szN szI; omega
theorem fixed_clamp (t : List UInt8) (k : Int) : fixed t (szN k : Int) = fixed t k := by unfold fixed; rw [szN_szN]
theorem getFixed_iff (l : List UInt8) (k : Int) (b : UInt8) (hb : l[szN k]? = some b) (hle : b.toNat ≤ szN k) :
    (fixed (l.take b.toNat) k = l.take (szN k + 1) ∧ getFixed l k = some (l.take b.toNat, szN k + 1)) ∨ (fixed (l.take b.toNat) k ≠ l.take (szN k + 1) ∧ getFixed l k = none) := by
  by_cases h : fixed (l.take b.toNat) k = l.take (szN k + 1)
  · left
    refine ⟨h, ?_⟩
    have := getFixed_fixed (l.take b.toNat) k (l.drop (szN k + 1))
    rw [h, List.take_append_drop, List.take_take, Nat.min_eq_right hle] at this
    exact this
  · right
    refine ⟨h, ?_⟩
    cases hg : getFixed l k with
    | none => rfl
    | some x =>
      exfalso
      obtain ⟨t, j⟩ := x
      have h2 := getFixed_only l k t j hg
      unfold getFixed at hg
      rw [hb] at hg
      simp only [] at hg
      split at hg
      · cases hg
      · simp only [Option.some.injEq, Prod.mk.injEq] at hg
        obtain ⟨rfl, rfl⟩ := hg
        apply h
        have hl := fixed_len (l.take b.toNat) k
        conv => rhs; rw [h2]
        rw [List.take_append_of_le_length (by omega)]
        exact (List.take_of_length_le (by omega)).symm
theorem getFixed_gt (l : List UInt8) (k : Int) (b : UInt8) (hb : l[szN k]? = some b) (hle : szN k < b.toNat) : getFixed l k = none := by
  unfold getFixed
  rw [hb]
  simp only []
  rw [if_pos (.inl hle)]
end Num
open Go.RowKit
attribute [local go_sem] bs_toList bs_size

set_option maxRecDepth 100000 in
set_option maxHeartbeats 1000000 in
theorem ref_GetText_any (l : List UInt8) (m : Int) (w : World) (hl : l.length ≤ 1099511627776) (hm1 : -9223372036854775808 ≤ m) (hm2 : m ≤ 9223372036854775807) :
    Calls Tryd.prog 28 #[.string (bs l), .int .i64 m] w fun e w' => e = .returned (refS l (Num.getText l m)) ∧ Below w.heap.size w w' := by
  have q := Lib.hid (fun W => ref_GetSmall_any l W hl)
  cases hg : Num.getSmall l with
  | none =>
    have HG : Hid (Num.getText l m = none) := by show _ = _; unfold Num.getText; rw [hg]
    rw [hg] at q
    go_enter Tryd.func28, Tryd.ntmps28
    go_wp2_with fail
    refine (q.out _).mono ?_; rintro e w1 ⟨rfl, b1⟩
    unfold refN
    go_wp2
    go_ret3
    exact ⟨by rw [HG.out]; rfl, b1⟩
  | some x =>
    obtain ⟨n, k⟩ := x
    rw [hg] at q
    obtain ⟨hn, hk, hsplit⟩ := Num.getSmall_only l n k hg
    have hkl : k ≤ l.length := by
      have := congrArg List.length hsplit
      rw [List.length_append] at this; omega
    have hT : Num.getText l m = if m < 0 ∨ l.length - k < n ∨ m.toNat < n then none else some ((l.drop k).take n, k + n) := by unfold Num.getText; rw [hg]
    have hdd : l.drop (k + n) = (l.drop k).drop n := by rw [List.drop_drop]
    have hrl : (l.drop k).length = l.length - k := by simp
    have hw1 : IntKind.u64.wrap ((l.length - k : Nat) : Int) = ((l.length - k : Nat) : Int) := by simp [IntKind.wrap, IntKind.bits, IntKind.signed]; omega
    unfold refN at q
    simp only [] at q
    rw [← hrl] at hw1 hT
    have hRl : (l.drop k).length ≤ 1099511627776 := by omega
    clear hsplit hk hrl
    generalize l.drop k = R at *
    have hrs := bs_size R
    have hx : (bs R).extract 0 n = bs (R.take n) := by rw [bs_extract]; simp
    have hx2 : (bs R).extract n R.length = bs (R.drop n) := by rw [bs_extract, List.take_of_length_le (by simp)]
    by_cases c1 : R.length < n
    · have HG : Hid (Num.getText l m = none) := by show _ = _; rw [hT, if_pos (.inr (.inl c1))]
      have c1I : (R.length : Int) < (n : Int) := by omega
      clear hT hg
      go_enter Tryd.func28, Tryd.ntmps28
      go_wp2_with fail
      refine (q.out _).mono ?_; rintro e w1 ⟨rfl, b1⟩
      go_wp2
      go_ret3
      exact ⟨by rw [HG.out]; rfl, b1⟩
    have c1I : ¬ (R.length : Int) < (n : Int) := by omega
    by_cases c2 : m < 0
    · have HG : Hid (Num.getText l m = none) := by show _ = _; rw [hT, if_pos (.inl c2)]
      clear hT hg
      go_enter Tryd.func28, Tryd.ntmps28
      go_wp2_with fail
      refine (q.out _).mono ?_; rintro e w1 ⟨rfl, b1⟩
      go_wp2
      go_ret3
      exact ⟨by rw [HG.out]; rfl, b1⟩
    obtain ⟨M, rfl⟩ := Int.eq_ofNat_of_zero_le (show 0 ≤ m by omega)
    have hwm : IntKind.u64.wrap (M : Int) = (M : Int) := by simp [IntKind.wrap, IntKind.bits, IntKind.signed]; omega
    by_cases c3 : M < n
    · have HG : Hid (Num.getText l M = none) := by show _ = _; rw [hT, if_pos (.inr (.inr (by omega)))]
      have c3I : (M : Int) < (n : Int) := by omega
      clear hT hg
      go_enter Tryd.func28, Tryd.ntmps28
      go_wp2_with fail
      refine (q.out _).mono ?_; rintro e w1 ⟨rfl, b1⟩
      go_wp2
      go_ret3
      exact ⟨by rw [HG.out]; rfl, b1⟩
    · have HG : Hid (Num.getText l M = some (R.take n, k + n)) := by show _ = _; rw [hT, if_neg (by omega)]
      have c3I : ¬ (M : Int) < (n : Int) := by omega
      have hwn : IntKind.i64.wrap (n : Int) = (n : Int) := by rw [IntKind.wrap_i64]; omega
      clear hT hg
      go_enter Tryd.func28, Tryd.ntmps28
      go_wp2_with fail
      refine (q.out _).mono ?_; rintro e w1 ⟨rfl, b1⟩
      go_wp2
      go_quiet (fail)
      go_wp2
      go_ret3
      exact ⟨by rw [HG.out]; unfold refS; simp only []; rw [hdd]; rfl, below_drewN b1 _⟩

set_option maxRecDepth 100000 in
set_option maxHeartbeats 1000000 in
theorem ref_GetFixed_any (l : List UInt8) (k : Int) (w : World) (hl : l.length ≤ 1099511627776) :
    Calls Tryd.prog 30 #[.string (bs l), .int .i64 k] w fun e w' => e = .returned (refS l (Num.getFixed l k)) ∧ Below w.heap.size w w' := by
  have hz := bs_size l
  have hN := Num.szN_le k
  have hNI : min (max k 0) 255 = ((Num.szN k : Nat) : Int) := by unfold Num.szN Num.szI; omega
  by_cases c1 : l.length < Num.szN k + 1
  · have HG : Hid (Num.getFixed l k = none) := by show _ = _; unfold Num.getFixed; rw [List.getElem?_eq_none (by omega)]
    have c1I : (l.length : Int) < ((Num.szN k : Nat) : Int) + 1 := by omega
    generalize Num.szN k = N at *
    go_enter Tryd.func30, Tryd.ntmps30
    go_wp2
    go_ret3
    exact ⟨by rw [HG.out]; rfl, Below.refl _ _⟩
  · obtain ⟨b, hb⟩ : ∃ b, l[Num.szN k]? = some b := ⟨l[Num.szN k]'(by omega), List.getElem?_eq_getElem (by omega)⟩
    have hbl : b.toNat < 256 := UInt8.toNat_lt b
    have hix := fun kk W => run_index_bs (P := Tryd.prog) 9 Tryd.underlying9 l (Num.szN k) b hb kk W
    have c1I : ¬ (l.length : Int) < ((Num.szN k : Nat) : Int) + 1 := by omega
    by_cases c2 : Num.szN k < b.toNat
    · have HG : Hid (Num.getFixed l k = none) := Num.getFixed_gt l k b hb c2
      have c2I : ((Num.szN k : Nat) : Int) < (b.toNat : Int) := by omega
      clear hb
      generalize Num.szN k = N at *
      go_enter Tryd.func30, Tryd.ntmps30
      go_wp2
      refine wp_region_grown (by kernel_rfl) (by kernel_rfl) ?_
      repeat (go_big_quiet_step (fail))
      refine wpQuiet_nil ?_
      rintro _ ⟨x, rfl⟩
      go_wp2
      go_ret3
      exact ⟨by rw [HG.out]; rfl, x.below⟩
    · have c2I : ¬ ((Num.szN k : Nat) : Int) < (b.toNat : Int) := by omega
      have hiff := Num.getFixed_iff l k b hb (by omega)
      have q := Lib.hid (fun W => ref_Fixed_any (l.take b.toNat) ((Num.szN k : Nat) : Int) W (by simp; omega) (by omega) (by omega))
      rw [Num.fixed_clamp] at q
      have hx : (bs l).extract 0 b.toNat = bs (l.take b.toNat) := by rw [bs_extract]; simp
      have hx1 : (bs l).extract 0 (Num.szN k + 1) = bs (l.take (Num.szN k + 1)) := by rw [bs_extract]; simp
      have hx2 : (bs l).extract (Num.szN k + 1) l.length = bs (l.drop (Num.szN k + 1)) := by rw [bs_extract, List.take_of_length_le (by simp)]
      clear hb
      generalize Num.fixed (l.take b.toNat) k = F at hiff q
      rcases hiff with ⟨he, hg⟩ | ⟨hne, hg⟩
      · have HG := Lib.hid hg
        clear hg
        rw [← he] at hx1
        clear he
        generalize Num.szN k = N at *
        go_enter Tryd.func30, Tryd.ntmps30
        go_wp2
        refine wp_region_grown (by kernel_rfl) (by kernel_rfl) ?_
        repeat (go_big_quiet_step ((go_at_call 18; exact Calls.grown_of (q.out _))))
        refine wpQuiet_nil ?_
        rintro _ ⟨x, rfl⟩
        go_wp2
        go_quiet (fail)
        go_wp2
        go_ret3
        exact ⟨by rw [HG.out]; rfl, below_drewN x.below _⟩
      · have HG := Lib.hid hg
        clear hg
        generalize l.take (Num.szN k + 1) = F2 at hne hx1
        have hneb : (F == F2) = false := by simpa using hne
        generalize Num.szN k = N at *
        go_enter Tryd.func30, Tryd.ntmps30
        go_wp2
        refine wp_region_grown (by kernel_rfl) (by kernel_rfl) ?_
        repeat (go_big_quiet_step ((go_at_call 18; exact Calls.grown_of (q.out _))))
        refine wpQuiet_nil ?_
        rintro _ ⟨x, rfl⟩
        go_wp2
        go_ret3
        exact ⟨by rw [HG.out]; rfl, x.below⟩
end Go.Proofs.YtaeoghbmncpnlaaDoor
