/- Files on a machine: what a change makes of bytes; a file's own calls; a number of those that tell what survives. -/
import Derived.Test.YtocfaffiifhggaaSimB
namespace Go.Proofs.Ytocfaffiifhggaa
open Go.RowKit Go.Maps Go.WideMaps
attribute [local go_sem] bs_toList bs_size

set_option maxRecDepth 100000 in
theorem app_to_any (a s : List UInt8) (w : World) (h : s.length + a.length ≤ 9223372036854775807) : Calls Try.prog 100 #[.string (bs a), .string (bs s)] w fun e w' => e = .returned (.string (bs (s ++ a))) ∧ w = w' := by
  have h1 := fun W => run_add_bs (P := Try.prog) s a h W
  go_enter Try.func100, Try.ntmps100
  go_wp2
  go_ret
  exact ⟨rfl, rfl⟩

set_option maxRecDepth 100000 in
theorem app_part_any (a s : List UInt8) (n : Nat) (w : World) (h : s.length + a.length ≤ 1099511627776) (hn : n ≤ 9223372036854775807) :
    Calls Try.prog 99 #[.string (bs a), .string (bs s), .int .i64 (n : Int)] w fun e w' => e = .returned (.string (bs (s ++ a.take (n % (a.length + 1))))) ∧ w = w' := by
  have hlt : n % (a.length + 1) < a.length + 1 := Nat.mod_lt _ (by omega)
  have hx : (bs a).extract 0 (n % (a.length + 1)) = bs (a.take (n % (a.length + 1))) := by rw [bs_extract]; simp
  have h1 := fun W => run_add_bs (P := Try.prog) s (a.take (n % (a.length + 1))) (by simp; omega) W
  have hm : (n : Int).tmod ((a.length : Int) + 1) = ((n % (a.length + 1) : Nat) : Int) := by rw [Int.tmod_eq_emod_of_nonneg (by omega)]; rfl
  generalize n % (a.length + 1) = m at hlt hx h1 hm ⊢
  have hm1 : (m : Int) ≤ (a.length : Int) := by omega
  go_enter Try.func99, Try.ntmps99
  go_wp2
  go_ret
  exact ⟨rfl, rfl⟩

set_option maxRecDepth 100000 in
theorem cut_to_any (n : Nat) (s : List UInt8) (w : World) (h : n ≤ s.length) (_hs : s.length ≤ 1099511627776) : Calls Try.prog 102 #[.int .i64 (n : Int), .string (bs s)] w fun e w' => e = .returned (.string (bs (s.take n))) ∧ w = w' := by
  have hx : (bs s).extract 0 n = bs (s.take n) := by rw [bs_extract]; simp
  have h1 : (n : Int) ≤ (s.length : Int) := by omega
  go_enter Try.func102, Try.ntmps102
  go_wp2
  go_ret
  exact ⟨rfl, rfl⟩

set_option maxRecDepth 100000 in
theorem cut_part_any (n m : Int) (s : List UInt8) (w : World) : Calls Try.prog 101 #[.int .i64 n, .string (bs s), .int .i64 m] w fun e w' => e = .returned (.string (bs s)) ∧ w = w' := by
  go_enter Try.func101, Try.ntmps101
  go_wp2
  go_ret
  exact ⟨rfl, rfl⟩

/-- A file's block. -/
def FileAt (w : World) (g : Nat) (synced now : List UInt8) (ch : Value) : Prop := Blk w g 57 #[.string (bs synced), .string (bs now), ch]
theorem FileAt.c {w : World} {g : Nat} {synced now : List UInt8} {ch : Value} (h : FileAt w g synced now ch) : w.cell? ⟨g, 0, none⟩ = some (.string (bs synced)) ∧ w.cell? ⟨g, 1, none⟩ = some (.string (bs now)) ∧ w.cell? ⟨g, 2, none⟩ = some ch :=
  ⟨(Blk.cell h 0).trans rfl, (Blk.cell h 1).trans rfl, (Blk.cell h 2).trans rfl⟩

set_option maxRecDepth 100000 in
theorem file_sync_any {w : World} {g : Nat} {synced now : List UInt8} {ch : Value} (h : FileAt w g synced now ch) :
    Calls Try.prog 58 #[.pointer (some ⟨g, 0, none⟩)] w fun e w' => e = .returned (.tuple #[]) ∧ FileAt w' g now now (.slice none 0 0) ∧ w.grownBy w' (some g) := by
  obtain ⟨c0, c1, c2⟩ := h.c
  have f0 := Blk.frozen h 0
  have f2 := Blk.frozen h 2
  have hP := Lib.hid ((Blk.set_ h 0 (.string (bs now))).set_ 2 (.slice none 0 0))
  go_enter Try.func58, Try.ntmps58
  go_wp2
  go_end0
  exact ⟨rfl, hP.out, grown_trans' (grown_set _ _ _ _) (grown_set _ _ _ _)⟩

/-- A list of numbers in memory. -/
def KeepAt (w : World) (v : Value) (ks : List Int) : Prop := ∃ (sa : Option Addr) (sc : Nat), v = .slice sa ks.length sc ∧ ks.length ≤ maxLen ∧ ∀ i x, ks[i]? = some x → ∃ (b o : Nat), sa = some ⟨b, o, none⟩ ∧ w.cell? ⟨b, o + i, none⟩ = some (.int .i64 x) ∧ -9223372036854775808 ≤ x ∧ x ≤ 9223372036854775807
/-- One of the numbers that tell what survives. -/
def absN (x : Int) : Nat := if x = -9223372036854775808 then 0 else x.natAbs
def keptN (ks : List Int) (i : Nat) : Nat := if ks.length = 0 then 0 else absN (ks.getD (i % ks.length) 0)
theorem absN_le (x : Int) (h1 : -9223372036854775808 ≤ x) (h2 : x ≤ 9223372036854775807) : absN x ≤ 9223372036854775807 := by
  unfold absN
  split
  · omega
  · omega
theorem KeepAt.le {w : World} {v : Value} {ks : List Int} (h : KeepAt w v ks) (i : Nat) : keptN ks i ≤ 9223372036854775807 := by
  obtain ⟨sa, sc, _, _, hc⟩ := h
  unfold keptN
  split
  · omega
  · rename_i h0
    have hlt : i % ks.length < ks.length := Nat.mod_lt _ (by omega)
    obtain ⟨_, _, _, _, h1, h2⟩ := hc (i % ks.length) _ (List.getElem?_eq_getElem hlt)
    rw [List.getD_eq_getElem?_getD, List.getElem?_eq_getElem hlt]
    exact absN_le _ h1 h2

theorem wrap64_neg (x : Int) (h1 : -9223372036854775808 < x) (h2 : x ≤ 9223372036854775807) : wrap64 (-x) = -x := by
  unfold wrap64
  omega

set_option maxRecDepth 100000 in
theorem kept_any (v : Value) (ks : List Int) (i : Nat) (w : World) (h : KeepAt w v ks) (hi : i ≤ 1099511627776) :
    Calls Try.prog 45 #[v, .int .i64 (i : Int)] w fun e w' => e = .returned (.int .i64 (keptN ks i : Nat)) ∧ w = w' := by
  obtain ⟨sa, sc, rfl, hl, hc⟩ := h
  unfold maxLen at hl
  unfold keptN
  by_cases h0 : ks.length = 0
  · rw [if_pos h0]
    rw [h0]
    go_enter Try.func45, Try.ntmps45
    go_wp2
    go_ret
    exact ⟨rfl, rfl⟩
  · rw [if_neg h0]
    have hlt : i % ks.length < ks.length := Nat.mod_lt _ (by omega)
    obtain ⟨b, o, rfl, hx, x1, x2⟩ := hc (i % ks.length) _ (List.getElem?_eq_getElem hlt)
    rw [List.getD_eq_getElem?_getD, List.getElem?_eq_getElem hlt, Option.getD_some]
    have hm : (i : Int).tmod (ks.length : Int) = ((i % ks.length : Nat) : Int) := by rw [Int.tmod_eq_emod_of_nonneg (by omega)]; rfl
    have hne : (((ks.length : Nat) : Int) == 0) = false := by simp; intro e; simp [e] at h0
    generalize ks[i % ks.length] = x at *
    generalize i % ks.length = m at hx hm hlt
    generalize ks.length = n at *
    have hltI : (m : Int) < (n : Int) := by omega
    clear hc
    by_cases hmin : x = -9223372036854775808
    · subst hmin
      have hw : wrap64 9223372036854775808 = -9223372036854775808 := by unfold wrap64; omega
      go_enter Try.func45, Try.ntmps45
      go_wp2
      all_goals
        go_ret
        exact ⟨rfl, rfl⟩
    · have hw := wrap64_neg x (by omega) x2
      have ha : absN x = x.natAbs := by unfold absN; rw [if_neg hmin]
      rw [ha]
      rcases (show (0 ≤ x ∧ (x.natAbs : Int) = x) ∨ (x < 0 ∧ (x.natAbs : Int) = -x) by omega) with ⟨hs, he⟩ | ⟨hs, he⟩
      all_goals
        rw [he]
        clear ha he
        go_enter Try.func45, Try.ntmps45
        go_wp2
        all_goals
          go_ret
          refine ⟨?_, rfl⟩
          first | rfl | (congr 2; omega)
end Go.Proofs.Ytocfaffiifhggaa
