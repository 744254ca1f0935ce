/- The law WalFuture: the walk. -/
import Derived.Test.YtipdeiiipdnacaaGL
namespace Go.Proofs.Ytipdeiiipdnacaa
open Go.RowKit Go.Maps Go.WideMaps
attribute [local go_sem] bs_toList bs_size

theorem readLoop_len (g : Int) : ∀ (q : Nat) (K : List (List UInt8)) (s : List UInt8) (l : List Rc) (K' : List (List UInt8)) (r : List UInt8) (t : Bool), readLoop g q K s = some (l, K', r, t) → r.length ≤ s.length
  | 0, K, s, l, K', r, t, h => by
    obtain ⟨_, h2⟩ := Prod.mk.inj (Option.some.inj h)
    obtain ⟨_, h3⟩ := Prod.mk.inj h2
    obtain ⟨rfl, _⟩ := Prod.mk.inj h3
    exact Nat.le_refl _
  | q + 1, K, s, l, K', r, t, h => by
    unfold readLoop at h
    split at h
    · obtain ⟨_, h2⟩ := Prod.mk.inj (Option.some.inj h)
      obtain ⟨_, h3⟩ := Prod.mk.inj h2
      obtain ⟨rfl, _⟩ := Prod.mk.inj h3
      exact Nat.le_refl _
    · split at h
      · split at h
        · cases h
        · obtain ⟨_, h2⟩ := Prod.mk.inj (Option.some.inj h)
          obtain ⟨_, h3⟩ := Prod.mk.inj h2
          obtain ⟨rfl, _⟩ := Prod.mk.inj h3
          exact Nat.le_refl _
      · rename_i l1 K1 r1 e1 hg
        have hc := getBy_cons _ _ _ _ _ _ _ hg
        split at h
        · cases h
        · rename_i l2 K2 r2 t2 hr
          have ih := readLoop_len g q K1 r1 l2 K2 r2 t2 hr
          obtain ⟨_, h2⟩ := Prod.mk.inj (Option.some.inj h)
          obtain ⟨_, h3⟩ := Prod.mk.inj h2
          obtain ⟨rfl, _⟩ := Prod.mk.inj h3
          omega
theorem walRead_ok (s : List UInt8) (x : Sg) (e : Int) (h : walRead s = (some x, e)) : 1 ≤ x.gen ∧ x.gen ≤ 3 ∧ 0 ≤ x.flags ∧ x.flags ≤ 3 ∧ 10 ≤ x.used ∧ x.used ≤ s.length := by
  unfold walRead at h
  have hg := openB_gen s
  rcases ho : openB s magicB with ⟨g, f, r, er⟩
  rw [ho] at h hg
  simp only at h hg
  by_cases he : er = 0
  · rw [if_neg (by simp [he])] at h
    obtain ⟨h1, h2, h3, h4, h5⟩ := hg he
    cases hr : readLoop g r.length [] r with
    | none => rw [hr] at h; cases h
    | some z =>
      obtain ⟨l, K, r2, t⟩ := z
      rw [hr] at h
      obtain ⟨hx, _⟩ := Prod.mk.inj h
      have hx := Option.some.inj hx
      subst hx
      have := readLoop_len _ _ _ _ _ _ _ _ hr
      have hl : r.length + 10 = s.length := by rw [h4, List.length_drop]; omega
      refine ⟨?_, ?_, ?_, ?_, ?_, ?_⟩ <;> simp only <;> omega
  · rw [if_pos he] at h
    cases h
theorem walRead_bad (s : List UInt8) (e : Int) (h : walRead s = (none, e)) : e = 9 ∨ e = 10 := by
  unfold walRead at h
  have hg := openB_err s
  rcases ho : openB s magicB with ⟨g, f, r, er⟩
  rw [ho] at h hg
  simp only at h hg
  by_cases he : er = 0
  · rw [if_neg (by simp [he])] at h
    cases hr : readLoop g r.length [] r with
    | none => rw [hr] at h; exact .inl (Prod.mk.inj h).2.symm
    | some z => rw [hr] at h; cases h
  · rw [if_pos he] at h
    obtain ⟨_, rfl⟩ := Prod.mk.inj h
    exact hg.resolve_left he

set_option maxRecDepth 100000 in
set_option maxHeartbeats 4000000 in
theorem WalFuture_walk (s : List UInt8) (W : World) (_h1 : s.length ≤ maxLen) :
    Calls Try.prog 3 #[.string (bs s)] W fun e w' => e = .returned (.bool true) ∧ Below W.heap.size W w' := by
  have q0 := Lib.hid (works_any W)
  go_enter Try.func3, Try.ntmps3
  go_wp2_with fail
  refine q0.out.mono ?_
  rintro e W1 ⟨rfl, b1⟩
  by_cases hl : 4000 < s.length
  · have hd : decide ((4000 : Int) < (s.length : Int)) = true := by simp; omega
    have hd' : decide (4000 < s.length) = true := by simpa using hl
    go_wp2
    go_ret
    exact ⟨rfl, b1⟩
  have hd : decide ((4000 : Int) < (s.length : Int)) = false := by simp; omega
  have hd' : decide (4000 < s.length) = false := by simpa using hl
  have qR := Lib.hid (Read_any s W1 (by omega))
  clear q0
  go_wp2_with fail
  refine qR.out.mono ?_
  rintro e W2 ⟨hR, b2⟩
  have B2 := b1.trans (b2.mono b1.size)
  unfold ReadIs at hR
  have hok := walRead_ok s
  have hbad := walRead_bad s
  rcases hw : walRead s with ⟨o, er⟩
  rw [hw] at hR hok hbad
  clear b1 b2 qR hw
  cases o with
  | none =>
    have he := hbad er rfl
    subst hR
    have hB := Lib.hid (B2.alloc B2.size (.cells #[.int .i64 0, .slice none 0 0, .int .i64 0, .bool false, .int .i64 0, .slice none 0 0] 28))
    have k := Blk.new W2 28 #[.int .i64 0, .slice none 0 0, .int .i64 0, .bool false, .int .i64 0, .slice none 0 0]
    obtain ⟨⟨c0, c1, c2, c3, c4, c5⟩, _⟩ := cells6 k
    clear hok hbad k B2
    rcases he with rfl | rfl
    · go_wp2
      go_ret
      exact ⟨rfl, hB.out⟩
    · go_wp2
      go_ret
      exact ⟨rfl, hB.out⟩
  | some x =>
    obtain ⟨g1, g2, g3, g4, g5, g6⟩ := hok x er rfl
    obtain ⟨rv, kv, rfl, ⟨a, c, rfl, _⟩, ⟨a2, c2, rfl, _⟩⟩ := hR
    obtain ⟨g, f, R, K, u, t⟩ := x
    simp only at g1 g2 g3 g4 g5 g6
    have hB := Lib.hid (B2.alloc B2.size (.cells #[.int .i64 f, .slice a R.length c, .int .i64 u, .bool t, .int .i64 g, .slice a2 K.length c2] 28))
    have k := Blk.new W2 28 #[.int .i64 f, .slice a R.length c, .int .i64 u, .bool t, .int .i64 g, .slice a2 K.length c2]
    obtain ⟨⟨c0, c1, c2, c3, c4, c5⟩, _⟩ := cells6 k
    have e1 : decide (1 ≤ g) = true := by simpa using g1
    have e2 : decide (g ≤ 3) = true := by simpa using g2
    have e3 : decide (u ≤ (s.length : Int)) = true := by simpa using g6
    have e4 : decide (10 ≤ u) = true := by simpa using g5
    have e5 : decide (f ≤ 3) = true := by simpa using g4
    clear hok hbad k B2
    go_wp2
    go_ret
    exact ⟨rfl, hB.out⟩
end Go.Proofs.Ytipdeiiipdnacaa
