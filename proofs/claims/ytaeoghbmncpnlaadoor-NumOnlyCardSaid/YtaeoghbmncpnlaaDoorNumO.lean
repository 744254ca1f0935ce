/- The walk of the law NumOnly. -/
import Derived.Test.YtaeoghbmncpnlaaDoorNumM
import Derived.Test.YtaeoghbmncpnlaaDoorNumPlainB
import Derived.Test.YtaeoghbmncpnlaaDoorQuiet
namespace Go.Proofs.YtaeoghbmncpnlaaDoor
open Go.RowKit
attribute [local go_sem] bs_toList bs_size

theorem Cur.newAt2 (w : World) (o o' : Obj) (s : List UInt8) (bad : Bool) : Cur (((w.alloc o).alloc o').alloc (.cells #[.string (bs s), .bool bad] 32)) (w.heap.size + 1 + 1) s bad := by
  have := Blk.new ((w.alloc o).alloc o') 32 #[.string (bs s), .bool bad]
  rwa [World.size_alloc, World.size_alloc] at this
theorem Cur.newAt3 (w : World) (o o' o2 : Obj) (s : List UInt8) (bad : Bool) : Cur ((((w.alloc o).alloc o').alloc o2).alloc (.cells #[.string (bs s), .bool bad] 32)) (w.heap.size + 1 + 1 + 1) s bad := by
  have := Blk.new (((w.alloc o).alloc o').alloc o2) 32 #[.string (bs s), .bool bad]
  rwa [World.size_alloc, World.size_alloc, World.size_alloc] at this

/-- A call that takes, of whatever it takes. -/
theorem CSmall_gen (g : Nat) (s : List UInt8) (w : World) (hB : Cur w g s false) (hs : s.length ≤ 1099511627776) :
    Calls Tryd.prog 23 #[.pointer (some ⟨g, 0, none⟩)] w fun e w' => ∃ (v : Int) (r : List UInt8) (bad : Bool), e = .returned (.int .u64 v) ∧ Cur w' g r bad ∧ w.grownBy w' (some g) ∧ r.length ≤ s.length ∧ 0 ≤ v ∧ v < 18446744073709551616 ∧ (bad = false → Num.small v.toNat ++ r = s) := by
  refine (CSmall g s false w hB hs).mono ?_
  rintro e w' ⟨rfl, h1, h2⟩
  cases hg : Num.getSmall s with
  | none => rw [hg] at h1; exact ⟨0, s, true, rfl, h1, h2, by omega, by omega, by omega, by simp⟩
  | some x =>
    obtain ⟨v, k⟩ := x
    rw [hg] at h1
    obtain ⟨h3, h4, h5⟩ := Num.getSmall_only s v k hg
    exact ⟨v, s.drop k, false, rfl, h1, h2, by simp, by omega, by omega, fun _ => by rw [Int.toNat_natCast]; exact h5.symm⟩
theorem CWide_gen (g : Nat) (s : List UInt8) (w : World) (hB : Cur w g s false) (hs : s.length ≤ 1099511627776) :
    Calls Tryd.prog 25 #[.pointer (some ⟨g, 0, none⟩)] w fun e w' => ∃ (v : Int) (r : List UInt8) (bad : Bool), e = .returned (.int .u64 v) ∧ Cur w' g r bad ∧ w.grownBy w' (some g) ∧ r.length ≤ s.length ∧ 0 ≤ v ∧ v < 18446744073709551616 ∧ (bad = false → Num.wide v.toNat ++ r = s) := by
  refine (CWide g s false w hB hs).mono ?_
  rintro e w' ⟨rfl, h1, h2⟩
  cases hg : Num.getWide s with
  | none => rw [hg] at h1; exact ⟨0, s, true, rfl, h1, h2, by omega, by omega, by omega, by simp⟩
  | some x =>
    obtain ⟨v, k⟩ := x
    rw [hg] at h1
    obtain ⟨h3, rfl, h5⟩ := Num.getWide_only s v k hg
    exact ⟨v, s.drop 8, false, rfl, h1, h2, by simp, by omega, by omega, fun _ => by rw [Int.toNat_natCast]; exact h5.symm⟩
theorem CText_gen (g : Nat) (s : List UInt8) (n : Int) (w : World) (hB : Cur w g s false) (hs : s.length ≤ 1099511627776) (h1 : -9223372036854775808 ≤ n) (h2 : n ≤ 9223372036854775807) :
    Calls Tryd.prog 27 #[.pointer (some ⟨g, 0, none⟩), .int .i64 n] w fun e w' => ∃ (v r : List UInt8) (bad : Bool), e = .returned (.string (bs v)) ∧ Cur w' g r bad ∧ w.grownBy w' (some g) ∧ r.length ≤ s.length ∧ v.length ≤ s.length ∧ (bad = false → Num.text v ++ r = s ∧ (v.length : Int) ≤ n) := by
  refine (CText g s false n w hB hs h1 h2).mono ?_
  rintro e w' ⟨rfl, h1, h2⟩
  cases hg : Num.getText s n with
  | none => rw [hg] at h1; exact ⟨[], s, true, rfl, h1, h2, by omega, by simp, by simp⟩
  | some x =>
    obtain ⟨v, k⟩ := x
    rw [hg] at h1
    obtain ⟨h4, h5⟩ := Num.getText_only s n v k hg
    have hl := congrArg List.length h5
    rw [List.length_append, Num.text_len] at hl
    exact ⟨v, s.drop k, false, rfl, h1, h2, by simp, by omega, fun _ => ⟨h5.symm, h4⟩⟩
theorem CFixed_gen (g : Nat) (s : List UInt8) (n : Int) (w : World) (hB : Cur w g s false) (hs : s.length ≤ 1099511627776) (h1 : -9223372036854775808 ≤ n) (h2 : n ≤ 9223372036854775807) :
    Calls Tryd.prog 29 #[.pointer (some ⟨g, 0, none⟩), .int .i64 n] w fun e w' => ∃ (v r : List UInt8) (bad : Bool), e = .returned (.string (bs v)) ∧ Cur w' g r bad ∧ w.grownBy w' (some g) ∧ r.length ≤ s.length ∧ v.length ≤ s.length ∧ (bad = false → Num.fixed v n ++ r = s) := by
  refine (CFixed g s false n w hB hs h1 h2).mono ?_
  rintro e w' ⟨rfl, h1, h2⟩
  cases hg : Num.getFixed s n with
  | none => rw [hg] at h1; exact ⟨[], s, true, rfl, h1, h2, by omega, by simp, by simp⟩
  | some x =>
    obtain ⟨v, k⟩ := x
    rw [hg] at h1
    have h5 := Num.getFixed_only s n v k hg
    refine ⟨v, s.drop k, false, rfl, h1, h2, by simp, ?_, fun _ => h5.symm⟩
    unfold Num.getFixed at hg
    cases hq : s[Num.szN n]? with
    | none => rw [hq] at hg; cases hg
    | some b =>
      rw [hq] at hg
      simp only [] at hg
      split at hg
      · cases hg
      · simp only [Option.some.injEq, Prod.mk.injEq] at hg
        rw [← hg.1]; simp; omega

set_option maxRecDepth 100000 in
set_option maxHeartbeats 4000000 in
theorem NumOnly_walk (s : List UInt8) (k : Int) (w : World) (h1 : s.length ≤ maxLen) (h2 : -9223372036854775808 ≤ k) (h3 : k ≤ 9223372036854775807) :
    Calls Tryd.prog 6 #[.string (bs s), .int .i64 k] w fun e w' => e = .returned (.bool true) ∧ Below w.heap.size w w' := by
  unfold maxLen at h1
  by_cases hbig : 300 < s.length
  · go_enter Tryd.func6, Tryd.ntmps6
    go_wp2_with (go_at_call 10; refine (works_any _).mono ?_; rintro e w1 ⟨rfl, b1⟩)
    go_ret
    exact ⟨rfl, b1⟩
  · have hs : s.length ≤ 1099511627776 := by omega
    have hs3 : s.length ≤ 300 := by omega
    go_enter Tryd.func6, Tryd.ntmps6
    go_wp2_with fail
    refine (works_any _).mono ?_; rintro e w1 ⟨rfl, b1⟩
    go_wp2_with fail
    have ob : ∃ ob, ob = Obj.cells #[Value.string (bs s), Value.bool false] 32 := ⟨_, rfl⟩
    obtain ⟨ob, hob⟩ := ob
    have ka := (((Cur.new w1 s false).alloc ob).alloc ob).alloc ob
    have kb := ((Cur.newAt w1 ob s false).alloc ob).alloc ob
    have kc := (Cur.newAt2 w1 ob ob s false).alloc ob
    have kd := Cur.newAt3 w1 ob ob ob s false
    rw [← hob] at ka kb kc kd ⊢
    have hx := b1.size
    have hb0 : Below w.heap.size w ((((w1.alloc ob).alloc ob).alloc ob).alloc ob) :=
      (((b1.alloc hx ob).alloc (by simp; omega) ob).alloc (by simp; omega) ob).alloc (by simp; omega) ob
    generalize hW0 : (((w1.alloc ob).alloc ob).alloc ob).alloc ob = W0 at ka kb kc kd hb0 ⊢
    clear hW0 hob
    generalize w1.heap.size = G at ka kb kc kd hx ⊢
    refine (CSmall_gen _ s _ ka hs).mono ?_; rintro e w2 ⟨va, ra, ba, rfl, ka, g2, la, va0, va1, ea⟩
    replace kb := kb.grown g2 (by simp <;> omega)
    replace kc := kc.grown g2 (by simp <;> omega)
    replace kd := kd.grown g2 (by simp <;> omega)
    have hb1 := hb0.grown g2 hb0.size (by intro k hk; cases hk; omega)
    clear hb0 g2
    have Ha := Lib.hid ea; clear ea
    go_wp2_with fail
    refine (CWide_gen _ s _ kb hs).mono ?_; rintro e w3 ⟨vb, rb, bb, rfl, kb, g2, lb, vb0, vb1, eb⟩
    replace ka := ka.grown g2 (by simp <;> omega)
    replace kc := kc.grown g2 (by simp <;> omega)
    replace kd := kd.grown g2 (by simp <;> omega)
    have hb2 := hb1.grown g2 hb1.size (by intro k hk; cases hk; omega)
    clear hb1 g2
    have Hb := Lib.hid eb; clear eb
    go_wp2_with fail
    refine (CText_gen _ s k _ kc hs h2 h3).mono ?_; rintro e w4 ⟨vc, rc, bc, rfl, kc, g2, lc, lvc, ec⟩
    replace ka := ka.grown g2 (by simp <;> omega)
    replace kb := kb.grown g2 (by simp <;> omega)
    replace kd := kd.grown g2 (by simp <;> omega)
    have hb3 := hb2.grown g2 hb2.size (by intro k hk; cases hk; omega)
    clear hb2 g2
    have Hc := Lib.hid ec; clear ec
    go_wp2_with fail
    refine (CFixed_gen _ s k _ kd hs h2 h3).mono ?_; rintro e w5 ⟨vd, rd, bd, rfl, kd, g2, ld, lvd, ed⟩
    replace ka := ka.grown g2 (by simp <;> omega)
    replace kb := kb.grown g2 (by simp <;> omega)
    replace kc := kc.grown g2 (by simp <;> omega)
    have hb4 := hb3.grown g2 hb3.size (by intro k hk; cases hk; omega)
    clear hb3 g2
    have Hd := Lib.hid ed; clear ed
    go_wp2_with fail
    have ca0 : ∀ x : GW w5, x.w.cell? ⟨G, 0, none⟩ = some (.string (bs ra)) := fun x => x.cell ka.c0
    have ca1 : ∀ x : GW w5, x.w.cell? ⟨G, 1, none⟩ = some (.bool ba) := fun x => x.cell ka.c1
    have cb0 : ∀ x : GW w5, x.w.cell? ⟨G + 1, 0, none⟩ = some (.string (bs rb)) := fun x => x.cell kb.c0
    have cb1 : ∀ x : GW w5, x.w.cell? ⟨G + 1, 1, none⟩ = some (.bool bb) := fun x => x.cell kb.c1
    have cc0 : ∀ x : GW w5, x.w.cell? ⟨G + 1 + 1, 0, none⟩ = some (.string (bs rc)) := fun x => x.cell kc.c0
    have cc1 : ∀ x : GW w5, x.w.cell? ⟨G + 1 + 1, 1, none⟩ = some (.bool bc) := fun x => x.cell kc.c1
    have cd0 : ∀ x : GW w5, x.w.cell? ⟨G + 1 + 1 + 1, 0, none⟩ = some (.string (bs rd)) := fun x => x.cell kd.c0
    have cd1 : ∀ x : GW w5, x.w.cell? ⟨G + 1 + 1 + 1, 1, none⟩ = some (.bool bd) := fun x => x.cell kd.c1
    have ra1 : ∀ W, ba = false → (Op.stringOp .add (bs (Num.small va.toNat)) (bs ra)).run Tryd.prog W = .ok (.string (bs s)) W := fun W h => by
      have he := Ha.out h
      have := run_add_bs (P := Tryd.prog) (Num.small va.toNat) ra (by rw [← List.length_append, he]; omega) W
      rwa [he] at this
    have ra2 : ∀ W, bb = false → (Op.stringOp .add (bs (Num.wide vb.toNat)) (bs rb)).run Tryd.prog W = .ok (.string (bs s)) W := fun W h => by
      have he := Hb.out h
      have := run_add_bs (P := Tryd.prog) (Num.wide vb.toNat) rb (by rw [← List.length_append, he]; omega) W
      rwa [he] at this
    have ra3 : ∀ W, bc = false → (Op.stringOp .add (bs (Num.text vc)) (bs rc)).run Tryd.prog W = .ok (.string (bs s)) W := fun W h => by
      have he := (Hc.out h).1
      have := run_add_bs (P := Tryd.prog) (Num.text vc) rc (by rw [← List.length_append, he]; omega) W
      rwa [he] at this
    have ra4 : ∀ W, bd = false → (Op.stringOp .add (bs (Num.fixed vd k)) (bs rd)).run Tryd.prog W = .ok (.string (bs s)) W := fun W h => by
      have he := Hd.out h
      have := run_add_bs (P := Tryd.prog) (Num.fixed vd k) rd (by rw [← List.length_append, he]; omega) W
      rwa [he] at this
    have hlk : bc = false → (vc.length : Int) ≤ k := fun h => (Hc.out h).2
    clear ka kb kc kd Ha Hb Hc Hd
    have q1 := Lib.hid (fun W => num_Small_any va W va0 va1)
    have q2 := Lib.hid (fun W => num_Wide_any vb W vb0 vb1)
    have q3 := Lib.hid (fun W => num_Text_any vc W (by omega))
    have q4 := Lib.hid (fun W => num_Fixed_any vd k W (by omega) h2 h3)
    cases ba <;> cases bb <;> cases bc <;> cases bd <;> simp only [forall_const, reduceCtorEq, false_implies] at ra1 ra2 ra3 ra4 hlk
    all_goals
      refine wp_region_grown (by kernel_rfl) (by kernel_rfl) ?_
      repeat (go_big_quiet_step (first
        | (go_at_call 11; exact Calls.grown_of (q1.out _))
        | (go_at_call 13; exact Calls.grown_of (q2.out _))
        | (go_at_call 15; exact Calls.grown_of (q3.out _))
        | (go_at_call 17; exact Calls.grown_of (q4.out _))))
      refine wpQuiet_nil ?_
      rintro _ ⟨x, rfl⟩
      go_wp2
      go_ret
      exact ⟨rfl, hb4.trans (x.below.mono hb4.size)⟩
end Go.Proofs.YtaeoghbmncpnlaaDoor
