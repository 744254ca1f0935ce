/- A meta's numbers read: the walk of read and of what it makes. -/
import Derived.Test.YtgehgjalkponfaaGreatDoorMetX
import Derived.Test.YtgehgjalkponfaaGreatDoorLexy
import Derived.Test.YtgehgjalkponfaaGreatDoorCurQ
namespace Go.Proofs.YtgehgjalkponfaaGreatDoor
open Go.RowKit Go.Maps Go.WideMaps
attribute [local go_sem] bs_toList bs_size

theorem numG_len (g : Int) (most : Nat) (c : CS) : (numG g most c).2.1.length ≤ c.1.length := by
  unfold numG
  have h1 := wN_len c
  have h2 := sN_len c
  split
  · split <;> assumption
  · split <;> assumption
theorem numG_bd (g : Int) (most : Nat) (c : CS) : 0 ≤ (numG g most c).1 ∧ (numG g most c).1 ≤ most := by
  obtain ⟨a, h1, _⟩ := sV_nat c
  obtain ⟨b, h2, _⟩ := wV_nat c
  unfold numG
  by_cases hg : g = 1
  · simp only [if_pos hg]
    rw [h2]
    by_cases h : (most : Int) < b
    · rw [if_pos h]
      exact ⟨Int.le_refl _, by simp⟩
    · rw [if_neg h]
      exact ⟨by simp, by simp only; omega⟩
  · simp only [if_neg hg]
    rw [h1]
    by_cases h : (most : Int) < a
    · rw [if_pos h]
      exact ⟨Int.le_refl _, by simp⟩
    · rw [if_neg h]
      exact ⟨by simp, by simp only; omega⟩
set_option maxRecDepth 100000 in
set_option maxHeartbeats 2000000 in
theorem number_any (bg gc : Nat) (g : Int) (most : Nat) (c : CS) (w : World) (hg : Blk w bg 3 #[.int .i64 g]) (hC : Cur w gc c.1 c.2) (hm : most ≤ 999999) (hl : c.1.length ≤ 1000000) :
    Calls Tryz.prog 62 #[.int .i64 (most : Int), .pointer (some ⟨bg, 0, none⟩), .pointer (some ⟨gc, 0, none⟩)] w fun e w' => e = .returned (.int .i64 (numG g most c).1) ∧ Cur w' gc (numG g most c).2.1 (numG g most c).2.2 ∧ w.grownBy w' (some gc) := by
  have cg := (Blk.cell hg 0).trans (show _ = some (Value.int .i64 g) from rfl)
  have hu := u64N_wrap (most : Int)
  have hu2 : ((u64N (most : Int) : Nat) : Int) = (most : Int) := (u64N_pos most (by omega) (by omega)).1
  rw [hu2] at hu
  have q1 := Lib.hid (CWd gc c w hC (by omega))
  have q2 := Lib.hid (CSm gc c w hC (by omega))
  have HN := Lib.hid (show numG g most c = if (most : Int) < (if g = 1 then wV c else sV c) then (0, ((if g = 1 then wN c else sN c).1, true)) else (if g = 1 then wV c else sV c, if g = 1 then wN c else sN c) from rfl)
  generalize numG g most c = R at *
  go_enter Tryz.func62, Tryz.ntmps62
  by_cases h1 : g = 1
  · have f1 : (g == 1) = true := by simpa using h1
    simp only [if_pos h1] at HN
    clear h1
    obtain ⟨v, hv, hv2⟩ := wV_nat c
    rw [hv] at HN q1
    generalize wN c = c2 at *
    clear hv q2
    go_wp2_with fail
    refine q1.out.mono ?_
    rintro e w2 ⟨rfl, hC2, hg2⟩
    by_cases hlt : (most : Int) < (v : Int)
    · have f2 : decide ((most : Int) < (v : Int)) = true := by simpa using hlt
      have f2' : decide (most < v) = true := by simp; omega
      have HR := Lib.hid (show R = (0, (c2.1, true)) by rw [HN.out, if_pos hlt])
      have d1 := hC2.c1
      have fz := Blk.frozen hC2 1
      clear HN hlt
      go_wp2_with fail
      go_ret
      rw [HR.out]
      exact ⟨rfl, Blk.set_ hC2 1 (.bool true), grown_trans' hg2 (grown_set _ _ _ _)⟩
    · have f2 : decide ((most : Int) < (v : Int)) = false := by simpa using hlt
      have f2' : decide (most < v) = false := by simp; omega
      have HR := Lib.hid (show R = ((v : Int), c2) by rw [HN.out, if_neg hlt])
      have hw := wr64_id (v : Int) (by omega) (by omega)
      unfold wr64 at hw
      clear HN hlt
      go_wp2_with fail
      go_ret
      rw [HR.out]
      exact ⟨rfl, hC2, hg2⟩
  · have f1 : (g == 1) = false := by simpa using h1
    simp only [if_neg h1] at HN
    clear h1
    obtain ⟨v, hv, hv2⟩ := sV_nat c
    rw [hv] at HN q2
    generalize sN c = c2 at *
    clear hv q1
    go_wp2_with fail
    refine q2.out.mono ?_
    rintro e w2 ⟨rfl, hC2, hg2⟩
    by_cases hlt : (most : Int) < (v : Int)
    · have f2 : decide ((most : Int) < (v : Int)) = true := by simpa using hlt
      have f2' : decide (most < v) = true := by simp; omega
      have HR := Lib.hid (show R = (0, (c2.1, true)) by rw [HN.out, if_pos hlt])
      have d1 := hC2.c1
      have fz := Blk.frozen hC2 1
      clear HN hlt
      go_wp2_with fail
      go_ret
      rw [HR.out]
      exact ⟨rfl, Blk.set_ hC2 1 (.bool true), grown_trans' hg2 (grown_set _ _ _ _)⟩
    · have f2 : decide ((most : Int) < (v : Int)) = false := by simpa using hlt
      have f2' : decide (most < v) = false := by simp; omega
      have HR := Lib.hid (show R = ((v : Int), c2) by rw [HN.out, if_neg hlt])
      have hw := wr64_id (v : Int) (by omega) (by omega)
      unfold wr64 at hw
      clear HN hlt
      go_wp2_with fail
      go_ret
      rw [HR.out]
      exact ⟨rfl, hC2, hg2⟩
theorem curPh_blk {w0 : World} {g : Nat} {cs : List CS} {c0 : CS} {h0 : cs[0]? = some c0} {hC : Cur w0 g c0.1 c0.2} {q : Nat} {w : World} {b : Nat} {T : TypeId} {xs : Array Value} (h : (curPh w0 g cs c0 h0 hC).ph q w) (hb : Blk w0 b T xs) (hn : b ≠ g) : Blk w b T xs := hb.keptK h.1 hn
theorem blkG_len (g : Int) : ∀ (q : Nat) (last : Int) (c : CS), (blkG g q last c).1.length = q
  | 0, _, _ => rfl
  | q + 1, last, c => by
    unfold blkG
    split
    · simp only [List.length_cons]
      rw [blkG_len g q]
    · simp only [List.length_cons]
      rw [blkG_len g q]
theorem results_ct {P : Program} {fn : Func} {p u : Tmp} {ty : TypeId} (h : fn.results = #[.cell p ty, .tmp u]) (tmps : Array Value) (w : World) (g : Nat) (tb : TypeId) (cs : Array Value) (d : TypeDesc)
    (hp : tmps.getD p undef = .pointer (some ⟨g, 0, none⟩)) (hg : Blk w g tb cs)
    (hu : P.underlying ty = some d) (hd : (match d with | .struct _ | .array _ _ => true | _ => false) = true) (hi : (P.info? ty).map (·.size) = some cs.size) :
    (results fn tmps).run P w = .ok (.tuple #[.agg cs, tmps.getD u undef]) w := by
  have hp' : tmps[p]?.getD undef = .pointer (some ⟨g, 0, none⟩) := by simpa using hp
  simp [results, h, hp', asAddr, run_loadVar_row w g tb ty cs (0, 0) d hg hu hd hi]
theorem set4 {W : World} {b : Nat} {T : TypeId} {u0 u1 u2 u3 : Value} (h : Blk W b T #[u0, u1, u2, u3]) (v0 v1 v2 v3 : Value) :
    Blk ((((W.setCell ⟨b, 0, none⟩ v0).setCell ⟨b, 1, none⟩ v1).setCell ⟨b, 2, none⟩ v2).setCell ⟨b, 3, none⟩ v3) b T #[v0, v1, v2, v3] ∧
      Kept W ((((W.setCell ⟨b, 0, none⟩ v0).setCell ⟨b, 1, none⟩ v1).setCell ⟨b, 2, none⟩ v2).setCell ⟨b, 3, none⟩ v3) (fun k => k = b) :=
  ⟨Blk.set_ (Blk.set_ (Blk.set_ (Blk.set_ h 0 v0) 1 v1) 2 v2) 3 v3, Kept.of_grown (grown_trans' (grown_trans' (grown_trans' (grown_set _ _ _ _) (grown_set _ _ _ _)) (grown_set _ _ _ _)) (grown_set _ _ _ _)) fun _ e => (Option.some.inj e).symm⟩
theorem row_form {w : World} {B : Nat} {e : TypeId} {size c : Nat} {v : Value} {xs : List Value} (h : w.ownsRow B e size v c xs) : ∃ a cap, v = .slice a c cap := by
  rcases h.2 with ⟨e, e0⟩ | ⟨g, cap, cur, e, _⟩
  · exact ⟨none, 0, by rw [e, e0]⟩
  · exact ⟨_, _, e⟩
def stPh (w0 : World) (g : Nat) (T : TypeId) (cs' : Array Value) : Phases where
  ph q w := (q = 0 ∧ GrowR w0 w) ∨ (q ≠ 0 ∧ Kept w0 w (fun k => k = g) ∧ Blk w g T cs')
  K _ _ := True
  w0 := w0
  start := .inl ⟨rfl, Below.refl _ _⟩
  refl _ := trivial
  trans _ _ := trivial
  grow _ := trivial
  stay h k := by
    rcases h with ⟨h1, h2⟩ | ⟨h1, h2, h3⟩
    · exact .inl ⟨h1, h2.trans (Below.mono k h2.size)⟩
    · exact .inr ⟨h1, h2.trans (Kept.of_below k), Blk.below h3 k h3.lt⟩
theorem stPh_cell {w0 : World} {g : Nat} {T : TypeId} {cs' : Array Value} {p : Addr} {v : Value} (hp : w0.cell? p = some v) (hn : p.block ≠ g) : ∀ x : PW (stPh w0 g T cs'), x.w.cell? p = some v := fun x => by
  obtain ⟨q, hq⟩ := x.2
  rcases hq with ⟨_, h2⟩ | ⟨_, h2, _⟩
  · exact (Kept.of_below (S := fun k => k = g) h2).cell hp hn
  · exact h2.cell hp hn

theorem ints_of_own {w : World} {B n : Nat} {v : Value} {A : List Int} (h : w.ownsRow B 3 1 v n (A.map (Value.int .i64))) (hn : A.length = n) (hl : A.length ≤ 100000) (hb : ∀ x ∈ A, -9223372036854775808 ≤ x ∧ x ≤ 9223372036854775807) : IntsAt w v A := by
  subst hn
  rcases h.2 with ⟨e, e0⟩ | ⟨g, cap, cur, e, _⟩
  · refine ⟨none, 0, by rw [e, e0], fun _ => rfl, hl, hb, fun i x hx => ?_⟩
    rw [List.length_eq_zero_iff.1 e0] at hx
    simp at hx
  · refine ⟨some ⟨g, 0, none⟩, cap, e, (fun e => by cases e), hl, hb, fun i x hx => ⟨g, 0, rfl, ?_⟩⟩
    have h1 := h.cells (g := g) (by rw [e]; rfl) i (.int .i64 x) (by rw [List.getElem?_map, hx]; rfl)
    rw [add_at] at h1
    rw [Nat.zero_add]
    exact h1
theorem cells_list_new (w : World) (xs : List Value) (t : TypeId) : ∀ j u, xs[j]? = some u → (w.alloc (.cells xs.toArray t)).cell? ((⟨w.heap.size, 0, none⟩ : Addr).add j) = some u := fun j u h => by
  rw [add_at, World.cell?_alloc_new]
  simpa using h
theorem done_st {wr W : World} {gc k : Nat} {c : CS} {T : TypeId} {cs' : Array Value} (hC : Cur wr gc c.1 c.2) (hn : gc ≠ k) (hW : ∃ q, (stPh wr k T cs').ph q W) : Calls Tryz.prog 65 #[.pointer (some ⟨gc, 0, none⟩)] W fun e w' => e = .returned (.bool (doneB c.1 c.2)) ∧ GrowR W w' := by
  have hCW : Cur W gc c.1 c.2 := by
    obtain ⟨q, hq⟩ := hW
    rcases hq with ⟨_, h⟩ | ⟨_, h, _⟩
    · exact Blk.below hC h hC.lt
    · exact hC.keptK h hn
  refine (CDone gc c.1 c.2 W hCW).mono ?_
  rintro e w' ⟨rfl, rfl⟩
  exact ⟨rfl, Below.refl _ _⟩
theorem wr64_bd (n : Int) : -9223372036854775808 ≤ wr64 n ∧ wr64 n ≤ 9223372036854775807 := by
  unfold wr64
  simp only [IntKind.wrap, IntKind.bits, IntKind.signed]
  simp
  omega
/-- What read answers. -/
def readV (m : Mt) (bv : Value) (ok : Bool) : Value := .tuple #[mtV m bv, .bool ok]
set_option maxRecDepth 100000 in
set_option maxHeartbeats 4000000 in
theorem read_any (s : List UInt8) (g : Int) (w : World) (hs : s.length ≤ 1000000) (g1 : -9223372036854775808 ≤ g) (g2 : g ≤ 9223372036854775807) :
    Calls Tryz.prog 40 #[.string (bs s), .int .i64 g] w fun e w' => ∃ bv, e = .returned (readV (readM s g).1 bv (doneB (readM s g).2.1 (readM s g).2.2)) ∧ IntsAt w' bv (readM s g).1.blocks ∧ (∀ k, bv.ownBlock = some k → w.heap.size ≤ k) ∧ Below w.heap.size w w' := by
  have HR := Lib.hid (show readM s g = (⟨g, (numG g 999999 (s, false)).1, if g = 3 then (numG g 999999 (s, false)).1 - (numG g 999999 (numG g 999999 (s, false)).2).1 else (numG g 999999 (numG g 999999 (s, false)).2).1, (blkG g (numG g 40 (numG g 999999 (numG g 999999 (s, false)).2).2).1.toNat 0 (numG g 40 (numG g 999999 (numG g 999999 (s, false)).2).2).2).1⟩, (blkG g (numG g 40 (numG g 999999 (numG g 999999 (s, false)).2).2).1.toNat 0 (numG g 40 (numG g 999999 (numG g 999999 (s, false)).2).2).2).2) from rfl)
  generalize readM s g = RM at *
  have l1 := numG_len g 999999 (s, false)
  have e1 := numG_bd g 999999 (s, false)
  obtain ⟨⟨a1, k1⟩, hA1⟩ : ∃ x, numG g 999999 (s, false) = x := ⟨_, rfl⟩
  have l2 := numG_len g 999999 k1
  have e2 := numG_bd g 999999 k1
  rw [hA1] at HR l1 e1
  simp only at HR l1 e1
  obtain ⟨⟨a2, k2⟩, hA2⟩ : ∃ x, numG g 999999 k1 = x := ⟨_, rfl⟩
  have l3 := numG_len g 40 k2
  have e3 := numG_bd g 40 k2
  rw [hA2] at HR l2 e2
  simp only at HR l2 e2
  obtain ⟨⟨a3, k3⟩, hA3⟩ : ∃ x, numG g 40 k2 = x := ⟨_, rfl⟩
  rw [hA3] at HR l3 e3
  simp only at HR l3 e3
  have hC0 : Cur (((w.alloc (.cells #[.int .i64 g] 3)).alloc (.cells #[.int .i64 0, .int .i64 0, .int .i64 0, .slice none 0 0] 24)).alloc (.cells #[.string (bs s), .bool false] 88)) (w.heap.size + 2) s false := by
    have := Blk.new ((w.alloc (.cells #[.int .i64 g] 3)).alloc (.cells #[.int .i64 0, .int .i64 0, .int .i64 0, .slice none 0 0] 24)) 88 #[.string (bs s), .bool false]
    rw [World.size_alloc, World.size_alloc] at this
    exact this
  have kN : Blk (((w.alloc (.cells #[.int .i64 g] 3)).alloc (.cells #[.int .i64 0, .int .i64 0, .int .i64 0, .slice none 0 0] 24)).alloc (.cells #[.string (bs s), .bool false] 88)) (w.heap.size + 1) 24 #[.int .i64 0, .int .i64 0, .int .i64 0, .slice none 0 0] := by
    have := (Blk.new (w.alloc (.cells #[.int .i64 g] 3)) 24 #[.int .i64 0, .int .i64 0, .int .i64 0, .slice none 0 0]).alloc (.cells #[.string (bs s), .bool false] 88)
    rw [World.size_alloc] at this
    exact this
  have kB : Blk (((w.alloc (.cells #[.int .i64 g] 3)).alloc (.cells #[.int .i64 0, .int .i64 0, .int .i64 0, .slice none 0 0] 24)).alloc (.cells #[.string (bs s), .bool false] 88)) w.heap.size 3 #[.int .i64 g] := ((Blk.new w 3 #[.int .i64 g]).alloc _).alloc _
  have b0 : Below w.heap.size w (((w.alloc (.cells #[.int .i64 g] 3)).alloc (.cells #[.int .i64 0, .int .i64 0, .int .i64 0, .slice none 0 0] 24)).alloc (.cells #[.string (bs s), .bool false] 88)) := (((Below.refl _ w).alloc (Nat.le_refl _) _).alloc (by simp) _).alloc (by simp; omega) _
  have hcb := (Blk.cell kB 0).trans (show _ = some (Value.int .i64 g) from rfl)
  have K1 := Lib.hid (fun W (hB : Blk W w.heap.size 3 #[.int .i64 g]) (hC : Cur W (w.heap.size + 2) s false) => number_any w.heap.size (w.heap.size + 2) g 999999 (s, false) W hB hC (by omega) hs)
  have K2 := Lib.hid (fun W (hB : Blk W w.heap.size 3 #[.int .i64 g]) (hC : Cur W (w.heap.size + 2) k1.1 k1.2) => number_any w.heap.size (w.heap.size + 2) g 999999 k1 W hB hC (by omega) (by omega))
  rw [hA1] at K1
  rw [hA2] at K2
  go_enter Tryz.func40, Tryz.ntmps40
  go_wp2_with fail
  generalize ((w.alloc (.cells #[.int .i64 g] 3)).alloc (.cells #[.int .i64 0, .int .i64 0, .int .i64 0, .slice none 0 0] 24)).alloc (.cells #[.string (bs s), .bool false] 88) = W0 at *
  have hgl := hC0.lt
  have hbx : ∀ x : PW (curPh W0 (w.heap.size + 2) [(s, false), k1, k2] (s, false) rfl hC0), x.w.cell? ⟨w.heap.size, 0, none⟩ = some (.int .i64 g) := fun x => by
    obtain ⟨W, q, hq⟩ := x
    exact (Blk.cell (curPh_blk hq kB (by omega)) 0).trans rfl
  refine wp_region_ledC (curPh W0 (w.heap.size + 2) [(s, false), k1, k2] (s, false) rfl hC0) [2, 4] rfl (by kernel_rfl) (by kernel_rfl) rfl (by kernel_rfl) (by kernel_rfl) (by kernel_rfl) ?_
  (refine lexc_one (by kernel_rfl) (by kernel_rfl) (by kernel_rfl) (by kernel_rfl) (fun K hK => ?_); go_big_quiet_step (fail); refine wpQuiet_nil (hK _ ?_); clear hK K); (refine lexc_one (by kernel_rfl) (by kernel_rfl) (by kernel_rfl) (by kernel_rfl) (fun K hK => ?_); go_big_quiet_step (fail); refine wpQuiet_nil (hK _ ?_); clear hK K)
  (refine lexc_row 0 (f := 62) (args := #[.int .i64 999999, .pointer (some ⟨w.heap.size, 0, none⟩), .pointer (some ⟨w.heap.size + 2, 0, none⟩)]) (v := .int .i64 a1) (by kernel_rfl) (by kernel_rfl) (by kernel_rfl) (fun _ _ h => by cases h) (by kernel_rfl) (by kernel_rfl) (fun _ => by go_simp) (fun W hW => cur_row hW rfl rfl (K1.out W (curPh_blk hW kB (by omega)))) (lexc_put (type := 0) (pos := "") (fun K hK => ?_)); go_big_quiet_step (fail); refine wpQuiet_nil (hK _ ?_); clear hK K)
  (refine lexc_one (by kernel_rfl) (by kernel_rfl) (by kernel_rfl) (by kernel_rfl) (fun K hK => ?_); go_big_quiet_step (fail); refine wpQuiet_nil (hK _ ?_); clear hK K)
  (refine lexc_row 1 (f := 62) (args := #[.int .i64 999999, .pointer (some ⟨w.heap.size, 0, none⟩), .pointer (some ⟨w.heap.size + 2, 0, none⟩)]) (v := .int .i64 a2) (by kernel_rfl) (by kernel_rfl) (by kernel_rfl) (fun _ _ h => by cases h) (by kernel_rfl) (by kernel_rfl) (fun _ => by go_simp) (fun W hW => cur_row hW rfl rfl (K2.out W (curPh_blk hW kB (by omega)))) (lexc_put (type := 0) (pos := "") (fun K hK => ?_)); go_big_quiet_step (fail); refine wpQuiet_nil (hK _ ?_); clear hK K)
  (refine lexc_val (v := .agg #[.int .i64 g, .int .i64 a1, .int .i64 a2, .slice none 0 0]) (by kernel_rfl) (by kernel_rfl) (fun _ _ h => by cases h) (by kernel_rfl) (by kernel_rfl) (fun W hW => by skip; go_simp) (lexc_put (type := 0) (pos := "") (fun K hK => ?_)); go_big_quiet_step (fail); refine wpQuiet_nil (hK _ ?_); clear hK K)
  refine lexc_make (d := 8) (r := fun x w1 => ∃ b, x = .pointer (some ⟨b, 0, none⟩) ∧ W0.heap.size ≤ b ∧ Blk w1 b 24 #[.int .i64 0, .int .i64 0, .int .i64 0, .slice none 0 0]) (by kernel_rfl) ?_ (by kernel_rfl) (fun _ _ h => by cases h) (by kernel_rfl) rfl (fun W hW => ?_) ?_
  · rintro x W W' ⟨b, rfl, hb, hB⟩ hk
    exact ⟨b, rfl, hb, hB.keptK hk (by omega)⟩
  · obtain ⟨q, hk, _⟩ := hW
    exact ⟨.pointer (some ⟨W.heap.size, 0, none⟩), W.alloc (.cells #[.int .i64 0, .int .i64 0, .int .i64 0, .slice none 0 0] 24), by go_simp, one_alloc W _, W.heap.size, rfl, hk.size, Blk.new _ _ _⟩
  refine lexc_nil (by kernel_rfl) (by kernel_rfl) (by kernel_rfl) ?_
  rintro W1 hK1 ⟨_, c3, hc3, hC3⟩
  obtain rfl : k2 = c3 := Option.some.inj hc3
  simp only [hideAll]
  rintro x ⟨b, rfl, hbb, hB⟩
  simp only [Act.put, List.setIfInBounds_toArray, List.set_cons_succ, List.set_cons_zero]
  have hb1 : Below w.heap.size w W1 := b0.trans (Kept.below hK1 b0.size (fun k hk => by omega))
  have kB1 : Blk W1 w.heap.size 3 #[.int .i64 g] := kB.keptK hK1 (by omega)
  have kN1 : Blk W1 (w.heap.size + 1) 24 #[.int .i64 0, .int .i64 0, .int .i64 0, .slice none 0 0] := kN.keptK hK1 (by omega)
  have hbw : w.heap.size + 3 ≤ b := by have := hC0.lt; omega
  obtain ⟨⟨c0, c1, c2, c3'⟩, z0, z1, z2, z3⟩ := cells4 hB
  obtain ⟨hB2, hK2⟩ := set4 hB (.int .i64 g) (.int .i64 a1) (.int .i64 a2) (.slice none 0 0)
  have hC4 := Blk.keptK hC3 hK2 (by omega)
  have kB2 := kB1.keptK hK2 (by omega)
  have kN2 := kN1.keptK hK2 (by omega)
  have hb2 := hb1.trans (Kept.below hK2 hb1.size (fun k hk => by omega))
  have cg2 := (Blk.cell kB2 0).trans (show _ = some (Value.int .i64 g) from rfl)
  have ⟨i0, hin, hz0, hz1, hz2⟩ := info_parts (show (Tryz.prog.info? 3).map (fun i => (i.zero, i.size, i.bytes)) = some (some (.int .i64 0), 1, 8) by kernel_rfl)
  have K3 := Lib.hid (fun W (hB : Blk W w.heap.size 3 #[.int .i64 g]) (hC : Cur W (w.heap.size + 2) k2.1 k2.2) => number_any w.heap.size (w.heap.size + 2) g 40 k2 W hB hC (by omega) (by omega))
  rw [hA3] at K3
  obtain ⟨N, rfl⟩ : ∃ N : Nat, a3 = N := ⟨a3.toNat, by omega⟩
  rw [Int.toNat_natCast] at HR
  clear hK1 hC0 b0 kB kN hcb hbx K1 K2 hbb hgl hc3 hC3 kB1 kN1 hb1 hA1 hA2 hA3
  by_cases hg3 : g = 3
  · subst hg3
    obtain ⟨⟨x0, x1, x2, x3⟩, y0, y1, y2, y3⟩ := cells4 hB2
    have hsub := wr64_id (a1 - a2) (by omega) (by omega)
    unfold wr64 at hsub
    have hB3 := Blk.set_ hB2 2 (.int .i64 (a1 - a2))
    have hK3 : Kept _ _ (fun k => k = b) := Kept.of_grown (grown_set (((((W1.setCell ⟨b, 0, none⟩ (.int .i64 3)).setCell ⟨b, 1, none⟩ (.int .i64 a1)).setCell ⟨b, 2, none⟩ (.int .i64 a2)).setCell ⟨b, 3, none⟩ (.slice none 0 0))) b 2 (.int .i64 (a1 - a2))) fun _ e => (Option.some.inj e).symm
    have hC5 := Blk.keptK hC4 hK3 (by omega)
    have kB3 := kB2.keptK hK3 (by omega)
    have kN3 := kN2.keptK hK3 (by omega)
    have hb3 := hb2.trans (Kept.below hK3 hb2.size (fun k hk => by omega))
    go_wp2_with fail
    refine (K3.out _ kB3 hC5).mono ?_
    rintro e W3 ⟨rfl, hC6, hg6⟩
    have hk6 : Kept _ W3 (fun k => k = w.heap.size + 2) := Kept.of_grown hg6 fun k e => (Option.some.inj e).symm
    have hB6 := hB3.keptK hk6 (by omega)
    have kB6 := kB3.keptK hk6 (by omega)
    have kN6 := kN3.keptK hk6 (by omega)
    have hb6 := hb3.trans (Kept.below hk6 hb3.size (fun k hk => by omega))
    clear hk6 hg6 K3 hB2 kB2 kN2 hC4 hb2 cg2 hB3 kB3 kN3 hC5 hb3 x0 x1 x2 x3 y0 y1 y2 y3 c0 c1 c2 c3' z0 z1 z2 z3 hK2 hK3 hB
    go_wp2_with fail
    go_loopw [9, 29] (fun v9 v29 wr => ∃ (i : Nat) (last : Int) (c : CS) (A : List Int) (vl : Value), i ≤ N ∧ v29 = .int .i64 (i : Int) ∧ v9 = .int .i64 last ∧ (-9223372036854775808 ≤ last ∧ last ≤ 9223372036854775807) ∧ A.length = i ∧ blkG 3 N 0 k3 = (A ++ (blkG 3 (N - i) last c).1, (blkG 3 (N - i) last c).2) ∧ c.1.length ≤ 1000000 ∧ (∀ x ∈ A, -9223372036854775808 ≤ x ∧ x ≤ 9223372036854775807) ∧ Cur wr (w.heap.size + 2) c.1 c.2 ∧ Blk wr b 24 #[.int .i64 3, .int .i64 a1, .int .i64 (a1 - a2), vl] ∧ wr.ownsRow (w.heap.size + 1) 3 1 vl A.length (A.map (Value.int .i64)) ∧ Blk wr w.heap.size 3 #[.int .i64 3] ∧ Blk wr (w.heap.size + 1) 24 #[.int .i64 0, .int .i64 0, .int .i64 0, .slice none 0 0] ∧ Below w.heap.size w wr) (fun _ v29 _ => N - (intOf v29).toNat)
    case atStart => exact ⟨0, 0, k3, [], .slice none 0 0, Nat.zero_le _, rfl, rfl, ⟨by omega, by omega⟩, rfl, by simp, by omega, (fun x hx => by cases hx), hC6, hB6, World.ownsRow_nil _ _ _ _, kB6, kN6, hb6⟩
    clear hC6 hB6 kB6 kN6 hb6
    obtain ⟨_, last, c, A, vl, hi, rfl, rfl, hlast, rfl, hrec, hcl, hAb, hC, hB, hrow, kBx, kNx, hb⟩ := hrel
    have HREC := Lib.hid hrec
    clear hrec
    have cgx := (Blk.cell kBx 0).trans (show _ = some (Value.int .i64 3) from rfl)
    obtain ⟨va, vc, rfl⟩ := row_form hrow
    by_cases hil : A.length < N
    · have HX := Lib.hid (show blkG 3 (N - A.length) last c = (wr64 (last + Num.zagI (sV c)) :: (blkG 3 (N - (A.length + 1)) (wr64 (last + Num.zagI (sV c))) (sN c)).1, (blkG 3 (N - (A.length + 1)) (wr64 (last + Num.zagI (sV c))) (sN c)).2) by
        rw [show N - A.length = (N - (A.length + 1)) + 1 by omega, blkG, if_pos rfl])
      obtain ⟨v, hv, hv2⟩ := sV_nat c
      have hnl := sN_len c
      have q := Lib.hid (CSm (w.heap.size + 2) c wr hC (by omega))
      rw [hv] at HX q
      have hzb := Num.zag_bd (v : Int) (by omega) (by omega)
      have qz := Lib.hid (fun W => num_Zag_any (v : Int) W (by omega) (by omega))
      generalize Num.zagI (v : Int) = z at *
      obtain ⟨c', hc'⟩ : ∃ y, sN c = y := ⟨_, rfl⟩
      rw [hc'] at HX hnl q
      obtain ⟨x, hx⟩ : ∃ y, wr64 (last + z) = y := ⟨_, rfl⟩
      rw [hx] at HX
      have hxb := wr64_bd (last + z)
      rw [hx] at hxb
      unfold wr64 at hx
      clear hv hc'
      go_wp2_with fail
      refine q.out.mono ?_
      rintro e W5 ⟨rfl, hC5, hg5⟩
      go_wp2_with fail
      refine (qz.out _).mono ?_
      rintro e W4 ⟨rfl, hw4⟩
      subst hw4
      have hk5 : Kept wr W5 (fun k => k = w.heap.size + 2) := Kept.of_grown hg5 fun k e => (Option.some.inj e).symm
      have hB5 := hB.keptK hk5 (by omega)
      have kB5 := kBx.keptK hk5 (by omega)
      have kN5 := kNx.keptK hk5 (by omega)
      have hb5 := hb.trans (Kept.below hk5 hb.size (fun k hk => by omega))
      have hrow5 := ownsRow_kept hrow hk5 (fun k hk e => by have h1 := tag_row hrow hk; rw [e, tag_blk hC] at h1; simp at h1)
      clear q qz hg5 hk5 hB kBx kNx hb hrow hC cgx
      have hkB : w.heap.size ≤ W5.heap.size := hb5.size
      have hkB1 : w.heap.size + 1 ≤ W5.heap.size := by have := hB5.lt; omega
      obtain ⟨⟨z0, z1, z2, z3⟩, f0, f1, f2, f3⟩ := cells4 hB5
      have hrow6 := World.ownsRow.alloc hrow5 (.cells #[.int .i64 x] 3)
      have hB6 := Blk.alloc hB5 (.cells #[.int .i64 x] 3)
      have hC6 := Blk.alloc hC5 (.cells #[.int .i64 x] 3)
      have kB6 := Blk.alloc kB5 (.cells #[.int .i64 x] 3)
      have kN6 := Blk.alloc kN5 (.cells #[.int .i64 x] 3)
      have hb6 := hb5.alloc hkB (.cells #[.int .i64 x] 3)
      have hkB6 : w.heap.size + 1 ≤ (W5.alloc (.cells #[.int .i64 x] 3)).heap.size := by rw [World.size_alloc]; omega
      have hcn := cells_list_new W5 [.int .i64 x] 3
      have HK8 := Lib.hid (show ∀ w8, (W5.alloc (.cells #[.int .i64 x] 3)).grownBy w8 (Value.slice va A.length vc).ownBlock → Kept (W5.alloc (.cells #[.int .i64 x] 3)) w8 (fun k => (Value.slice va A.length vc).ownBlock = some k) from fun w8 h => Kept.of_grown h fun k e => e)
      have hvb : ∀ k, (Value.slice va A.length vc).ownBlock = some k → tag (W5.alloc (.cells #[.int .i64 x] 3)) k = some (some 3) := fun k hk => tag_row hrow6 hk
      have hnb : (Value.slice va A.length vc).ownBlock ≠ some b := fun e => by have := hvb b e; rw [tag_blk hB6] at this; simp at this
      have hnc : (Value.slice va A.length vc).ownBlock ≠ some (w.heap.size + 2) := fun e => by have := hvb _ e; rw [tag_blk hC6] at this; simp at this
      have hnn : (Value.slice va A.length vc).ownBlock ≠ some (w.heap.size + 1) := fun e => by have := hvb _ e; rw [tag_blk kN6] at this; simp at this
      have hlo : ∀ k, (Value.slice va A.length vc).ownBlock = some k → w.heap.size + 1 ≤ k := fun k hk => (hrow6.lt k hk).1
      clear hrow5 hB5
      go_wp2_with (at_builtin; refine wpList_append_own_at _ rfl _ _ 22 rfl (w.heap.size + 1) 3 i0 (.int .i64 0) 1 8 Tryz.underlying22 hin hz0 hz1 hz2 rfl (by decide) _ _ _ rfl hrow6 ⟨_, 0, none⟩ 1 1 [.int .i64 x] rfl rfl hcn (by simp [Value.oneCell']) (by unfold maxLen; omega) (by omega) hkB6 ?_; intro v' w8 hown' hgrow hnil hloc; obtain ⟨va', vc', rfl⟩ := row_form hown'; have hk8 := HK8.out w8 hgrow; have hB8 := hB6.keptK hk8 hnb; obtain ⟨⟨s0, s1, s2, s3⟩, t0, t1, t2, t3⟩ := cells4 hB8)
      have hnx : (Value.slice va A.length vc).ownBlock ≠ some w.heap.size := fun e => by have := hlo _ e; omega
      have hk9 : Kept w8 (w8.setCell ⟨b, 3, none⟩ (.slice va' (A.length + 1) vc')) (fun k => k = b) := Kept.of_grown (grown_set _ _ _ _) fun _ e => (Option.some.inj e).symm
      have hB9 := Blk.set_ hB8 3 (.slice va' (A.length + 1) vc')
      have hC9 := (hC6.keptK hk8 hnc).keptK hk9 (by omega)
      have kB9 := (kB6.keptK hk8 hnx).keptK hk9 (by omega)
      have kN9 := (kN6.keptK hk8 hnn).keptK hk9 (by omega)
      have hrow9 := ownsRow_kept hown' hk9 (fun k hk e => by have h1 := tag_row hown' hk; rw [e, tag_blk hB8] at h1; simp at h1)
      have hb8 := hb6.trans (Kept.below hk8 hb6.size (fun k hk => by have := hlo k hk; omega))
      have hb9 := hb8.trans (Kept.below hk9 hb8.size (fun k hk => by omega))
      go_roundw
      case rel =>
        refine ⟨A.length + 1, x, c', A ++ [x], .slice va' (A.length + 1) vc', by omega, by go_num, rfl, hxb, by simp, ?_, by omega, fun y hy => ?_, hC9, hB9, ?_, kB9, kN9, hb9⟩
        · rw [HREC.out, HX.out]
          simp
        · rcases List.mem_append.1 hy with hy | hy
          · exact hAb y hy
          · simp only [List.mem_singleton] at hy
            subst hy
            exact hxb
        · rw [List.length_append, List.map_append]
          exact hrow9
      case measure => simp [intOf]; omega
    · have hAN : A.length = N := by omega
      have hRM := Lib.hid (show RM = (⟨3, a1, (a1 - a2), A⟩, c) by
        rw [HR.out, HREC.out, show N - A.length = 0 by omega]
        simp [blkG])
      have hIA := ints_of_own hrow rfl (by omega) hAb
      obtain ⟨⟨z0, z1, z2, z3⟩, _⟩ := cells4 hB
      obtain ⟨⟨n0, n1, n2, n3⟩, m0, m1, m2, m3⟩ := cells4 kNx
      have p0 := stPh_cell (T := 24) (cs' := #[.int .i64 3, .int .i64 a1, .int .i64 (a1 - a2), .slice va A.length vc]) (g := w.heap.size + 1) z0 (show b ≠ w.heap.size + 1 by omega)
      have p1 := stPh_cell (T := 24) (cs' := #[.int .i64 3, .int .i64 a1, .int .i64 (a1 - a2), .slice va A.length vc]) (g := w.heap.size + 1) z1 (show b ≠ w.heap.size + 1 by omega)
      have p2 := stPh_cell (T := 24) (cs' := #[.int .i64 3, .int .i64 a1, .int .i64 (a1 - a2), .slice va A.length vc]) (g := w.heap.size + 1) z2 (show b ≠ w.heap.size + 1 by omega)
      have p3 := stPh_cell (T := 24) (cs' := #[.int .i64 3, .int .i64 a1, .int .i64 (a1 - a2), .slice va A.length vc]) (g := w.heap.size + 1) z3 (show b ≠ w.heap.size + 1 by omega)
      go_wp2_with fail
      refine wp_region_C (stPh wr (w.heap.size + 1) 24 #[.int .i64 3, .int .i64 a1, .int .i64 (a1 - a2), .slice va A.length vc]) [2] rfl (by kernel_rfl) (by kernel_rfl) (by kernel_rfl) (by kernel_rfl) ?_
      (refine lexc_one (by kernel_rfl) (by kernel_rfl) (by kernel_rfl) (by kernel_rfl) (fun K hK => ?_); go_big_quiet_step (fail); refine wpQuiet_nil (hK _ ?_); clear hK K)
      (refine lexc_call (f := 65) (args := #[.pointer (some ⟨w.heap.size + 2, 0, none⟩)]) (v := .bool (doneB c.1 c.2)) (by kernel_rfl) (by kernel_rfl) (fun _ _ h => by cases h) (by kernel_rfl) (by kernel_rfl) (fun _ => by go_simp) (fun W hW => done_st hC (by omega) hW) (lexc_put (type := 0) (pos := "") (fun K hK => ?_)); go_big_quiet_step (fail); refine wpQuiet_nil (hK _ ?_); clear hK K)
      refine lexc_do 0 (by kernel_rfl) (by kernel_rfl) rfl (fun _ _ h => by cases h) (by kernel_rfl) rfl (fun W hW => ?_) ?_
      · have hWb := (hW.resolve_right (fun e => e.1 rfl)).2
        have kW := Blk.below kNx hWb kNx.lt
        obtain ⟨⟨r0, r1, r2, r3⟩, s0, s1, s2, s3⟩ := cells4 kW
        have hs5 := set4 kW (.int .i64 3) (.int .i64 a1) (.int .i64 (a1 - a2)) (.slice va A.length vc)
        exact ⟨_, by go_simp, trivial, .inr ⟨by omega, (Kept.of_below hWb).trans hs5.2, hs5.1⟩⟩
      (refine lexc_one (by kernel_rfl) (by kernel_rfl) (by kernel_rfl) (by kernel_rfl) (fun K hK => ?_); go_big_quiet_step (fail); refine wpQuiet_nil (hK _ ?_); clear hK K)
      refine lexc_nil (by kernel_rfl) (by kernel_rfl) (by kernel_rfl) ?_
      rintro WE _ hp
      obtain ⟨_, hkE, kE⟩ := hp.resolve_left (fun e => by cases e.1)
      simp only [hideAll]
      have hbE := hb.trans (Kept.below hkE hb.size (fun k hk => by omega))
      have hIE := hrow
      clear p0 p1 p2 p3 z0 z1 z2 z3 n0 n1 n2 n3 m0 m1 m2 m3
      go_wp2_with fail
      (try simp only [Exit.inBlock, Exit.then])
      refine bodyPost_ret (results_ct rfl _ _ (w.heap.size + 1) 24 _ _ rfl kE Tryz.underlying24 rfl (by kernel_rfl)) rfl ?_
      have hrE := ownsRow_kept hrow hkE (fun k hk e => by have h1 := tag_row hrow hk; rw [e, tag_blk kNx] at h1; simp at h1)
      refine ⟨.slice va A.length vc, ?_, ?_, (fun k hk => by have := (hrE.lt k hk).1; omega), hbE⟩
      · rw [hRM.out]
        rfl
      · rw [hRM.out]
        exact ints_of_own hrE rfl (show A.length ≤ 100000 by omega) hAb
  · have f3 : (g == 3) = false := by simpa using hg3
    rw [if_neg hg3] at HR
    go_wp2_with fail
    refine (K3.out _ kB2 hC4).mono ?_
    rintro e W3 ⟨rfl, hC6, hg6⟩
    have hk6 : Kept _ W3 (fun k => k = w.heap.size + 2) := Kept.of_grown hg6 fun k e => (Option.some.inj e).symm
    have hB6 := hB2.keptK hk6 (by omega)
    have kB6 := kB2.keptK hk6 (by omega)
    have kN6 := kN2.keptK hk6 (by omega)
    have hb6 := hb2.trans (Kept.below hk6 hb2.size (fun k hk => by omega))
    clear hk6 hg6 K3 hB2 kB2 kN2 hC4 hb2 cg2 c0 c1 c2 c3' z0 z1 z2 z3 hK2 hB
    go_wp2_with fail
    go_loopw [9, 29] (fun v9 v29 wr => ∃ (i : Nat) (last : Int) (c : CS) (A : List Int) (vl : Value), i ≤ N ∧ v29 = .int .i64 (i : Int) ∧ v9 = .int .i64 last ∧ (-9223372036854775808 ≤ last ∧ last ≤ 9223372036854775807) ∧ A.length = i ∧ blkG g N 0 k3 = (A ++ (blkG g (N - i) last c).1, (blkG g (N - i) last c).2) ∧ c.1.length ≤ 1000000 ∧ (∀ x ∈ A, -9223372036854775808 ≤ x ∧ x ≤ 9223372036854775807) ∧ Cur wr (w.heap.size + 2) c.1 c.2 ∧ Blk wr b 24 #[.int .i64 g, .int .i64 a1, .int .i64 a2, vl] ∧ wr.ownsRow (w.heap.size + 1) 3 1 vl A.length (A.map (Value.int .i64)) ∧ Blk wr w.heap.size 3 #[.int .i64 g] ∧ Blk wr (w.heap.size + 1) 24 #[.int .i64 0, .int .i64 0, .int .i64 0, .slice none 0 0] ∧ Below w.heap.size w wr) (fun _ v29 _ => N - (intOf v29).toNat)
    case atStart => exact ⟨0, 0, k3, [], .slice none 0 0, Nat.zero_le _, rfl, rfl, ⟨by omega, by omega⟩, rfl, by simp, by omega, (fun x hx => by cases hx), hC6, hB6, World.ownsRow_nil _ _ _ _, kB6, kN6, hb6⟩
    clear hC6 hB6 kB6 kN6 hb6
    obtain ⟨_, last, c, A, vl, hi, rfl, rfl, hlast, rfl, hrec, hcl, hAb, hC, hB, hrow, kBx, kNx, hb⟩ := hrel
    have HREC := Lib.hid hrec
    clear hrec
    have cgx := (Blk.cell kBx 0).trans (show _ = some (Value.int .i64 g) from rfl)
    obtain ⟨va, vc, rfl⟩ := row_form hrow
    by_cases hil : A.length < N
    · have HX := Lib.hid (show blkG g (N - A.length) last c = ((numG g 999999 c).1 :: (blkG g (N - (A.length + 1)) (numG g 999999 c).1 (numG g 999999 c).2).1, (blkG g (N - (A.length + 1)) (numG g 999999 c).1 (numG g 999999 c).2).2) by
        rw [show N - A.length = (N - (A.length + 1)) + 1 by omega, blkG, if_neg hg3])
      have hnl := numG_len g 999999 c
      have hnb' := numG_bd g 999999 c
      have q := Lib.hid (number_any w.heap.size (w.heap.size + 2) g 999999 c wr kBx hC (by omega) hcl)
      obtain ⟨⟨x, c'⟩, hx⟩ : ∃ y, numG g 999999 c = y := ⟨_, rfl⟩
      rw [hx] at HX hnl hnb' q
      simp only at HX hnl hnb' q
      have hxb : -9223372036854775808 ≤ x ∧ x ≤ 9223372036854775807 := by omega
      clear hx
      go_wp2_with fail
      refine q.out.mono ?_
      rintro e W5 ⟨rfl, hC5, hg5⟩
      have hk5 : Kept wr W5 (fun k => k = w.heap.size + 2) := Kept.of_grown hg5 fun k e => (Option.some.inj e).symm
      have hB5 := hB.keptK hk5 (by omega)
      have kB5 := kBx.keptK hk5 (by omega)
      have kN5 := kNx.keptK hk5 (by omega)
      have hb5 := hb.trans (Kept.below hk5 hb.size (fun k hk => by omega))
      have hrow5 := ownsRow_kept hrow hk5 (fun k hk e => by have h1 := tag_row hrow hk; rw [e, tag_blk hC] at h1; simp at h1)
      clear q hg5 hk5 hB kBx kNx hb hrow hC cgx
      have hkB : w.heap.size ≤ W5.heap.size := hb5.size
      have hkB1 : w.heap.size + 1 ≤ W5.heap.size := by have := hB5.lt; omega
      obtain ⟨⟨z0, z1, z2, z3⟩, f0, f1, f2, f3⟩ := cells4 hB5
      have hrow6 := World.ownsRow.alloc hrow5 (.cells #[.int .i64 x] 3)
      have hB6 := Blk.alloc hB5 (.cells #[.int .i64 x] 3)
      have hC6 := Blk.alloc hC5 (.cells #[.int .i64 x] 3)
      have kB6 := Blk.alloc kB5 (.cells #[.int .i64 x] 3)
      have kN6 := Blk.alloc kN5 (.cells #[.int .i64 x] 3)
      have hb6 := hb5.alloc hkB (.cells #[.int .i64 x] 3)
      have hkB6 : w.heap.size + 1 ≤ (W5.alloc (.cells #[.int .i64 x] 3)).heap.size := by rw [World.size_alloc]; omega
      have hcn := cells_list_new W5 [.int .i64 x] 3
      have HK8 := Lib.hid (show ∀ w8, (W5.alloc (.cells #[.int .i64 x] 3)).grownBy w8 (Value.slice va A.length vc).ownBlock → Kept (W5.alloc (.cells #[.int .i64 x] 3)) w8 (fun k => (Value.slice va A.length vc).ownBlock = some k) from fun w8 h => Kept.of_grown h fun k e => e)
      have hvb : ∀ k, (Value.slice va A.length vc).ownBlock = some k → tag (W5.alloc (.cells #[.int .i64 x] 3)) k = some (some 3) := fun k hk => tag_row hrow6 hk
      have hnb : (Value.slice va A.length vc).ownBlock ≠ some b := fun e => by have := hvb b e; rw [tag_blk hB6] at this; simp at this
      have hnc : (Value.slice va A.length vc).ownBlock ≠ some (w.heap.size + 2) := fun e => by have := hvb _ e; rw [tag_blk hC6] at this; simp at this
      have hnn : (Value.slice va A.length vc).ownBlock ≠ some (w.heap.size + 1) := fun e => by have := hvb _ e; rw [tag_blk kN6] at this; simp at this
      have hlo : ∀ k, (Value.slice va A.length vc).ownBlock = some k → w.heap.size + 1 ≤ k := fun k hk => (hrow6.lt k hk).1
      clear hrow5 hB5
      go_wp2_with (at_builtin; refine wpList_append_own_at _ rfl _ _ 22 rfl (w.heap.size + 1) 3 i0 (.int .i64 0) 1 8 Tryz.underlying22 hin hz0 hz1 hz2 rfl (by decide) _ _ _ rfl hrow6 ⟨_, 0, none⟩ 1 1 [.int .i64 x] rfl rfl hcn (by simp [Value.oneCell']) (by unfold maxLen; omega) (by omega) hkB6 ?_; intro v' w8 hown' hgrow hnil hloc; obtain ⟨va', vc', rfl⟩ := row_form hown'; have hk8 := HK8.out w8 hgrow; have hB8 := hB6.keptK hk8 hnb; obtain ⟨⟨s0, s1, s2, s3⟩, t0, t1, t2, t3⟩ := cells4 hB8)
      have hnx : (Value.slice va A.length vc).ownBlock ≠ some w.heap.size := fun e => by have := hlo _ e; omega
      have hk9 : Kept w8 (w8.setCell ⟨b, 3, none⟩ (.slice va' (A.length + 1) vc')) (fun k => k = b) := Kept.of_grown (grown_set _ _ _ _) fun _ e => (Option.some.inj e).symm
      have hB9 := Blk.set_ hB8 3 (.slice va' (A.length + 1) vc')
      have hC9 := (hC6.keptK hk8 hnc).keptK hk9 (by omega)
      have kB9 := (kB6.keptK hk8 hnx).keptK hk9 (by omega)
      have kN9 := (kN6.keptK hk8 hnn).keptK hk9 (by omega)
      have hrow9 := ownsRow_kept hown' hk9 (fun k hk e => by have h1 := tag_row hown' hk; rw [e, tag_blk hB8] at h1; simp at h1)
      have hb8 := hb6.trans (Kept.below hk8 hb6.size (fun k hk => by have := hlo k hk; omega))
      have hb9 := hb8.trans (Kept.below hk9 hb8.size (fun k hk => by omega))
      go_roundw
      case rel =>
        refine ⟨A.length + 1, x, c', A ++ [x], .slice va' (A.length + 1) vc', by omega, by go_num, rfl, hxb, by simp, ?_, by omega, fun y hy => ?_, hC9, hB9, ?_, kB9, kN9, hb9⟩
        · rw [HREC.out, HX.out]
          simp
        · rcases List.mem_append.1 hy with hy | hy
          · exact hAb y hy
          · simp only [List.mem_singleton] at hy
            subst hy
            exact hxb
        · rw [List.length_append, List.map_append]
          exact hrow9
      case measure => simp [intOf]; omega
    · have hAN : A.length = N := by omega
      have hRM := Lib.hid (show RM = (⟨g, a1, a2, A⟩, c) by
        rw [HR.out, HREC.out, show N - A.length = 0 by omega]
        simp [blkG])
      have hIA := ints_of_own hrow rfl (by omega) hAb
      obtain ⟨⟨z0, z1, z2, z3⟩, _⟩ := cells4 hB
      obtain ⟨⟨n0, n1, n2, n3⟩, m0, m1, m2, m3⟩ := cells4 kNx
      have p0 := stPh_cell (T := 24) (cs' := #[.int .i64 g, .int .i64 a1, .int .i64 a2, .slice va A.length vc]) (g := w.heap.size + 1) z0 (show b ≠ w.heap.size + 1 by omega)
      have p1 := stPh_cell (T := 24) (cs' := #[.int .i64 g, .int .i64 a1, .int .i64 a2, .slice va A.length vc]) (g := w.heap.size + 1) z1 (show b ≠ w.heap.size + 1 by omega)
      have p2 := stPh_cell (T := 24) (cs' := #[.int .i64 g, .int .i64 a1, .int .i64 a2, .slice va A.length vc]) (g := w.heap.size + 1) z2 (show b ≠ w.heap.size + 1 by omega)
      have p3 := stPh_cell (T := 24) (cs' := #[.int .i64 g, .int .i64 a1, .int .i64 a2, .slice va A.length vc]) (g := w.heap.size + 1) z3 (show b ≠ w.heap.size + 1 by omega)
      go_wp2_with fail
      refine wp_region_C (stPh wr (w.heap.size + 1) 24 #[.int .i64 g, .int .i64 a1, .int .i64 a2, .slice va A.length vc]) [2] rfl (by kernel_rfl) (by kernel_rfl) (by kernel_rfl) (by kernel_rfl) ?_
      (refine lexc_one (by kernel_rfl) (by kernel_rfl) (by kernel_rfl) (by kernel_rfl) (fun K hK => ?_); go_big_quiet_step (fail); refine wpQuiet_nil (hK _ ?_); clear hK K)
      (refine lexc_call (f := 65) (args := #[.pointer (some ⟨w.heap.size + 2, 0, none⟩)]) (v := .bool (doneB c.1 c.2)) (by kernel_rfl) (by kernel_rfl) (fun _ _ h => by cases h) (by kernel_rfl) (by kernel_rfl) (fun _ => by go_simp) (fun W hW => done_st hC (by omega) hW) (lexc_put (type := 0) (pos := "") (fun K hK => ?_)); go_big_quiet_step (fail); refine wpQuiet_nil (hK _ ?_); clear hK K)
      refine lexc_do 0 (by kernel_rfl) (by kernel_rfl) rfl (fun _ _ h => by cases h) (by kernel_rfl) rfl (fun W hW => ?_) ?_
      · have hWb := (hW.resolve_right (fun e => e.1 rfl)).2
        have kW := Blk.below kNx hWb kNx.lt
        obtain ⟨⟨r0, r1, r2, r3⟩, s0, s1, s2, s3⟩ := cells4 kW
        have hs5 := set4 kW (.int .i64 g) (.int .i64 a1) (.int .i64 a2) (.slice va A.length vc)
        exact ⟨_, by go_simp, trivial, .inr ⟨by omega, (Kept.of_below hWb).trans hs5.2, hs5.1⟩⟩
      (refine lexc_one (by kernel_rfl) (by kernel_rfl) (by kernel_rfl) (by kernel_rfl) (fun K hK => ?_); go_big_quiet_step (fail); refine wpQuiet_nil (hK _ ?_); clear hK K)
      refine lexc_nil (by kernel_rfl) (by kernel_rfl) (by kernel_rfl) ?_
      rintro WE _ hp
      obtain ⟨_, hkE, kE⟩ := hp.resolve_left (fun e => by cases e.1)
      simp only [hideAll]
      have hbE := hb.trans (Kept.below hkE hb.size (fun k hk => by omega))
      have hIE := hrow
      clear p0 p1 p2 p3 z0 z1 z2 z3 n0 n1 n2 n3 m0 m1 m2 m3
      go_wp2_with fail
      (try simp only [Exit.inBlock, Exit.then])
      refine bodyPost_ret (results_ct rfl _ _ (w.heap.size + 1) 24 _ _ rfl kE Tryz.underlying24 rfl (by kernel_rfl)) rfl ?_
      have hrE := ownsRow_kept hrow hkE (fun k hk e => by have h1 := tag_row hrow hk; rw [e, tag_blk kNx] at h1; simp at h1)
      refine ⟨.slice va A.length vc, ?_, ?_, (fun k hk => by have := (hrE.lt k hk).1; omega), hbE⟩
      · rw [hRM.out]
        rfl
      · rw [hRM.out]
        exact ints_of_own hrE rfl (show A.length ≤ 100000 by omega) hAb
end Go.Proofs.YtgehgjalkponfaaGreatDoor
