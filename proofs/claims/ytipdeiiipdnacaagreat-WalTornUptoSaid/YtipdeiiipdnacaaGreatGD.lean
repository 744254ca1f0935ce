/- Generations 2 and 3: the change that bytes begin with. Generation 2: a change is got. Generation 3: changes are put. Generation 3: what a sample tells. Generation 3: changes are got. -/
import Derived.Test.YtipdeiiipdnacaaGreatGC
namespace Go.Proofs.YtipdeiiipdnacaaGreat
open Go.RowKit Go.Maps Go.WideMaps
attribute [local go_sem] bs_toList bs_size

theorem results_ct {P : Program} {fn : Func} {p u : Tmp} {ty : TypeId} (h : fn.results = #[.cell p ty, .tmp u]) (tmps : Array Value) (w : World) (g : Nat) (tb : TypeId) (cs : Array Value) (d : TypeDesc)
    (hp : tmps.getD p undef = .pointer (some ⟨g, 0, none⟩)) (hg : Blk w g tb cs)
    (hu : P.underlying ty = some d) (hd : (match d with | .struct _ | .array _ _ => true | _ => false) = true) (hi : (P.info? ty).map (·.size) = some cs.size) :
    (results fn tmps).run P w = .ok (.tuple #[.agg cs, tmps.getD u undef]) w := by
  have hp' : tmps[p]?.getD undef = .pointer (some ⟨g, 0, none⟩) := by simpa using hp
  simp [results, h, hp', asAddr, run_loadVar_row w g tb ty cs (0, 0) d hg hu hd hi]
theorem cells5 {W : World} {b : Nat} {T : TypeId} {u0 u1 u2 u3 u4 : Value} (h : Blk W b T #[u0, u1, u2, u3, u4]) :
    (W.cell? ⟨b, 0, none⟩ = some u0 ∧ W.cell? ⟨b, 1, none⟩ = some u1 ∧ W.cell? ⟨b, 2, none⟩ = some u2 ∧ W.cell? ⟨b, 3, none⟩ = some u3 ∧ W.cell? ⟨b, 4, none⟩ = some u4) ∧
      W.frozen? ⟨b, 0, none⟩ = false ∧ W.frozen? ⟨b, 1, none⟩ = false ∧ W.frozen? ⟨b, 2, none⟩ = false ∧ W.frozen? ⟨b, 3, none⟩ = false ∧ W.frozen? ⟨b, 4, none⟩ = false :=
  ⟨⟨(Blk.cell h 0).trans rfl, (Blk.cell h 1).trans rfl, (Blk.cell h 2).trans rfl, (Blk.cell h 3).trans rfl, (Blk.cell h 4).trans rfl⟩, Blk.frozen h 0, Blk.frozen h 1, Blk.frozen h 2, Blk.frozen h 3, Blk.frozen h 4⟩

theorem nf_lt {w : World} {B n m k : Nat} {K : List (List UInt8)} {kv : Value} {D : DataW Unit} (h : NamesIs w B n K kv m D) (hk : NF n m kv k) : k < w.heap.size := by
  rcases hk with rfl | rfl | hk
  · exact h.blk.lt
  · exact h.map.lt
  · exact owns_lt h.row hk
/-- A new block is written to: nothing of what there was. -/
theorem Kept.new_keep {a b c : World} {S : Nat → Prop} {g : Nat} (h : Kept a b S) (k : Kept b c (fun k => k = g)) (hg : a.heap.size ≤ g) : Kept a c S :=
  ⟨k.os.trans h.os, k.tape.trans h.tape, k.output.trans h.output, Nat.le_trans h.size k.size, fun i hi hn => (k.block i (Nat.lt_of_lt_of_le hi h.size) (by omega)).trans (h.block i hi hn)⟩
/-- The change that bytes begin with, and the keys then; what is left. -/
def get1P (smp : CS → (Int × Nat) × CS) (K : List (List UInt8)) (c : CS) : Option (Rc × List (List UInt8)) × CS :=
  if (sN c).2 = true ∨ 2 < sV c then (none, sN c)
  else if sV c = 2 then
    if (sN (sN c)).2 = true then (none, sN (sN c)) else (some (⟨2, [], i64N (sV (sN c)).toNat, 0, 0⟩, K), sN (sN c))
  else match namesGet K (sN c) with
    | (none, c2) => (none, c2)
    | (some (L, K'), c2) =>
      if sV c = 0 then
        if (smp c2).2.2 = true then (none, (smp c2).2) else (some (⟨0, L, (smp c2).1.1, 0, (smp c2).1.2⟩, K'), (smp c2).2)
      else if (sN (sN c2)).2 = true then (none, sN (sN c2)) else (some (⟨1, L, Num.zagI (sV c2), Num.zagI (sV (sN c2)), 0⟩, K'), sN (sN c2))

/-- What get1 answers. -/
def Get1Is (w : World) (B n m gc : Nat) (kv : Value) (SL : Nat → Prop) (SP0 : World → Prop) (SPn : Int → Nat → World → Prop) (r : Option (Rc × List (List UInt8)) × CS) (e : Ending) (w' : World) : Prop :=
  Kept w w' (fun k => NF n m kv k ∨ k = gc ∨ SL k) ∧ match r.1 with
    | none => ∃ k sl t u v, e = .returned (.tuple #[.agg #[.int .i64 k, sl, .int .i64 t, .int .i64 u, .int .u64 v], .bool false]) ∧ ∃ a l c, sl = .slice a l c
    | some (x, K') => ∃ sl kv' D', e = .returned (.tuple #[recV x sl, .bool true]) ∧ x.ok ∧ LabsOwn w' sl x.labels ∧ Cur w' gc r.2.1 r.2.2 ∧ NamesIs w' B n K' kv' m D' ∧ (∀ k, NF n m kv' k → NF n m kv k ∨ w.heap.size ≤ k) ∧
      if x.kind = 0 then SPn x.t x.v w' else SP0 w'

/-- A block, ahead of what is stored into it whole, and behind it. -/
def stPh (w0 : World) (g : Nat) (T : TypeId) (cs' : Array Value) : Phases where
  ph q w := (q = 0 ∧ GrowR w0 w) ∨ (q ≠ 0 ∧ Kept w0 w (fun k => k = g) ∧ Blk w g T cs')
  K _ _ := True
  w0 := w0
  start := .inl ⟨rfl, Below.refl _ _⟩
  refl _ := trivial
  trans _ _ := trivial
  grow _ := trivial
  stay h k := by
    rcases h with ⟨h1, h2⟩ | ⟨h1, h2, h3⟩
    · exact .inl ⟨h1, h2.trans (Below.mono k h2.size)⟩
    · exact .inr ⟨h1, h2.trans (Kept.of_below k), Blk.below h3 k h3.lt⟩
theorem stPh_cell {w0 : World} {g : Nat} {T : TypeId} {cs' : Array Value} {p : Addr} {v : Value} (hp : w0.cell? p = some v) (hn : p.block ≠ g) : ∀ x : PW (stPh w0 g T cs'), x.w.cell? p = some v := fun x => by
  obtain ⟨q, hq⟩ := x.2
  rcases hq with ⟨_, h2⟩ | ⟨_, h2, _⟩
  · exact (Kept.of_below (S := fun k => k = g) h2).cell hp hn
  · exact h2.cell hp hn

theorem namesGet_len (K : List (List UInt8)) (c : CS) : (namesGet K c).2.1.length ≤ c.1.length := by
  have h1 : (sN c).1.length ≤ c.1.length := nxt_len _ _
  have h2 : (nT (sN c) 600).1.length ≤ c.1.length := Nat.le_trans (nxt_len _ _) h1
  unfold namesGet
  split
  · exact h1
  · split
    · exact h1
    · split <;> exact h2
section
variable {w : World} {B n m gc : Nat} {K : List (List UInt8)} {kv : Value} {D : DataW Unit}
set_option maxRecDepth 100000 in
set_option maxHeartbeats 8000000 in
theorem get1_any (c : CS) (cf : FuncId) (cc : Array Value) (smp : CS → (Int × Nat) × CS) (SL : Nat → Prop) (SP0 : World → Prop) (SPn : Int → Nat → World → Prop)
    (h : NamesIs w B n K kv m D) (hC : Cur w gc c.1 c.2) (hl : c.1.length ≤ 1000000) (hK : K.length ≤ 1048575) (hKl : ∀ k ∈ K, k.length ≤ 1000000) (hB : B ≤ w.heap.size)
    (hS0 : SP0 w) (hSL : ∀ k, SL k → k < w.heap.size ∧ ¬ NF n m kv k ∧ k ≠ gc ∧ tag w k ≠ some (some 53)) (hst : ∀ W W' S, SP0 W → Kept W W' S → (∀ k, S k → ¬ SL k) → SP0 W') (hstn : ∀ T V W W' S, SPn T V W → Kept W W' S → (∀ k, S k → ¬ SL k) → SPn T V W') (hsb : ∀ c, -9223372036854775808 ≤ (smp c).1.1 ∧ (smp c).1.1 ≤ 9223372036854775807 ∧ (smp c).1.2 < 18446744073709551616)
    (hcf : ∀ W, (callFunc cf (#[.pointer (some ⟨gc, 0, none⟩)] ++ cc)).run Tryz.prog W = .ok (.enter cf (#[.pointer (some ⟨gc, 0, none⟩)] ++ cc)) W)
    (hs : ∀ W c, Cur W gc c.1 c.2 → c.1.length ≤ 1000000 → SP0 W → Calls Tryz.prog cf (#[.pointer (some ⟨gc, 0, none⟩)] ++ cc) W fun e w' => e = .returned (.tuple #[.int .i64 (smp c).1.1, .int .u64 ((smp c).1.2 : Int)]) ∧ Cur w' gc (smp c).2.1 (smp c).2.2 ∧ SPn (smp c).1.1 (smp c).1.2 w' ∧ Kept W w' (fun k => k = gc ∨ SL k)) :
    Calls Tryz.prog 117 #[.pointer (some ⟨n, 0, none⟩), .pointer (some ⟨gc, 0, none⟩), .func (.func cf) #[] cc] w (Get1Is w B n m gc kv SL SP0 SPn (get1P smp K c)) := by
  have kR : Blk (w.alloc (.cells #[.int .i64 0, .slice none 0 0, .int .i64 0, .int .i64 0, .int .u64 0] 51)) w.heap.size 51 #[.int .i64 0, .slice none 0 0, .int .i64 0, .int .i64 0, .int .u64 0] := Blk.new _ _ _
  have bR := one_alloc w (.cells #[.int .i64 0, .slice none 0 0, .int .i64 0, .int .i64 0, .int .u64 0] 51)
  have hcl := cur_away h hC
  have hgl := hC.lt
  have hCR : Cur (w.alloc (.cells #[.int .i64 0, .slice none 0 0, .int .i64 0, .int .i64 0, .int .u64 0] 51)) gc c.1 c.2 := Blk.below hC bR hC.lt
  have hNR := h.below bR
  generalize hW0 : w.alloc (.cells #[.int .i64 0, .slice none 0 0, .int .i64 0, .int .i64 0, .int .u64 0] 51) = W0 at *
  have q1 := Lib.hid (CSm gc c W0 hCR (by omega))
  obtain ⟨a, ha, ha2⟩ := sV_nat c
  have hl1 : (sN c).1.length ≤ 1000000 := Nat.le_trans (nxt_len _ _) hl
  have HG := Lib.hid (show get1P smp K c = if (sN c).2 = true ∨ 2 < a then (none, sN c)
      else if a = 2 then
        if (sN (sN c)).2 = true then (none, sN (sN c)) else (some (⟨2, [], i64N (sV (sN c)).toNat, 0, 0⟩, K), sN (sN c))
      else match namesGet K (sN c) with
        | (none, c2) => (none, c2)
        | (some (L, K'), c2) =>
          if a = 0 then
            if (smp c2).2.2 = true then (none, (smp c2).2) else (some (⟨0, L, (smp c2).1.1, 0, (smp c2).1.2⟩, K'), (smp c2).2)
          else if (sN (sN c2)).2 = true then (none, sN (sN c2)) else (some (⟨1, L, Num.zagI (sV c2), Num.zagI (sV (sN c2)), 0⟩, K'), sN (sN c2)) by
    unfold get1P
    rw [ha]
    have e1 : ((2 : Int) < (a : Int)) = (2 < a) := by apply propext; omega
    have e2 : ((a : Int) = 2) = (a = 2) := by apply propext; omega
    have e3 : ((a : Int) = 0) = (a = 0) := by apply propext; omega
    simp only [e1, e2, e3])
  rw [ha] at q1
  generalize hRr : get1P smp K c = R at *
  generalize hc1 : sN c = c1 at *
  clear ha hCR hC hl hRr
  -- the failing ends
  have HF := Lib.hid (fun (W' : World) (k t u v : Int) (sa : Option Addr) (sl sc : Nat) (e : R.1 = none) (hk : Kept w W' (fun k => NF n m kv k ∨ k = gc ∨ SL k)) => (show Get1Is w B n m gc kv SL SP0 SPn R (.returned (.tuple #[.agg #[.int .i64 k, .slice sa sl sc, .int .i64 t, .int .i64 u, .int .u64 v], .bool false])) W' by
    unfold Get1Is
    rw [e]
    exact ⟨hk, k, _, t, u, v, rfl, _, _, _, rfl⟩))
  by_cases hbad : c1.2 = true ∨ 2 < a
  · have hR : R.1 = none := by rw [HG.out, if_pos hbad]
    clear HG
    go_enter Tryz.func117, Tryz.ntmps117
    go_wp2_with fail
    refine q1.out.mono ?_
    rintro e W1 ⟨rfl, hC1, hg1⟩
    have hk1 : Kept w W1 (fun k => k = gc) := (Kept.of_below bR).trans (Kept.of_grown hg1 fun k e => (Option.some.inj e).symm)
    have kR1 := kR.grown hg1 (fun e => by have := Option.some.inj e; omega)
    obtain ⟨⟨r0, r1, r2, r3, r4⟩, s0, s1, s2, s3, s4⟩ := cells5 kR1
    obtain ⟨kR2, hk2⟩ := set5 kR1 (.int .i64 0) (.slice none 0 0) (.int .i64 0) (.int .i64 0) (.int .u64 0)
    have HE := Lib.hid (fun W' (hk : Kept W1 W' (fun k => k = w.heap.size)) => HF.out W' 0 0 0 0 none 0 0 hR ((hk1.weaken fun k e => .inr (.inl e)).new_keep hk (Nat.le_refl _)))
    have d1 := hC1.c1
    by_cases hb2 : c1.2 = true
    · rw [hb2] at d1
      go_wp2_with fail
      (try simp only [Exit.inBlock, Exit.then])
      refine bodyPost_ret (results_ct rfl _ _ w.heap.size 51 _ _ rfl kR2 Tryz.underlying51 rfl (by kernel_rfl)) rfl ?_
      exact HE.out _ hk2
    · have hb2 : c1.2 = false := by simpa using hb2
      rw [hb2] at d1
      have h2a : 2 < a := hbad.resolve_left (by rw [hb2]; simp)
      have hd : decide ((2 : Int) < (a : Int)) = true := by simp; omega
      have hd' : decide (2 < a) = true := by simpa using h2a
      go_wp2_with fail
      (try simp only [Exit.inBlock, Exit.then])
      refine bodyPost_ret (results_ct rfl _ _ w.heap.size 51 _ _ rfl kR2 Tryz.underlying51 rfl (by kernel_rfl)) rfl ?_
      exact HE.out _ hk2
  have hb1 : c1.2 = false := by
    cases hb : c1.2 with
    | true => exact absurd (.inl hb) hbad
    | false => rfl
  by_cases ha : a = 2
  · have HG2 := Lib.hid (show R = if (sN c1).2 = true then (none, sN c1) else (some (⟨2, [], i64N (sV c1).toNat, 0, 0⟩, K), sN c1) by rw [HG.out, if_neg hbad, if_pos ha])
    clear HG
    subst ha
    obtain ⟨tn, htn, htn2⟩ := sV_nat c1
    have q2 := Lib.hid (fun W (hW : Cur W gc c1.1 c1.2) => CSm gc c1 W hW (by omega))
    have hzt := i64N_wrap tn htn2
    have hzb := i64N_bd tn htn2
    rw [htn] at q2 HG2
    rw [show ((tn : Int).toNat) = tn from rfl] at HG2
    rw [hb1] at q1 q2
    clear htn
    generalize sN c1 = c2 at *
    go_enter Tryz.func117, Tryz.ntmps117
    go_wp2_with fail
    refine q1.out.mono ?_
    rintro e W1 ⟨rfl, hC1, hg1⟩
    have hk01 : Kept W0 W1 (fun k => k = gc) := Kept.of_grown hg1 fun k e => (Option.some.inj e).symm
    have hkw1 := (Kept.of_below (S := fun k => k = gc) bR).trans hk01
    have kR1 := kR.keptK hk01 (by omega)
    have hN1 := hNR.kept hk01 hcl
    have hS1 := hst w W1 _ hS0 hkw1 (fun k e hk => (hSL k hk).2.2.1 e)
    have d1 := hC1.c1
    have hd : decide ((2 : Int) < 2) = false := by simp
    have hd' : decide (2 < 2) = false := by simp
    have b2 := one_alloc W1 (.cells #[.int .i64 2, .slice none 0 0, .int .i64 0, .int .i64 0, .int .u64 0] 51)
    have kr2 : Blk (W1.alloc (.cells #[.int .i64 2, .slice none 0 0, .int .i64 0, .int .i64 0, .int .u64 0] 51)) W1.heap.size 51 #[.int .i64 2, .slice none 0 0, .int .i64 0, .int .i64 0, .int .u64 0] := Blk.new _ _ _
    have kR2 := Blk.below kR1 b2 kR1.lt
    have hC2 : Cur (W1.alloc (.cells #[.int .i64 2, .slice none 0 0, .int .i64 0, .int .i64 0, .int .u64 0] 51)) gc c1.1 false := Blk.below hC1 b2 hC1.lt
    have hN2 := hN1.below b2
    have hS2 := hst _ _ (fun _ => False) hS1 (Kept.of_below b2) (fun k e => e.elim)
    have hkw2 := hkw1.trans (Kept.of_below b2)
    have hwlt : w.heap.size < W1.heap.size := kR1.lt
    have hnf : ∀ k, NF n m kv k → k < w.heap.size := fun k hk => nf_lt h hk
    clear hk01 hkw1 kR1 hN1 hS1 hg1 b2
    go_wp2_with fail
    generalize W1.heap.size = gr at *
    generalize W1.alloc (.cells #[.int .i64 2, .slice none 0 0, .int .i64 0, .int .i64 0, .int .u64 0] 51) = W2 at *
    have hgrc : gr ≠ gc := by omega
    refine (q2.out _ hC2).mono ?_
    rintro e W3 ⟨rfl, hC3, hg3⟩
    have hk23 : Kept W2 W3 (fun k => k = gc) := Kept.of_grown hg3 fun k e => (Option.some.inj e).symm
    have kr3 := kr2.keptK hk23 hgrc
    have kR3 := kR2.keptK hk23 (by omega)
    have hS3 := hst W2 W3 _ hS2 hk23 (fun k e hk => (hSL k hk).2.2.1 e)
    have hN3 := hN2.kept hk23 hcl
    obtain ⟨⟨_, _, x2, _, _⟩, _, _, f2, _, _⟩ := cells5 kr3
    have kr4 : Blk (W3.setCell ⟨gr, 2, none⟩ (.int .i64 (i64N tn))) gr 51 #[.int .i64 2, .slice none 0 0, .int .i64 (i64N tn), .int .i64 0, .int .u64 0] := Blk.set_ kr3 2 _
    have hk34 : Kept W3 (W3.setCell ⟨gr, 2, none⟩ (.int .i64 (i64N tn))) (fun k => k = gr) := Kept.of_grown (grown_set _ _ _ _) fun k e => (Option.some.inj e).symm
    have kR4 := kR3.keptK hk34 (by omega)
    have hC4 : Cur (W3.setCell ⟨gr, 2, none⟩ (.int .i64 (i64N tn))) gc c2.1 c2.2 := Blk.keptK hC3 hk34 (fun e => hgrc e.symm)
    have hN4 := hN3.kept hk34 (fun k hk e => by have := hnf k hk; omega)
    have hS4 := hst _ _ _ hS3 hk34 (fun k e hk => by have := (hSL k hk).1; omega)
    have hkw4 : Kept w (W3.setCell ⟨gr, 2, none⟩ (.int .i64 (i64N tn))) (fun k => k = gc) := (hkw2.trans hk23).new_keep hk34 (by omega)
    clear hk23 hk34 kr3 kR3 hS3 hN3 hC3 hC2 kr2 kR2 hS2 hN2 hkw2 q1 q2
    cases hcb : c2.2 with
    | true =>
      have hR : R.1 = none := by rw [HG2.out, if_pos hcb]
      have hgr1 : gr ≠ w.heap.size := by omega
      obtain ⟨⟨r0, r1, r2, r3, r4⟩, _⟩ := cells5 kr4
      have y0 := hC4.c1
      rw [hcb] at y0
      have g0 := stPh_cell (T := 51) (cs' := #[.int .i64 2, .slice none 0 0, .int .i64 (i64N tn), .int .i64 0, .int .u64 0]) r0 hgr1
      have g1 := stPh_cell (T := 51) (cs' := #[.int .i64 2, .slice none 0 0, .int .i64 (i64N tn), .int .i64 0, .int .u64 0]) r1 hgr1
      have g2 := stPh_cell (T := 51) (cs' := #[.int .i64 2, .slice none 0 0, .int .i64 (i64N tn), .int .i64 0, .int .u64 0]) r2 hgr1
      have g3 := stPh_cell (T := 51) (cs' := #[.int .i64 2, .slice none 0 0, .int .i64 (i64N tn), .int .i64 0, .int .u64 0]) r3 hgr1
      have g4 := stPh_cell (T := 51) (cs' := #[.int .i64 2, .slice none 0 0, .int .i64 (i64N tn), .int .i64 0, .int .u64 0]) r4 hgr1
      have g5 := stPh_cell (T := 51) (cs' := #[.int .i64 2, .slice none 0 0, .int .i64 (i64N tn), .int .i64 0, .int .u64 0]) y0 (show gc ≠ w.heap.size by omega)
      clear r0 r1 r2 r3 r4 y0
      go_wp2_with fail
      refine wp_region_C (stPh (W3.setCell ⟨gr, 2, none⟩ (.int .i64 (i64N tn))) w.heap.size 51 #[.int .i64 2, .slice none 0 0, .int .i64 (i64N tn), .int .i64 0, .int .u64 0]) [6] rfl (by kernel_rfl) (by kernel_rfl) (by kernel_rfl) (by kernel_rfl) ?_
      (refine lexc_one (by kernel_rfl) (by kernel_rfl) (by kernel_rfl) (by kernel_rfl) (fun K hK => ?_); go_big_quiet_step (fail); refine wpQuiet_nil (hK _ ?_); clear hK K); (refine lexc_one (by kernel_rfl) (by kernel_rfl) (by kernel_rfl) (by kernel_rfl) (fun K hK => ?_); go_big_quiet_step (fail); refine wpQuiet_nil (hK _ ?_); clear hK K); (refine lexc_one (by kernel_rfl) (by kernel_rfl) (by kernel_rfl) (by kernel_rfl) (fun K hK => ?_); go_big_quiet_step (fail); refine wpQuiet_nil (hK _ ?_); clear hK K); (refine lexc_one (by kernel_rfl) (by kernel_rfl) (by kernel_rfl) (by kernel_rfl) (fun K hK => ?_); go_big_quiet_step (fail); refine wpQuiet_nil (hK _ ?_); clear hK K); (refine lexc_one (by kernel_rfl) (by kernel_rfl) (by kernel_rfl) (by kernel_rfl) (fun K hK => ?_); go_big_quiet_step (fail); refine wpQuiet_nil (hK _ ?_); clear hK K); (refine lexc_one (by kernel_rfl) (by kernel_rfl) (by kernel_rfl) (by kernel_rfl) (fun K hK => ?_); go_big_quiet_step (fail); refine wpQuiet_nil (hK _ ?_); clear hK K)
      refine lexc_do 0 (by kernel_rfl) (by kernel_rfl) rfl (fun _ _ h => by cases h) (by kernel_rfl) rfl (fun W hW => ?_) ?_
      · have hWb := (hW.resolve_right (fun e => e.1 rfl)).2
        have kW := Blk.below kR4 hWb kR4.lt
        obtain ⟨⟨r0, r1, r2, r3, r4⟩, s0, s1, s2, s3, s4⟩ := cells5 kW
        have hs5 := set5 kW (.int .i64 2) (.slice none 0 0) (.int .i64 (i64N tn)) (.int .i64 0) (.int .u64 0)
        exact ⟨_, by go_simp, trivial, .inr ⟨by omega, (Kept.of_below hWb).trans hs5.2, hs5.1⟩⟩
      (refine lexc_one (by kernel_rfl) (by kernel_rfl) (by kernel_rfl) (by kernel_rfl) (fun K hK => ?_); go_big_quiet_step (fail); refine wpQuiet_nil (hK _ ?_); clear hK K)
      refine lexc_nil (by kernel_rfl) (by kernel_rfl) (by kernel_rfl) ?_
      rintro WE _ hp
      obtain ⟨_, hkE, kE⟩ := hp.resolve_left (fun e => by cases e.1)
      simp only [hideAll]
      clear g0 g1 g2 g3 g4 g5
      go_wp2_with fail
      (try simp only [Exit.inBlock, Exit.then])
      refine bodyPost_ret (results_ct rfl _ _ w.heap.size 51 _ _ rfl kE Tryz.underlying51 rfl (by kernel_rfl)) rfl ?_
      exact HF.out WE _ _ _ _ _ _ _ hR ((hkw4.weaken fun k e => .inr (.inl e)).new_keep hkE (Nat.le_refl _))
    | false =>
      have hR : R = (some (⟨2, [], i64N tn, 0, 0⟩, K), c2) := by rw [HG2.out, if_neg (by rw [hcb]; simp)]
      have hgr1 : gr ≠ w.heap.size := by omega
      obtain ⟨⟨r0, r1, r2, r3, r4⟩, _⟩ := cells5 kr4
      have y0 := hC4.c1
      rw [hcb] at y0
      have g0 := stPh_cell (T := 51) (cs' := #[.int .i64 2, .slice none 0 0, .int .i64 (i64N tn), .int .i64 0, .int .u64 0]) r0 hgr1
      have g1 := stPh_cell (T := 51) (cs' := #[.int .i64 2, .slice none 0 0, .int .i64 (i64N tn), .int .i64 0, .int .u64 0]) r1 hgr1
      have g2 := stPh_cell (T := 51) (cs' := #[.int .i64 2, .slice none 0 0, .int .i64 (i64N tn), .int .i64 0, .int .u64 0]) r2 hgr1
      have g3 := stPh_cell (T := 51) (cs' := #[.int .i64 2, .slice none 0 0, .int .i64 (i64N tn), .int .i64 0, .int .u64 0]) r3 hgr1
      have g4 := stPh_cell (T := 51) (cs' := #[.int .i64 2, .slice none 0 0, .int .i64 (i64N tn), .int .i64 0, .int .u64 0]) r4 hgr1
      have g5 := stPh_cell (T := 51) (cs' := #[.int .i64 2, .slice none 0 0, .int .i64 (i64N tn), .int .i64 0, .int .u64 0]) y0 (show gc ≠ w.heap.size by omega)
      clear r0 r1 r2 r3 r4 y0
      go_wp2_with fail
      refine wp_region_C (stPh (W3.setCell ⟨gr, 2, none⟩ (.int .i64 (i64N tn))) w.heap.size 51 #[.int .i64 2, .slice none 0 0, .int .i64 (i64N tn), .int .i64 0, .int .u64 0]) [6] rfl (by kernel_rfl) (by kernel_rfl) (by kernel_rfl) (by kernel_rfl) ?_
      (refine lexc_one (by kernel_rfl) (by kernel_rfl) (by kernel_rfl) (by kernel_rfl) (fun K hK => ?_); go_big_quiet_step (fail); refine wpQuiet_nil (hK _ ?_); clear hK K); (refine lexc_one (by kernel_rfl) (by kernel_rfl) (by kernel_rfl) (by kernel_rfl) (fun K hK => ?_); go_big_quiet_step (fail); refine wpQuiet_nil (hK _ ?_); clear hK K); (refine lexc_one (by kernel_rfl) (by kernel_rfl) (by kernel_rfl) (by kernel_rfl) (fun K hK => ?_); go_big_quiet_step (fail); refine wpQuiet_nil (hK _ ?_); clear hK K); (refine lexc_one (by kernel_rfl) (by kernel_rfl) (by kernel_rfl) (by kernel_rfl) (fun K hK => ?_); go_big_quiet_step (fail); refine wpQuiet_nil (hK _ ?_); clear hK K); (refine lexc_one (by kernel_rfl) (by kernel_rfl) (by kernel_rfl) (by kernel_rfl) (fun K hK => ?_); go_big_quiet_step (fail); refine wpQuiet_nil (hK _ ?_); clear hK K); (refine lexc_one (by kernel_rfl) (by kernel_rfl) (by kernel_rfl) (by kernel_rfl) (fun K hK => ?_); go_big_quiet_step (fail); refine wpQuiet_nil (hK _ ?_); clear hK K)
      refine lexc_do 0 (by kernel_rfl) (by kernel_rfl) rfl (fun _ _ h => by cases h) (by kernel_rfl) rfl (fun W hW => ?_) ?_
      · have hWb := (hW.resolve_right (fun e => e.1 rfl)).2
        have kW := Blk.below kR4 hWb kR4.lt
        obtain ⟨⟨r0, r1, r2, r3, r4⟩, s0, s1, s2, s3, s4⟩ := cells5 kW
        have hs5 := set5 kW (.int .i64 2) (.slice none 0 0) (.int .i64 (i64N tn)) (.int .i64 0) (.int .u64 0)
        exact ⟨_, by go_simp, trivial, .inr ⟨by omega, (Kept.of_below hWb).trans hs5.2, hs5.1⟩⟩
      (refine lexc_one (by kernel_rfl) (by kernel_rfl) (by kernel_rfl) (by kernel_rfl) (fun K hK => ?_); go_big_quiet_step (fail); refine wpQuiet_nil (hK _ ?_); clear hK K)
      refine lexc_nil (by kernel_rfl) (by kernel_rfl) (by kernel_rfl) ?_
      rintro WE _ hp
      obtain ⟨_, hkE, kE⟩ := hp.resolve_left (fun e => by cases e.1)
      simp only [hideAll]
      clear g0 g1 g2 g3 g4 g5
      go_wp2_with fail
      (try simp only [Exit.inBlock, Exit.then])
      refine bodyPost_ret (results_ct rfl _ _ w.heap.size 51 _ _ rfl kE Tryz.underlying51 rfl (by kernel_rfl)) rfl ?_
      unfold Get1Is
      rw [hR]
      refine ⟨(hkw4.weaken fun k e => .inr (.inl e)).new_keep hkE (Nat.le_refl _), .slice none 0 0, kv, D, rfl, ⟨by simp, by simp, hzb.1, hzb.2, by simp, by simp, by simp⟩, ⟨⟨none, 0, rfl, by simp, fun i x hx => by simp at hx⟩, fun b e => by cases e⟩, Blk.keptK hC4 hkE (show ¬ gc = w.heap.size by omega), hN4.kept hkE (fun k hk e => by have := hnf k hk; omega), fun k hk => .inl hk, ?_⟩
      exact hst _ _ _ hS4 hkE (fun k e hk => by have := (hSL k hk).1; omega)
  have HG1 := Lib.hid (show R = match namesGet K c1 with
        | (none, c2) => (none, c2)
        | (some (L, K'), c2) =>
          if a = 0 then
            if (smp c2).2.2 = true then (none, (smp c2).2) else (some (⟨0, L, (smp c2).1.1, 0, (smp c2).1.2⟩, K'), (smp c2).2)
          else if (sN (sN c2)).2 = true then (none, sN (sN c2)) else (some (⟨1, L, Num.zagI (sV c2), Num.zagI (sV (sN c2)), 0⟩, K'), sN (sN c2)) by rw [HG.out, if_neg hbad, if_neg ha])
  clear HG
  rcases (show a = 0 ∨ a = 1 by
    rcases Nat.lt_or_ge 2 a with e | e
    · exact absurd (.inr e) hbad
    · omega) with ha | ha
  · clear hbad
    subst ha
    have hcN : ∀ (b : Bool) (W : World), Cur W gc c1.1 false → NamesIs W B n K kv m D → B ≤ W.heap.size → _ := fun _ W hW hN hB => get_any c1 hN (by rw [hb1]; exact hW) hl1 (by omega) hKl hB
    have q2 := Lib.hid (hcN true)
    clear hcN
    rw [hb1] at q1
    rcases hng : namesGet K c1 with ⟨r1, c2⟩
    rw [hng] at q2 HG1
    have hc2l : r1 ≠ none → c2.1.length ≤ 1000000 := fun _ => by
      have := namesGet_len K c1
      rw [hng] at this
      exact Nat.le_trans this hl1
    go_enter Tryz.func117, Tryz.ntmps117
    go_wp2_with fail
    refine q1.out.mono ?_
    rintro e W1 ⟨rfl, hC1, hg1⟩
    have hk01 : Kept W0 W1 (fun k => k = gc) := Kept.of_grown hg1 fun k e => (Option.some.inj e).symm
    have hkw1 := (Kept.of_below (S := fun k => k = gc) bR).trans hk01
    have kR1 := kR.keptK hk01 (by omega)
    have hN1 := hNR.kept hk01 hcl
    have hS1 := hst w W1 _ hS0 hkw1 (fun k e hk => (hSL k hk).2.2.1 e)
    have d1 := hC1.c1
    have hd : decide ((2 : Int) < 0) = false := by simp
    have hd' : decide (2 < 0) = false := by simp
    have b2 := one_alloc W1 (.cells #[.int .i64 0, .slice none 0 0, .int .i64 0, .int .i64 0, .int .u64 0] 51)
    have kr2 : Blk (W1.alloc (.cells #[.int .i64 0, .slice none 0 0, .int .i64 0, .int .i64 0, .int .u64 0] 51)) W1.heap.size 51 #[.int .i64 0, .slice none 0 0, .int .i64 0, .int .i64 0, .int .u64 0] := Blk.new _ _ _
    have kR2 := Blk.below kR1 b2 kR1.lt
    have hC2 : Cur (W1.alloc (.cells #[.int .i64 0, .slice none 0 0, .int .i64 0, .int .i64 0, .int .u64 0] 51)) gc c1.1 false := Blk.below hC1 b2 hC1.lt
    have hN2 := hN1.below b2
    have hS2 := hst _ _ (fun _ => False) hS1 (Kept.of_below b2) (fun k e => e.elim)
    have hkw2 := hkw1.trans (Kept.of_below b2)
    have hwlt : w.heap.size < W1.heap.size := kR1.lt
    have hnf : ∀ k, NF n m kv k → k < w.heap.size := fun k hk => nf_lt h hk
    clear hk01 hkw1 kR1 hN1 hS1 hg1 b2
    go_wp2_with fail
    generalize W1.heap.size = gr at *
    generalize W1.alloc (.cells #[.int .i64 0, .slice none 0 0, .int .i64 0, .int .i64 0, .int .u64 0] 51) = W2 at *
    have hgrc : gr ≠ gc := by omega
    have hgr2 := kr2.lt
    refine (q2.out W2 hC2 hN2 (Nat.le_trans hB hkw2.size)).mono ?_
    rintro e W3 ⟨hk23, hpost⟩
    have hkw3 : Kept w W3 (fun k => NF n m kv k ∨ k = gc) := (hkw2.weaken fun k e => .inr e).trans hk23
    have hnotw : ∀ k, k = w.heap.size → ¬ (NF n m kv k ∨ k = gc) := fun k e h => h.elim (fun h => by have := hnf k h; omega) (fun h => by omega)
    have hnotr : ∀ k, k = gr → ¬ (NF n m kv k ∨ k = gc) := fun k e h => h.elim (fun h => by have := hnf k h; omega) (fun h => by omega)
    have kR3 := kR2.keptK hk23 (hnotw _ rfl)
    have kr3 := kr2.keptK hk23 (hnotr _ rfl)
    have hS3 := hst W2 W3 _ hS2 hk23 (fun k e hk => e.elim (hSL k hk).2.1 (hSL k hk).2.2.1)
    clear q2 hk23 hC2 hN2 hS2 kR2 kr2 hkw2
    cases r1 with
    | none =>
      obtain ⟨v, rfl⟩ := hpost
      have hR : R.1 = none := by rw [HG1.out]
      obtain ⟨⟨r0, r1, r2, r3, r4⟩, s0, s1, s2, s3, s4⟩ := cells5 kR3
      obtain ⟨kR4, hk4⟩ := set5 kR3 (.int .i64 0) (.slice none 0 0) (.int .i64 0) (.int .i64 0) (.int .u64 0)
      obtain ⟨⟨x0, x1, x2, x3, x4⟩, _⟩ := cells5 kr3
      have HE := Lib.hid (HF.out _ 0 0 0 0 none 0 0 hR ((hkw3.weaken fun k e => e.elim .inl (fun e => .inr (.inl e))).new_keep hk4 (Nat.le_refl _)))
      go_wp2_with fail
      (try simp only [Exit.inBlock, Exit.then])
      refine bodyPost_ret (results_ct rfl _ _ w.heap.size 51 _ _ rfl kR4 Tryz.underlying51 rfl (by kernel_rfl)) rfl ?_
      exact HE.out
    | some z =>
      obtain ⟨L, K'⟩ := z
      obtain ⟨v, kv3, D3, rfl, hLa, hC3, hN3, hnew⟩ := hpost
      have hc2l := hc2l (by simp)
      obtain ⟨va, vc, rfl, _⟩ := id hLa.1
      have hnf3 : ∀ k, NF n m kv3 k → k ≠ gr ∧ k ≠ w.heap.size := fun k hk => (hnew k hk).elim (fun h => by have := hnf k h; omega) (fun h => by omega)
      obtain ⟨⟨x0, x1, x2, x3, x4⟩, f0, f1, f2, f3, f4⟩ := cells5 kr3
      have hk34 : Kept W3 (W3.setCell ⟨gr, 1, none⟩ (.slice va L.length vc)) (fun k => k = gr) := Kept.of_grown (grown_set _ _ _ _) fun k e => (Option.some.inj e).symm
      have kr4 : Blk (W3.setCell ⟨gr, 1, none⟩ (.slice va L.length vc)) gr 51 #[.int .i64 0, .slice va L.length vc, .int .i64 0, .int .i64 0, .int .u64 0] := Blk.set_ kr3 1 _
      have kR4 := kR3.keptK hk34 (by omega)
      have hC4 : Cur (W3.setCell ⟨gr, 1, none⟩ (.slice va L.length vc)) gc c2.1 c2.2 := Blk.keptK hC3 hk34 (fun e => hgrc e.symm)
      have hN4 := hN3.kept hk34 (fun k hk e => (hnf3 k hk).1 e)
      have hS4 := hst _ _ _ hS3 hk34 (fun k e hk => by have := (hSL k hk).1; omega)
      have htr := tag_blk kr3
      have hL4 := hLa.kept hk34 (fun b hb e => by rw [e, htr] at hb; simp at hb)
      have hkw4 := hkw3.new_keep hk34 (show w.heap.size ≤ gr by omega)
      clear hk34 kr3 kR3 hC3 hN3 hS3 hLa hkw3 htr
      have HG2 := Lib.hid (show R = if (smp c2).2.2 = true then (none, (smp c2).2) else (some (⟨0, L, (smp c2).1.1, 0, (smp c2).1.2⟩, K'), (smp c2).2) by rw [HG1.out]; rfl)
      have q3 := Lib.hid (fun W hW hS => hs W c2 hW hc2l hS)
      have hsb2 := hsb c2
      clear HG1 hs
      rcases hsm : smp c2 with ⟨⟨T, V⟩, c3⟩
      rw [hsm] at HG2 q3 hsb2
      simp only at HG2 q3 hsb2
      go_wp2_with fail
      generalize W3.setCell ⟨gr, 1, none⟩ (.slice va L.length vc) = W4 at *
      refine (q3.out W4 hC4 hS4).mono ?_
      rintro e W5 ⟨rfl, hC5, hS5, hk45⟩
      have hnr : ∀ k, k = gr → ¬ (k = gc ∨ SL k) := fun k e h => h.elim (fun h => by omega) (fun h => by have := (hSL k h).1; omega)
      have hnw : ∀ k, k = w.heap.size → ¬ (k = gc ∨ SL k) := fun k e h => h.elim (fun h => by omega) (fun h => by have := (hSL k h).1; omega)
      have kr5 := kr4.keptK hk45 (hnr _ rfl)
      have kR5 := kR4.keptK hk45 (hnw _ rfl)
      have hN5 := hN4.kept hk45 (fun k hk e => e.elim (cur_away hN4 hC4 k hk) (fun e => (hnew k hk).elim (hSL k e).2.1 (fun h => by have := (hSL k e).1; omega)))
      have htc := tag_blk hC4
      have hL5 := hL4.kept hk45 (fun b hb e => e.elim (fun e => by rw [e, htc] at hb; simp at hb) (fun e => (hSL b e).2.2.2 (by
        have := hkw4.block b (hSL b e).1 (fun h => h.elim (hSL b e).2.1 (hSL b e).2.2.1)
        unfold tag at hb ⊢
        rw [← this]
        exact hb)))
      obtain ⟨⟨x0, x1, x2, x3, x4⟩, f0, f1, f2, f3, f4⟩ := cells5 kr5
      have kr6 : Blk ((W5.setCell ⟨gr, 2, none⟩ (.int .i64 T)).setCell ⟨gr, 4, none⟩ (.int .u64 (V : Int))) gr 51 #[.int .i64 0, .slice va L.length vc, .int .i64 T, .int .i64 0, .int .u64 (V : Int)] := Blk.set_ (Blk.set_ kr5 2 _) 4 _
      have hk56 : Kept W5 ((W5.setCell ⟨gr, 2, none⟩ (.int .i64 T)).setCell ⟨gr, 4, none⟩ (.int .u64 (V : Int))) (fun k => k = gr) := Kept.of_grown (grown_trans' (grown_set _ _ _ _) (grown_set _ _ _ _)) fun k e => (Option.some.inj e).symm
      have kR6 := kR5.keptK hk56 (by omega)
      have hC6 : Cur ((W5.setCell ⟨gr, 2, none⟩ (.int .i64 T)).setCell ⟨gr, 4, none⟩ (.int .u64 (V : Int))) gc c3.1 c3.2 := Blk.keptK hC5 hk56 (fun e => hgrc e.symm)
      have hN6 := hN5.kept hk56 (fun k hk e => (hnf3 k hk).1 e)
      have hS6 := hstn _ _ _ _ _ hS5 hk56 (fun k e hk => by have := (hSL k hk).1; omega)
      have htr := tag_blk kr5
      have hL6 := hL5.kept hk56 (fun b hb e => by rw [e, htr] at hb; simp at hb)
      have hkw6 := (((hkw4.weaken (T := fun k => NF n m kv k ∨ k = gc ∨ SL k) fun k e => e.elim .inl (fun e => .inr (.inl e))).trans (hk45.weaken fun k e => .inr e)).new_keep hk56 (show w.heap.size ≤ gr by omega))
      clear hk45 hk56 kr4 kr5 kR4 kR5 hN4 hN5 hL4 hL5 hC4 hC5 hS4 hS5 hkw4 q3 htc htr hnr hnw
      cases hcb : c3.2 with
      | true =>
        have hR : R.1 = none := by rw [HG2.out, if_pos hcb]
        have hgr1 : gr ≠ w.heap.size := by omega
        obtain ⟨⟨r0, r1, r2, r3, r4⟩, _⟩ := cells5 kr6
        have y0 := hC6.c1
        rw [hcb] at y0
        have g0 := stPh_cell (T := 51) (cs' := #[.int .i64 0, .slice va L.length vc, .int .i64 T, .int .i64 0, .int .u64 (V : Int)]) r0 hgr1
        have g1 := stPh_cell (T := 51) (cs' := #[.int .i64 0, .slice va L.length vc, .int .i64 T, .int .i64 0, .int .u64 (V : Int)]) r1 hgr1
        have g2 := stPh_cell (T := 51) (cs' := #[.int .i64 0, .slice va L.length vc, .int .i64 T, .int .i64 0, .int .u64 (V : Int)]) r2 hgr1
        have g3 := stPh_cell (T := 51) (cs' := #[.int .i64 0, .slice va L.length vc, .int .i64 T, .int .i64 0, .int .u64 (V : Int)]) r3 hgr1
        have g4 := stPh_cell (T := 51) (cs' := #[.int .i64 0, .slice va L.length vc, .int .i64 T, .int .i64 0, .int .u64 (V : Int)]) r4 hgr1
        have g5 := stPh_cell (T := 51) (cs' := #[.int .i64 0, .slice va L.length vc, .int .i64 T, .int .i64 0, .int .u64 (V : Int)]) y0 (show gc ≠ w.heap.size by omega)
        clear r0 r1 r2 r3 r4 y0
        go_wp2_with fail
        refine wp_region_C (stPh ((W5.setCell ⟨gr, 2, none⟩ (.int .i64 T)).setCell ⟨gr, 4, none⟩ (.int .u64 (V : Int))) w.heap.size 51 #[.int .i64 0, .slice va L.length vc, .int .i64 T, .int .i64 0, .int .u64 (V : Int)]) [6] rfl (by kernel_rfl) (by kernel_rfl) (by kernel_rfl) (by kernel_rfl) ?_
        (refine lexc_one (by kernel_rfl) (by kernel_rfl) (by kernel_rfl) (by kernel_rfl) (fun K hK => ?_); go_big_quiet_step (fail); refine wpQuiet_nil (hK _ ?_); clear hK K); (refine lexc_one (by kernel_rfl) (by kernel_rfl) (by kernel_rfl) (by kernel_rfl) (fun K hK => ?_); go_big_quiet_step (fail); refine wpQuiet_nil (hK _ ?_); clear hK K); (refine lexc_one (by kernel_rfl) (by kernel_rfl) (by kernel_rfl) (by kernel_rfl) (fun K hK => ?_); go_big_quiet_step (fail); refine wpQuiet_nil (hK _ ?_); clear hK K); (refine lexc_one (by kernel_rfl) (by kernel_rfl) (by kernel_rfl) (by kernel_rfl) (fun K hK => ?_); go_big_quiet_step (fail); refine wpQuiet_nil (hK _ ?_); clear hK K); (refine lexc_one (by kernel_rfl) (by kernel_rfl) (by kernel_rfl) (by kernel_rfl) (fun K hK => ?_); go_big_quiet_step (fail); refine wpQuiet_nil (hK _ ?_); clear hK K); (refine lexc_one (by kernel_rfl) (by kernel_rfl) (by kernel_rfl) (by kernel_rfl) (fun K hK => ?_); go_big_quiet_step (fail); refine wpQuiet_nil (hK _ ?_); clear hK K)
        refine lexc_do 0 (by kernel_rfl) (by kernel_rfl) rfl (fun _ _ h => by cases h) (by kernel_rfl) rfl (fun W hW => ?_) ?_
        · have hWb := (hW.resolve_right (fun e => e.1 rfl)).2
          have kW := Blk.below kR6 hWb kR6.lt
          obtain ⟨⟨r0, r1, r2, r3, r4⟩, s0, s1, s2, s3, s4⟩ := cells5 kW
          have hs5 := set5 kW (.int .i64 0) (.slice va L.length vc) (.int .i64 T) (.int .i64 0) (.int .u64 (V : Int))
          exact ⟨_, by go_simp, trivial, .inr ⟨by omega, (Kept.of_below hWb).trans hs5.2, hs5.1⟩⟩
        (refine lexc_one (by kernel_rfl) (by kernel_rfl) (by kernel_rfl) (by kernel_rfl) (fun K hK => ?_); go_big_quiet_step (fail); refine wpQuiet_nil (hK _ ?_); clear hK K)
        refine lexc_nil (by kernel_rfl) (by kernel_rfl) (by kernel_rfl) ?_
        rintro WE _ hp
        obtain ⟨_, hkE, kE⟩ := hp.resolve_left (fun e => by cases e.1)
        simp only [hideAll]
        clear g0 g1 g2 g3 g4 g5
        go_wp2_with fail
        (try simp only [Exit.inBlock, Exit.then])
        refine bodyPost_ret (results_ct rfl _ _ w.heap.size 51 _ _ rfl kE Tryz.underlying51 rfl (by kernel_rfl)) rfl ?_
        exact HF.out WE _ _ _ _ _ _ _ hR (hkw6.new_keep hkE (Nat.le_refl _))
      | false =>
        have hR : R = (some (⟨0, L, T, 0, V⟩, K'), c3) := by rw [HG2.out, if_neg (by rw [hcb]; simp)]
        have hgr1 : gr ≠ w.heap.size := by omega
        obtain ⟨⟨r0, r1, r2, r3, r4⟩, _⟩ := cells5 kr6
        have y0 := hC6.c1
        rw [hcb] at y0
        have g0 := stPh_cell (T := 51) (cs' := #[.int .i64 0, .slice va L.length vc, .int .i64 T, .int .i64 0, .int .u64 (V : Int)]) r0 hgr1
        have g1 := stPh_cell (T := 51) (cs' := #[.int .i64 0, .slice va L.length vc, .int .i64 T, .int .i64 0, .int .u64 (V : Int)]) r1 hgr1
        have g2 := stPh_cell (T := 51) (cs' := #[.int .i64 0, .slice va L.length vc, .int .i64 T, .int .i64 0, .int .u64 (V : Int)]) r2 hgr1
        have g3 := stPh_cell (T := 51) (cs' := #[.int .i64 0, .slice va L.length vc, .int .i64 T, .int .i64 0, .int .u64 (V : Int)]) r3 hgr1
        have g4 := stPh_cell (T := 51) (cs' := #[.int .i64 0, .slice va L.length vc, .int .i64 T, .int .i64 0, .int .u64 (V : Int)]) r4 hgr1
        have g5 := stPh_cell (T := 51) (cs' := #[.int .i64 0, .slice va L.length vc, .int .i64 T, .int .i64 0, .int .u64 (V : Int)]) y0 (show gc ≠ w.heap.size by omega)
        clear r0 r1 r2 r3 r4 y0
        go_wp2_with fail
        refine wp_region_C (stPh ((W5.setCell ⟨gr, 2, none⟩ (.int .i64 T)).setCell ⟨gr, 4, none⟩ (.int .u64 (V : Int))) w.heap.size 51 #[.int .i64 0, .slice va L.length vc, .int .i64 T, .int .i64 0, .int .u64 (V : Int)]) [6] rfl (by kernel_rfl) (by kernel_rfl) (by kernel_rfl) (by kernel_rfl) ?_
        (refine lexc_one (by kernel_rfl) (by kernel_rfl) (by kernel_rfl) (by kernel_rfl) (fun K hK => ?_); go_big_quiet_step (fail); refine wpQuiet_nil (hK _ ?_); clear hK K); (refine lexc_one (by kernel_rfl) (by kernel_rfl) (by kernel_rfl) (by kernel_rfl) (fun K hK => ?_); go_big_quiet_step (fail); refine wpQuiet_nil (hK _ ?_); clear hK K); (refine lexc_one (by kernel_rfl) (by kernel_rfl) (by kernel_rfl) (by kernel_rfl) (fun K hK => ?_); go_big_quiet_step (fail); refine wpQuiet_nil (hK _ ?_); clear hK K); (refine lexc_one (by kernel_rfl) (by kernel_rfl) (by kernel_rfl) (by kernel_rfl) (fun K hK => ?_); go_big_quiet_step (fail); refine wpQuiet_nil (hK _ ?_); clear hK K); (refine lexc_one (by kernel_rfl) (by kernel_rfl) (by kernel_rfl) (by kernel_rfl) (fun K hK => ?_); go_big_quiet_step (fail); refine wpQuiet_nil (hK _ ?_); clear hK K); (refine lexc_one (by kernel_rfl) (by kernel_rfl) (by kernel_rfl) (by kernel_rfl) (fun K hK => ?_); go_big_quiet_step (fail); refine wpQuiet_nil (hK _ ?_); clear hK K)
        refine lexc_do 0 (by kernel_rfl) (by kernel_rfl) rfl (fun _ _ h => by cases h) (by kernel_rfl) rfl (fun W hW => ?_) ?_
        · have hWb := (hW.resolve_right (fun e => e.1 rfl)).2
          have kW := Blk.below kR6 hWb kR6.lt
          obtain ⟨⟨r0, r1, r2, r3, r4⟩, s0, s1, s2, s3, s4⟩ := cells5 kW
          have hs5 := set5 kW (.int .i64 0) (.slice va L.length vc) (.int .i64 T) (.int .i64 0) (.int .u64 (V : Int))
          exact ⟨_, by go_simp, trivial, .inr ⟨by omega, (Kept.of_below hWb).trans hs5.2, hs5.1⟩⟩
        (refine lexc_one (by kernel_rfl) (by kernel_rfl) (by kernel_rfl) (by kernel_rfl) (fun K hK => ?_); go_big_quiet_step (fail); refine wpQuiet_nil (hK _ ?_); clear hK K)
        refine lexc_nil (by kernel_rfl) (by kernel_rfl) (by kernel_rfl) ?_
        rintro WE _ hp
        obtain ⟨_, hkE, kE⟩ := hp.resolve_left (fun e => by cases e.1)
        simp only [hideAll]
        clear g0 g1 g2 g3 g4 g5
        go_wp2_with fail
        (try simp only [Exit.inBlock, Exit.then])
        refine bodyPost_ret (results_ct rfl _ _ w.heap.size 51 _ _ rfl kE Tryz.underlying51 rfl (by kernel_rfl)) rfl ?_
        unfold Get1Is
        rw [hR]
        have htR := tag_blk kR6
        refine ⟨hkw6.new_keep hkE (Nat.le_refl _), .slice va L.length vc, kv3, D3, rfl, ⟨by simp, by simp, hsb2.1, hsb2.2.1, by simp, by simp, hsb2.2.2⟩, hL6.kept hkE (fun b hb e => by rw [e, htR] at hb; simp at hb), Blk.keptK hC6 hkE (show ¬ gc = w.heap.size by omega), hN6.kept hkE (fun k hk e => (hnf3 k hk).2 e), fun k hk => (hnew k hk).imp id (fun h => by omega), ?_⟩
        rw [if_pos rfl]
        exact hstn _ _ _ _ _ hS6 hkE (fun k e hk => by have := (hSL k hk).1; omega)
  · clear hbad
    subst ha
    have hcN : ∀ (b : Bool) (W : World), Cur W gc c1.1 false → NamesIs W B n K kv m D → B ≤ W.heap.size → _ := fun _ W hW hN hB => get_any c1 hN (by rw [hb1]; exact hW) hl1 (by omega) hKl hB
    have q2 := Lib.hid (hcN true)
    clear hcN
    rw [hb1] at q1
    rcases hng : namesGet K c1 with ⟨r1, c2⟩
    rw [hng] at q2 HG1
    have hc2l : r1 ≠ none → c2.1.length ≤ 1000000 := fun _ => by
      have := namesGet_len K c1
      rw [hng] at this
      exact Nat.le_trans this hl1
    go_enter Tryz.func117, Tryz.ntmps117
    go_wp2_with fail
    refine q1.out.mono ?_
    rintro e W1 ⟨rfl, hC1, hg1⟩
    have hk01 : Kept W0 W1 (fun k => k = gc) := Kept.of_grown hg1 fun k e => (Option.some.inj e).symm
    have hkw1 := (Kept.of_below (S := fun k => k = gc) bR).trans hk01
    have kR1 := kR.keptK hk01 (by omega)
    have hN1 := hNR.kept hk01 hcl
    have hS1 := hst w W1 _ hS0 hkw1 (fun k e hk => (hSL k hk).2.2.1 e)
    have d1 := hC1.c1
    have hd : decide ((2 : Int) < 1) = false := by simp
    have hd' : decide (2 < 1) = false := by simp
    have b2 := one_alloc W1 (.cells #[.int .i64 1, .slice none 0 0, .int .i64 0, .int .i64 0, .int .u64 0] 51)
    have kr2 : Blk (W1.alloc (.cells #[.int .i64 1, .slice none 0 0, .int .i64 0, .int .i64 0, .int .u64 0] 51)) W1.heap.size 51 #[.int .i64 1, .slice none 0 0, .int .i64 0, .int .i64 0, .int .u64 0] := Blk.new _ _ _
    have kR2 := Blk.below kR1 b2 kR1.lt
    have hC2 : Cur (W1.alloc (.cells #[.int .i64 1, .slice none 0 0, .int .i64 0, .int .i64 0, .int .u64 0] 51)) gc c1.1 false := Blk.below hC1 b2 hC1.lt
    have hN2 := hN1.below b2
    have hS2 := hst _ _ (fun _ => False) hS1 (Kept.of_below b2) (fun k e => e.elim)
    have hkw2 := hkw1.trans (Kept.of_below b2)
    have hwlt : w.heap.size < W1.heap.size := kR1.lt
    have hnf : ∀ k, NF n m kv k → k < w.heap.size := fun k hk => nf_lt h hk
    clear hk01 hkw1 kR1 hN1 hS1 hg1 b2
    go_wp2_with fail
    generalize W1.heap.size = gr at *
    generalize W1.alloc (.cells #[.int .i64 1, .slice none 0 0, .int .i64 0, .int .i64 0, .int .u64 0] 51) = W2 at *
    have hgrc : gr ≠ gc := by omega
    have hgr2 := kr2.lt
    refine (q2.out W2 hC2 hN2 (Nat.le_trans hB hkw2.size)).mono ?_
    rintro e W3 ⟨hk23, hpost⟩
    have hkw3 : Kept w W3 (fun k => NF n m kv k ∨ k = gc) := (hkw2.weaken fun k e => .inr e).trans hk23
    have hnotw : ∀ k, k = w.heap.size → ¬ (NF n m kv k ∨ k = gc) := fun k e h => h.elim (fun h => by have := hnf k h; omega) (fun h => by omega)
    have hnotr : ∀ k, k = gr → ¬ (NF n m kv k ∨ k = gc) := fun k e h => h.elim (fun h => by have := hnf k h; omega) (fun h => by omega)
    have kR3 := kR2.keptK hk23 (hnotw _ rfl)
    have kr3 := kr2.keptK hk23 (hnotr _ rfl)
    have hS3 := hst W2 W3 _ hS2 hk23 (fun k e hk => e.elim (hSL k hk).2.1 (hSL k hk).2.2.1)
    clear q2 hk23 hC2 hN2 hS2 kR2 kr2 hkw2
    cases r1 with
    | none =>
      obtain ⟨v, rfl⟩ := hpost
      have hR : R.1 = none := by rw [HG1.out]
      obtain ⟨⟨r0, r1, r2, r3, r4⟩, s0, s1, s2, s3, s4⟩ := cells5 kR3
      obtain ⟨kR4, hk4⟩ := set5 kR3 (.int .i64 0) (.slice none 0 0) (.int .i64 0) (.int .i64 0) (.int .u64 0)
      obtain ⟨⟨x0, x1, x2, x3, x4⟩, _⟩ := cells5 kr3
      have HE := Lib.hid (HF.out _ 0 0 0 0 none 0 0 hR ((hkw3.weaken fun k e => e.elim .inl (fun e => .inr (.inl e))).new_keep hk4 (Nat.le_refl _)))
      go_wp2_with fail
      (try simp only [Exit.inBlock, Exit.then])
      refine bodyPost_ret (results_ct rfl _ _ w.heap.size 51 _ _ rfl kR4 Tryz.underlying51 rfl (by kernel_rfl)) rfl ?_
      exact HE.out
    | some z =>
      obtain ⟨L, K'⟩ := z
      obtain ⟨v, kv3, D3, rfl, hLa, hC3, hN3, hnew⟩ := hpost
      have hc2l := hc2l (by simp)
      obtain ⟨va, vc, rfl, _⟩ := id hLa.1
      have hnf3 : ∀ k, NF n m kv3 k → k ≠ gr ∧ k ≠ w.heap.size := fun k hk => (hnew k hk).elim (fun h => by have := hnf k h; omega) (fun h => by omega)
      obtain ⟨⟨x0, x1, x2, x3, x4⟩, f0, f1, f2, f3, f4⟩ := cells5 kr3
      have hk34 : Kept W3 (W3.setCell ⟨gr, 1, none⟩ (.slice va L.length vc)) (fun k => k = gr) := Kept.of_grown (grown_set _ _ _ _) fun k e => (Option.some.inj e).symm
      have kr4 : Blk (W3.setCell ⟨gr, 1, none⟩ (.slice va L.length vc)) gr 51 #[.int .i64 1, .slice va L.length vc, .int .i64 0, .int .i64 0, .int .u64 0] := Blk.set_ kr3 1 _
      have kR4 := kR3.keptK hk34 (by omega)
      have hC4 : Cur (W3.setCell ⟨gr, 1, none⟩ (.slice va L.length vc)) gc c2.1 c2.2 := Blk.keptK hC3 hk34 (fun e => hgrc e.symm)
      have hN4 := hN3.kept hk34 (fun k hk e => (hnf3 k hk).1 e)
      have hS4 := hst _ _ _ hS3 hk34 (fun k e hk => by have := (hSL k hk).1; omega)
      have htr := tag_blk kr3
      have hL4 := hLa.kept hk34 (fun b hb e => by rw [e, htr] at hb; simp at hb)
      have hkw4 := hkw3.new_keep hk34 (show w.heap.size ≤ gr by omega)
      clear hk34 kr3 kR3 hC3 hN3 hS3 hLa hkw3 htr
      have HG2 := Lib.hid (show R = if (sN (sN c2)).2 = true then (none, sN (sN c2)) else (some (⟨1, L, Num.zagI (sV c2), Num.zagI (sV (sN c2)), 0⟩, K'), sN (sN c2)) by rw [HG1.out]; rfl)
      clear HG1 hs hsb hcf
      have hc3l : (sN c2).1.length ≤ 1000000 := Nat.le_trans (nxt_len _ _) hc2l
      obtain ⟨t1, ht1, ht1b⟩ := sV_nat c2
      obtain ⟨t2, ht2, ht2b⟩ := sV_nat (sN c2)
      have q3 := Lib.hid (fun W hW => CSm gc c2 W hW (by omega))
      have q4 := Lib.hid (fun W hW => CSm gc (sN c2) W hW (by omega))
      have q5 := Lib.hid (fun W => num_Zag_any (t1 : Int) W (by omega) (by omega))
      have q6 := Lib.hid (fun W => num_Zag_any (t2 : Int) W (by omega) (by omega))
      have zb1 := Num.zag_bd (t1 : Int) (by omega) (by omega)
      have zb2 := Num.zag_bd (t2 : Int) (by omega) (by omega)
      rw [ht1] at HG2 q3
      rw [ht2] at HG2 q4
      clear ht1 ht2
      generalize sN c2 = c3 at *
      generalize sN c3 = c4 at *
      go_wp2_with fail
      generalize W3.setCell ⟨gr, 1, none⟩ (.slice va L.length vc) = W4 at *
      refine (q3.out W4 hC4).mono ?_
      rintro e W5 ⟨rfl, hC5, hg5⟩
      go_wp2_with fail
      refine (q5.out _).mono ?_
      rintro e _ ⟨rfl, rfl⟩
      go_wp2_with fail
      refine (q4.out W5 hC5).mono ?_
      rintro e W6a ⟨rfl, hC6a, hg6⟩
      go_wp2_with fail
      refine (q6.out _).mono ?_
      rintro e _ ⟨rfl, rfl⟩
      have hk45 : Kept W4 W6a (fun k => k = gc) := Kept.of_grown (grown_trans' hg5 hg6) fun k e => (Option.some.inj e).symm
      have kr5 := kr4.keptK hk45 hgrc
      have kR5 := kR4.keptK hk45 (by omega)
      have hN5 := hN4.kept hk45 (cur_away hN4 hC4)
      have htc := tag_blk hC4
      have hL5 := hL4.kept hk45 (fun b hb e => by rw [e, htc] at hb; simp at hb)
      have hS5 := hst _ _ _ hS4 hk45 (fun k e hk => (hSL k hk).2.2.1 e)
      obtain ⟨⟨x0, x1, x2, x3, x4⟩, f0, f1, f2, f3, f4⟩ := cells5 kr5
      have kr6 : Blk ((W6a.setCell ⟨gr, 2, none⟩ (.int .i64 (Num.zagI (t1 : Int)))).setCell ⟨gr, 3, none⟩ (.int .i64 (Num.zagI (t2 : Int)))) gr 51 #[.int .i64 1, .slice va L.length vc, .int .i64 (Num.zagI (t1 : Int)), .int .i64 (Num.zagI (t2 : Int)), .int .u64 0] := Blk.set_ (Blk.set_ kr5 2 _) 3 _
      have hk56 : Kept W6a ((W6a.setCell ⟨gr, 2, none⟩ (.int .i64 (Num.zagI (t1 : Int)))).setCell ⟨gr, 3, none⟩ (.int .i64 (Num.zagI (t2 : Int)))) (fun k => k = gr) := Kept.of_grown (grown_trans' (grown_set _ _ _ _) (grown_set _ _ _ _)) fun k e => (Option.some.inj e).symm
      have kR6 := kR5.keptK hk56 (by omega)
      have hC6 : Cur ((W6a.setCell ⟨gr, 2, none⟩ (.int .i64 (Num.zagI (t1 : Int)))).setCell ⟨gr, 3, none⟩ (.int .i64 (Num.zagI (t2 : Int)))) gc c4.1 c4.2 := Blk.keptK hC6a hk56 (fun e => hgrc e.symm)
      have hN6 := hN5.kept hk56 (fun k hk e => (hnf3 k hk).1 e)
      have hS6 := hst _ _ _ hS5 hk56 (fun k e hk => by have := (hSL k hk).1; omega)
      have htr := tag_blk kr5
      have hL6 := hL5.kept hk56 (fun b hb e => by rw [e, htr] at hb; simp at hb)
      have hkw6 := (((hkw4.weaken (T := fun k => NF n m kv k ∨ k = gc ∨ SL k) fun k e => e.elim .inl (fun e => .inr (.inl e))).trans (hk45.weaken fun k e => .inr (.inl e))).new_keep hk56 (show w.heap.size ≤ gr by omega))
      clear hk45 hk56 kr4 kr5 kR4 kR5 hN4 hN5 hL4 hL5 hC4 hC5 hC6a hS4 hS5 hkw4 q3 q4 q5 q6 htc htr hg5 hg6
      cases hcb : c4.2 with
      | true =>
        have hR : R.1 = none := by rw [HG2.out, if_pos hcb]
        have hgr1 : gr ≠ w.heap.size := by omega
        obtain ⟨⟨r0, r1, r2, r3, r4⟩, _⟩ := cells5 kr6
        have y0 := hC6.c1
        rw [hcb] at y0
        have g0 := stPh_cell (T := 51) (cs' := #[.int .i64 1, .slice va L.length vc, .int .i64 (Num.zagI (t1 : Int)), .int .i64 (Num.zagI (t2 : Int)), .int .u64 0]) r0 hgr1
        have g1 := stPh_cell (T := 51) (cs' := #[.int .i64 1, .slice va L.length vc, .int .i64 (Num.zagI (t1 : Int)), .int .i64 (Num.zagI (t2 : Int)), .int .u64 0]) r1 hgr1
        have g2 := stPh_cell (T := 51) (cs' := #[.int .i64 1, .slice va L.length vc, .int .i64 (Num.zagI (t1 : Int)), .int .i64 (Num.zagI (t2 : Int)), .int .u64 0]) r2 hgr1
        have g3 := stPh_cell (T := 51) (cs' := #[.int .i64 1, .slice va L.length vc, .int .i64 (Num.zagI (t1 : Int)), .int .i64 (Num.zagI (t2 : Int)), .int .u64 0]) r3 hgr1
        have g4 := stPh_cell (T := 51) (cs' := #[.int .i64 1, .slice va L.length vc, .int .i64 (Num.zagI (t1 : Int)), .int .i64 (Num.zagI (t2 : Int)), .int .u64 0]) r4 hgr1
        have g5 := stPh_cell (T := 51) (cs' := #[.int .i64 1, .slice va L.length vc, .int .i64 (Num.zagI (t1 : Int)), .int .i64 (Num.zagI (t2 : Int)), .int .u64 0]) y0 (show gc ≠ w.heap.size by omega)
        clear r0 r1 r2 r3 r4 y0
        go_wp2_with fail
        refine wp_region_C (stPh ((W6a.setCell ⟨gr, 2, none⟩ (.int .i64 (Num.zagI (t1 : Int)))).setCell ⟨gr, 3, none⟩ (.int .i64 (Num.zagI (t2 : Int)))) w.heap.size 51 #[.int .i64 1, .slice va L.length vc, .int .i64 (Num.zagI (t1 : Int)), .int .i64 (Num.zagI (t2 : Int)), .int .u64 0]) [6] rfl (by kernel_rfl) (by kernel_rfl) (by kernel_rfl) (by kernel_rfl) ?_
        (refine lexc_one (by kernel_rfl) (by kernel_rfl) (by kernel_rfl) (by kernel_rfl) (fun K hK => ?_); go_big_quiet_step (fail); refine wpQuiet_nil (hK _ ?_); clear hK K); (refine lexc_one (by kernel_rfl) (by kernel_rfl) (by kernel_rfl) (by kernel_rfl) (fun K hK => ?_); go_big_quiet_step (fail); refine wpQuiet_nil (hK _ ?_); clear hK K); (refine lexc_one (by kernel_rfl) (by kernel_rfl) (by kernel_rfl) (by kernel_rfl) (fun K hK => ?_); go_big_quiet_step (fail); refine wpQuiet_nil (hK _ ?_); clear hK K); (refine lexc_one (by kernel_rfl) (by kernel_rfl) (by kernel_rfl) (by kernel_rfl) (fun K hK => ?_); go_big_quiet_step (fail); refine wpQuiet_nil (hK _ ?_); clear hK K); (refine lexc_one (by kernel_rfl) (by kernel_rfl) (by kernel_rfl) (by kernel_rfl) (fun K hK => ?_); go_big_quiet_step (fail); refine wpQuiet_nil (hK _ ?_); clear hK K); (refine lexc_one (by kernel_rfl) (by kernel_rfl) (by kernel_rfl) (by kernel_rfl) (fun K hK => ?_); go_big_quiet_step (fail); refine wpQuiet_nil (hK _ ?_); clear hK K)
        refine lexc_do 0 (by kernel_rfl) (by kernel_rfl) rfl (fun _ _ h => by cases h) (by kernel_rfl) rfl (fun W hW => ?_) ?_
        · have hWb := (hW.resolve_right (fun e => e.1 rfl)).2
          have kW := Blk.below kR6 hWb kR6.lt
          obtain ⟨⟨r0, r1, r2, r3, r4⟩, s0, s1, s2, s3, s4⟩ := cells5 kW
          have hs5 := set5 kW (.int .i64 1) (.slice va L.length vc) (.int .i64 (Num.zagI (t1 : Int))) (.int .i64 (Num.zagI (t2 : Int))) (.int .u64 0)
          exact ⟨_, by go_simp, trivial, .inr ⟨by omega, (Kept.of_below hWb).trans hs5.2, hs5.1⟩⟩
        (refine lexc_one (by kernel_rfl) (by kernel_rfl) (by kernel_rfl) (by kernel_rfl) (fun K hK => ?_); go_big_quiet_step (fail); refine wpQuiet_nil (hK _ ?_); clear hK K)
        refine lexc_nil (by kernel_rfl) (by kernel_rfl) (by kernel_rfl) ?_
        rintro WE _ hp
        obtain ⟨_, hkE, kE⟩ := hp.resolve_left (fun e => by cases e.1)
        simp only [hideAll]
        clear g0 g1 g2 g3 g4 g5
        go_wp2_with fail
        (try simp only [Exit.inBlock, Exit.then])
        refine bodyPost_ret (results_ct rfl _ _ w.heap.size 51 _ _ rfl kE Tryz.underlying51 rfl (by kernel_rfl)) rfl ?_
        exact HF.out WE _ _ _ _ _ _ _ hR (hkw6.new_keep hkE (Nat.le_refl _))
      | false =>
        have hR : R = (some (⟨1, L, Num.zagI (t1 : Int), Num.zagI (t2 : Int), 0⟩, K'), c4) := by rw [HG2.out, if_neg (by rw [hcb]; simp)]
        have hgr1 : gr ≠ w.heap.size := by omega
        obtain ⟨⟨r0, r1, r2, r3, r4⟩, _⟩ := cells5 kr6
        have y0 := hC6.c1
        rw [hcb] at y0
        have g0 := stPh_cell (T := 51) (cs' := #[.int .i64 1, .slice va L.length vc, .int .i64 (Num.zagI (t1 : Int)), .int .i64 (Num.zagI (t2 : Int)), .int .u64 0]) r0 hgr1
        have g1 := stPh_cell (T := 51) (cs' := #[.int .i64 1, .slice va L.length vc, .int .i64 (Num.zagI (t1 : Int)), .int .i64 (Num.zagI (t2 : Int)), .int .u64 0]) r1 hgr1
        have g2 := stPh_cell (T := 51) (cs' := #[.int .i64 1, .slice va L.length vc, .int .i64 (Num.zagI (t1 : Int)), .int .i64 (Num.zagI (t2 : Int)), .int .u64 0]) r2 hgr1
        have g3 := stPh_cell (T := 51) (cs' := #[.int .i64 1, .slice va L.length vc, .int .i64 (Num.zagI (t1 : Int)), .int .i64 (Num.zagI (t2 : Int)), .int .u64 0]) r3 hgr1
        have g4 := stPh_cell (T := 51) (cs' := #[.int .i64 1, .slice va L.length vc, .int .i64 (Num.zagI (t1 : Int)), .int .i64 (Num.zagI (t2 : Int)), .int .u64 0]) r4 hgr1
        have g5 := stPh_cell (T := 51) (cs' := #[.int .i64 1, .slice va L.length vc, .int .i64 (Num.zagI (t1 : Int)), .int .i64 (Num.zagI (t2 : Int)), .int .u64 0]) y0 (show gc ≠ w.heap.size by omega)
        clear r0 r1 r2 r3 r4 y0
        go_wp2_with fail
        refine wp_region_C (stPh ((W6a.setCell ⟨gr, 2, none⟩ (.int .i64 (Num.zagI (t1 : Int)))).setCell ⟨gr, 3, none⟩ (.int .i64 (Num.zagI (t2 : Int)))) w.heap.size 51 #[.int .i64 1, .slice va L.length vc, .int .i64 (Num.zagI (t1 : Int)), .int .i64 (Num.zagI (t2 : Int)), .int .u64 0]) [6] rfl (by kernel_rfl) (by kernel_rfl) (by kernel_rfl) (by kernel_rfl) ?_
        (refine lexc_one (by kernel_rfl) (by kernel_rfl) (by kernel_rfl) (by kernel_rfl) (fun K hK => ?_); go_big_quiet_step (fail); refine wpQuiet_nil (hK _ ?_); clear hK K); (refine lexc_one (by kernel_rfl) (by kernel_rfl) (by kernel_rfl) (by kernel_rfl) (fun K hK => ?_); go_big_quiet_step (fail); refine wpQuiet_nil (hK _ ?_); clear hK K); (refine lexc_one (by kernel_rfl) (by kernel_rfl) (by kernel_rfl) (by kernel_rfl) (fun K hK => ?_); go_big_quiet_step (fail); refine wpQuiet_nil (hK _ ?_); clear hK K); (refine lexc_one (by kernel_rfl) (by kernel_rfl) (by kernel_rfl) (by kernel_rfl) (fun K hK => ?_); go_big_quiet_step (fail); refine wpQuiet_nil (hK _ ?_); clear hK K); (refine lexc_one (by kernel_rfl) (by kernel_rfl) (by kernel_rfl) (by kernel_rfl) (fun K hK => ?_); go_big_quiet_step (fail); refine wpQuiet_nil (hK _ ?_); clear hK K); (refine lexc_one (by kernel_rfl) (by kernel_rfl) (by kernel_rfl) (by kernel_rfl) (fun K hK => ?_); go_big_quiet_step (fail); refine wpQuiet_nil (hK _ ?_); clear hK K)
        refine lexc_do 0 (by kernel_rfl) (by kernel_rfl) rfl (fun _ _ h => by cases h) (by kernel_rfl) rfl (fun W hW => ?_) ?_
        · have hWb := (hW.resolve_right (fun e => e.1 rfl)).2
          have kW := Blk.below kR6 hWb kR6.lt
          obtain ⟨⟨r0, r1, r2, r3, r4⟩, s0, s1, s2, s3, s4⟩ := cells5 kW
          have hs5 := set5 kW (.int .i64 1) (.slice va L.length vc) (.int .i64 (Num.zagI (t1 : Int))) (.int .i64 (Num.zagI (t2 : Int))) (.int .u64 0)
          exact ⟨_, by go_simp, trivial, .inr ⟨by omega, (Kept.of_below hWb).trans hs5.2, hs5.1⟩⟩
        (refine lexc_one (by kernel_rfl) (by kernel_rfl) (by kernel_rfl) (by kernel_rfl) (fun K hK => ?_); go_big_quiet_step (fail); refine wpQuiet_nil (hK _ ?_); clear hK K)
        refine lexc_nil (by kernel_rfl) (by kernel_rfl) (by kernel_rfl) ?_
        rintro WE _ hp
        obtain ⟨_, hkE, kE⟩ := hp.resolve_left (fun e => by cases e.1)
        simp only [hideAll]
        clear g0 g1 g2 g3 g4 g5
        go_wp2_with fail
        (try simp only [Exit.inBlock, Exit.then])
        refine bodyPost_ret (results_ct rfl _ _ w.heap.size 51 _ _ rfl kE Tryz.underlying51 rfl (by kernel_rfl)) rfl ?_
        unfold Get1Is
        rw [hR]
        have htR := tag_blk kR6
        refine ⟨hkw6.new_keep hkE (Nat.le_refl _), .slice va L.length vc, kv3, D3, rfl, ⟨by simp, by simp, zb1.1, zb1.2, zb2.1, zb2.2, by simp⟩, hL6.kept hkE (fun b hb e => by rw [e, htR] at hb; simp at hb), Blk.keptK hC6 hkE (show ¬ gc = w.heap.size by omega), hN6.kept hkE (fun k hk e => (hnf3 k hk).2 e), fun k hk => (hnew k hk).imp id (fun h => by omega), ?_⟩
        rw [if_neg (by simp)]
        exact hst _ _ _ hS6 hkE (fun k e hk => by have := (hSL k hk).1; omega)
end
end Go.Proofs.YtipdeiiipdnacaaGreat
namespace Go.Proofs.YtipdeiiipdnacaaGreat
open Go.RowKit Go.Maps Go.WideMaps
attribute [local go_sem] bs_toList bs_size

/-- What a sample tells in generation 2. -/
def smp2 (c : CS) : (Int × Nat) × CS := ((i64N (sV c).toNat, (wV (sN c)).toNat), wN (sN c))
theorem wV_nat (c : CS) : ∃ n : Nat, wV c = n ∧ n < 18446744073709551616 := by
  unfold wV
  split
  · exact ⟨0, rfl, by omega⟩
  · cases h : Num.getWide c.1 with
    | none => exact ⟨0, rfl, by omega⟩
    | some x =>
      obtain ⟨n, k⟩ := x
      exact ⟨n, rfl, (Num.getWide_only _ _ _ h).1⟩
set_option maxRecDepth 100000 in
set_option maxHeartbeats 1000000 in
theorem smp2_any (gc : Nat) (w : World) (c : CS) (hC : Cur w gc c.1 c.2) (hl : c.1.length ≤ 1000000) :
    Calls Tryz.prog 118 #[.pointer (some ⟨gc, 0, none⟩)] w fun e w' => e = .returned (.tuple #[.int .i64 (smp2 c).1.1, .int .u64 ((smp2 c).1.2 : Int)]) ∧ Cur w' gc (smp2 c).2.1 (smp2 c).2.2 ∧ Kept w w' (fun k => k = gc ∨ False) := by
  have q1 := Lib.hid (CSm gc c w hC (by omega))
  have hl1 : (sN c).1.length ≤ 1000000 := Nat.le_trans (nxt_len _ _) hl
  have q2 := Lib.hid (fun W hW => CWd gc (sN c) W hW (by omega))
  obtain ⟨t1, h1, h1b⟩ := sV_nat c
  obtain ⟨t2, h2, h2b⟩ := wV_nat (sN c)
  have hS : smp2 c = ((i64N t1, t2), wN (sN c)) := by unfold smp2; rw [h1, h2]; rfl
  rw [hS]
  rw [h1] at q1
  rw [h2] at q2
  have hz := i64N_wrap t1 h1b
  clear hS h1 h2
  generalize sN c = c1 at *
  generalize wN c1 = c2 at *
  go_enter Tryz.func118, Tryz.ntmps118
  go_wp2_with fail
  refine q1.out.mono ?_
  rintro e W1 ⟨rfl, hC1, hg1⟩
  go_wp2_with fail
  refine (q2.out _ hC1).mono ?_
  rintro e W2 ⟨rfl, hC2, hg2⟩
  go_wp2_with fail
  go_ret2
  exact ⟨rfl, hC2, Kept.of_grown (grown_trans' hg1 hg2) fun k e => .inl (Option.some.inj e).symm⟩

/-- The change that bytes begin with, in generation 2, and the keys then; or the shape. -/
def smallGet (K : List (List UInt8)) (s : List UInt8) : Option (Rc × List (List UInt8)) × Int :=
  if (frameGet s 20000).2.2 ≠ 0 then (none, (frameGet s 20000).2.2)
  else match get1P smp2 K ((frameGet s 20000).1, false) with
    | (none, _) => (none, 2)
    | (some (x, K'), c) => if doneB c.1 c.2 = false ∨ validE x 2 ≠ 0 then (none, 2) else (some (x, K'), 0)
theorem frameGet_len (s : List UInt8) (m : Nat) : (frameGet s m).1.length ≤ s.length ∧ (frameGet s m).2.1.length ≤ s.length := by
  unfold frameGet
  split
  · exact ⟨by simp, Nat.le_refl _⟩
  · split
    · exact ⟨by simp, Nat.le_refl _⟩
    · split
      · exact ⟨by simp, Nat.le_refl _⟩
      · split
        · exact ⟨by simp; omega, by simp⟩
        · exact ⟨by simp, Nat.le_refl _⟩
theorem frameGet_sh (s : List UInt8) (m : Nat) : (frameGet s m).2.2 = 0 ∨ (frameGet s m).2.2 = 1 ∨ (frameGet s m).2.2 = 2 := by
  unfold frameGet
  split
  · split
    · exact .inr (.inl rfl)
    · exact .inr (.inr rfl)
  · split
    · exact .inr (.inr rfl)
    · split
      · exact .inr (.inl rfl)
      · split
        · exact .inl rfl
        · exact .inr (.inr rfl)
def SGetIs (w : World) (B n m : Nat) (kv : Value) (s rest : List UInt8) (r : Option (Rc × List (List UInt8)) × Int) (e : Ending) (w' : World) : Prop :=
  Below B w w' ∧ match r.1 with
    | none => e = .returned (.tuple #[.slice none 0 0, .string (bs s), .int .i64 r.2]) ∧ (r.2 = 2 ∨ (r.2 = 1 ∧ Below w.heap.size w w'))
    | some (x, K') => ∃ v sl kv' D', e = .returned (.tuple #[v, .string (bs rest), .int .i64 0]) ∧ GotAt w' v [(x, sl)] ∧ NamesIs w' B n K' kv' m D' ∧ Turn w w' (NF n m kv) (NF n m kv')
section
variable {w : World} {B n m : Nat} {K : List (List UInt8)} {kv : Value} {D : DataW Unit}
set_option maxRecDepth 100000 in
set_option maxHeartbeats 8000000 in
theorem small_get_any (s : List UInt8) (h : NamesIs w B n K kv m D) (hl : s.length ≤ 1000000) (hK : K.length ≤ 1048575) (hKl : ∀ k ∈ K, k.length ≤ 1000000) (hB : B ≤ w.heap.size) :
    Calls Tryz.prog 114 #[.agg #[.pointer (some ⟨n, 0, none⟩)], .string (bs s)] w (SGetIs w B n m kv s (frameGet s 20000).2.1 (smallGet K s)) := by
  have b0 := one_alloc w (.cells #[.pointer (some ⟨n, 0, none⟩)] 80)
  have k0 : Blk (w.alloc (.cells #[.pointer (some ⟨n, 0, none⟩)] 80)) w.heap.size 80 #[.pointer (some ⟨n, 0, none⟩)] := Blk.new _ _ _
  have hG : smallGet K s = if (frameGet s 20000).2.2 ≠ 0 then (none, (frameGet s 20000).2.2)
    else match get1P smp2 K ((frameGet s 20000).1, false) with
      | (none, _) => (none, 2)
      | (some (x, K'), c) => if doneB c.1 c.2 = false ∨ validE x 2 ≠ 0 then (none, 2) else (some (x, K'), 0) := rfl
  have q0 := Lib.hid (fun W => Get_any s 20000 (by omega) (by omega) W)
  have hfl := frameGet_len s 20000
  have hs3 := Lib.hid (frameGet_sh s 20000)
  generalize smallGet K s = R at *
  rcases hfg : frameGet s 20000 with ⟨b, rest, sh⟩
  rw [hfg] at q0 hfl hG hs3
  rw [show frameV (b, rest, sh) = .tuple #[.string (bs b), .string (bs rest), .int .i64 sh] from rfl] at q0
  simp only at hG hfl
  by_cases hsh : sh = 0
  · rw [if_neg (by simp [hsh])] at hG
    subst hsh
    have HG := Lib.hid hG
    clear hG hfg
    go_enter Tryz.func114, Tryz.ntmps114
    go_wp2_with fail
    refine (q0.out _).mono ?_
    rintro e W1 ⟨rfl, hb1⟩
    have hbw1 := b0.trans (hb1.mono b0.size)
    have k1 := Blk.below k0 hb1 k0.lt
    have e1 : W1.cell? ⟨w.heap.size, 0, none⟩ = some (.pointer (some ⟨n, 0, none⟩)) := (Blk.cell k1 0).trans rfl
    have kc : Cur (W1.alloc (.cells #[.string (bs b), .bool false] 120)) W1.heap.size b false := Blk.new _ _ _
    have bc := one_alloc W1 (.cells #[.string (bs b), .bool false] 120)
    have hN2 := (h.below hbw1).below bc
    have hq := get1_any (gc := W1.heap.size) (b, false) 118 #[] smp2 (fun _ => False) (fun _ => True) (fun _ _ _ => True) hN2 kc (by simp only; omega) hK hKl (Nat.le_trans hB (Nat.le_trans hbw1.size bc.size)) trivial (fun k e => e.elim) (fun _ _ _ _ _ _ => trivial) (fun _ _ _ _ _ _ _ _ => trivial) (fun c => by
      obtain ⟨t1, h1, h1b⟩ := sV_nat c
      obtain ⟨t2, h2, h2b⟩ := wV_nat (sN c)
      unfold smp2
      rw [h1, h2]
      have := i64N_bd t1 h1b
      exact ⟨this.1, this.2, h2b⟩) (fun W => by go_simp) (fun W c hW hcl _ => (smp2_any _ W c hW hcl).mono fun e w' ⟨a1, a2, a3⟩ => ⟨a1, a2, trivial, a3⟩)
    have e2 := (bc.cell (World.block_lt_of_cell? _ _ e1)).trans e1
    have q := Lib.hid hq
    clear hq q0
    go_wp2_with fail
    generalize W1.alloc (.cells #[.string (bs b), .bool false] 120) = W2 at *
    have hgc : w.heap.size < W1.heap.size := k1.lt
    have hgc2 := kc.lt
    generalize W1.heap.size = gc at *
    rcases hgp : get1P smp2 K (b, false) with ⟨r1, c1⟩
    have hR := HG.out
    rw [hgp] at q hR
    have hbw2 : Below w.heap.size w W2 := hbw1.trans (bc.mono (by omega))
    clear k0 k1 e1 hb1 hbw1 bc HG b0
    refine q.out.mono ?_
    rintro e W3 ⟨hk3, hpost⟩
    have hB2 : B ≤ W2.heap.size := Nat.le_trans hB hbw2.size
    have hs3 := hk3.size
    have hbB3 : Below B w W3 := (hbw2.mono hB).trans (Kept.below hk3 hB2 (fun k hk => hk.elim (hN2.ge k) (fun h => h.elim (fun h => by omega) (fun h => h.elim))))
    cases r1 with
    | none =>
      obtain ⟨kk, _, t, u, v, rfl, sa, sn, sc, rfl⟩ := hpost
      simp only at hR
      have HQ := Lib.hid (show ∀ w', Below B w w' → SGetIs w B n m kv s rest R (.returned (.tuple #[.slice none 0 0, .string (bs s), .int .i64 2])) w' from fun w' hb => by
        unfold SGetIs
        rw [hR]
        exact ⟨hb, rfl, .inl rfl⟩)
      clear hR hN2 hk3 q kc
      go_wp2_with fail
      go_ret3
      exact HQ.out _ (hbB3.alloc (Nat.le_trans hB2 (by omega)) _)
    | some z =>
      obtain ⟨x, K'⟩ := z
      obtain ⟨sl, kv3, D3, rfl, hok, hLa, hC3, hN3, hnew, _⟩ := hpost
      simp only at hR
      have HW := Lib.hid (show ∀ w', R = (none, 2) → Below B w w' → SGetIs w B n m kv s rest R (.returned (.tuple #[.slice none 0 0, .string (bs s), .int .i64 2])) w' from fun w' e hb => by
        unfold SGetIs
        rw [e]
        exact ⟨hb, rfl, .inl rfl⟩)
      have hT3 : Turn w W3 (NF n m kv) (NF n m kv3) := by
        have hkw : Kept w W3 (NF n m kv) := by
          have h1 := (Kept.of_below (S := NF n m kv) hbw2)
          refine ⟨hk3.os.trans h1.os, hk3.tape.trans h1.tape, hk3.output.trans h1.output, Nat.le_trans h1.size hk3.size, fun i hi hn => ?_⟩
          rw [hk3.block i (Nat.lt_of_lt_of_le hi h1.size) (fun e => e.elim hn (fun e => e.elim (fun e => by omega) (fun e => e.elim)))]
          exact h1.block i hi hn
        exact ⟨hkw, fun k hk => (hnew k hk).imp id (fun h => Nat.le_trans hbw2.size h)⟩
      have hb4 := one_alloc W3 (.cells #[.int .i64 x.kind, sl, .int .i64 x.t, .int .i64 x.u, .int .u64 (x.v : Int)] 51)
      have kr : Blk (W3.alloc (.cells #[.int .i64 x.kind, sl, .int .i64 x.t, .int .i64 x.u, .int .u64 (x.v : Int)] 51)) W3.heap.size 51 #[.int .i64 x.kind, sl, .int .i64 x.t, .int .i64 x.u, .int .u64 (x.v : Int)] := Blk.new _ _ _
      have hC4 : Cur (W3.alloc (.cells #[.int .i64 x.kind, sl, .int .i64 x.t, .int .i64 x.u, .int .u64 (x.v : Int)] 51)) gc c1.1 c1.2 := Blk.below hC3 hb4 hC3.lt
      have hL4 := hLa.below hb4
      have hN4 := hN3.below hb4
      have hT4 := hT3.trans (Turn.of_below hb4)
      have hbB4 := hbB3.trans (Below.mono hb4 (Nat.le_trans hB2 hs3))
      obtain ⟨va, vc, rfl, _⟩ := id hLa.1
      have qD := Lib.hid (CDone gc c1.1 c1.2 _ hC4)
      have qV := Lib.hid (Valid_any x (.slice va x.labels.length vc) 2 _ hok hL4.1 (by omega) (by omega))
      rw [show recV x (.slice va x.labels.length vc) = .agg #[.int .i64 x.kind, .slice va x.labels.length vc, .int .i64 x.t, .int .i64 x.u, .int .u64 (x.v : Int)] from rfl] at qV
      have HT := Lib.hid (show ∀ w' v, R = (some (x, K'), 0) → Below B w w' → GotAt w' v [(x, .slice va x.labels.length vc)] → NamesIs w' B n K' kv3 m D3 → Turn w w' (NF n m kv) (NF n m kv3) → SGetIs w B n m kv s rest R (.returned (.tuple #[v, .string (bs rest), .int .i64 0])) w' from fun w' v e hb hg hn ht => by
        unfold SGetIs
        rw [e]
        exact ⟨hb, v, _, kv3, D3, rfl, hg, hn, ht⟩)
      obtain ⟨⟨x0, x1, x2, x3, x4⟩, _⟩ := cells5 kr
      have HR := Lib.hid hR
      have hB4 : B ≤ (W3.alloc (.cells #[.int .i64 x.kind, .slice va x.labels.length vc, .int .i64 x.t, .int .i64 x.u, .int .u64 (x.v : Int)] 51)).heap.size := Nat.le_trans (Nat.le_trans hB2 hs3) hb4.size
      clear hR hN2 hk3 q kc hT3 hC3 hLa hN3 hnew
      generalize doneB c1.1 c1.2 = db at *
      generalize validE x 2 = ve at *
      rw [show recV x (.slice va x.labels.length vc) = .agg #[.int .i64 x.kind, .slice va x.labels.length vc, .int .i64 x.t, .int .i64 x.u, .int .u64 (x.v : Int)] from rfl]
      go_wp2_with fail
      generalize W3.heap.size = gr at *
      generalize W3.alloc (.cells #[.int .i64 x.kind, .slice va x.labels.length vc, .int .i64 x.t, .int .i64 x.u, .int .u64 (x.v : Int)] 51) = W4 at *
      refine qD.out.mono ?_
      rintro e _ ⟨rfl, rfl⟩
      cases db with
      | false =>
        have HE := Lib.hid (HW.out W4 (by rw [HR.out, if_pos (.inl rfl)]) hbB4)
        clear HW HT HR qV
        go_wp2_with fail
        go_ret3
        exact HE.out
      | true =>
        go_wp2_with fail
        refine qV.out.mono ?_
        rintro e W5 ⟨rfl, hb5⟩
        have hbB5 := hbB4.trans (Below.mono hb5 hB4)
        by_cases h0v : ve = 0
        · subst h0v
          have HE := Lib.hid (fun w' v => HT.out w' v (by rw [HR.out, if_neg (by simp)]))
          have kr5 := Blk.below kr hb5 kr.lt
          obtain ⟨⟨y0, y1, y2, y3, y4⟩, _⟩ := cells5 kr5
          have hL5 := hL4.below hb5
          have hN5 := hN4.below hb5
          have hT5 := hT4.trans (Turn.of_below hb5)
          clear HW HT HR qV qD x0 x1 x2 x3 x4 hL4 hN4 hT4 hC4 kr kr5 hb4
          go_wp2_with fail
          go_ret3
          have hb6 := one_alloc W5 (.cells [.int .i64 x.kind, .slice va x.labels.length vc, .int .i64 x.t, .int .i64 x.u, .int .u64 (x.v : Int)].toArray 51)
          refine HE.out _ _ (hbB5.trans (Below.mono hb6 (Nat.le_trans hB4 hb5.size))) ⟨⟨W5.heap.size, _, rfl, ?_⟩, fun z hz => ?_⟩ (hN5.below hb6) (hT5.trans (Turn.of_below hb6))
          · rw [show recsCells [(x, .slice va x.labels.length vc)] = [.int .i64 x.kind, .slice va x.labels.length vc, .int .i64 x.t, .int .i64 x.u, .int .u64 (x.v : Int)] from rfl]
            exact cells_list_new _ _ _
          · obtain rfl := List.mem_singleton.1 hz
            exact ⟨hok, hL5.below hb6⟩
        · have hvz : (ve != 0) = true := by simpa using h0v
          have hvz2 : (ve == 0) = false := by simpa using h0v
          have HE := Lib.hid (HW.out W5 (by rw [HR.out, if_pos (.inr h0v)]) hbB5)
          clear HW HT HR qV
          go_wp2_with fail
          go_ret3
          exact HE.out
  · rw [if_pos hsh] at hG
    subst hG
    have hz : (sh != 0) = true := by simpa using hsh
    have hz2 : (sh == 0) = false := by simpa using hsh
    clear hfg
    go_enter Tryz.func114, Tryz.ntmps114
    go_wp2_with fail
    refine (q0.out _).mono ?_
    rintro e W1 ⟨rfl, hb1⟩
    go_wp2_with fail
    go_ret3
    exact ⟨(b0.trans (hb1.mono b0.size)).mono hB, rfl, (hs3.out.resolve_left hsh).symm.imp id fun h => ⟨h, b0.trans (hb1.mono b0.size)⟩⟩
end
end Go.Proofs.YtipdeiiipdnacaaGreat
namespace Go.Proofs.YtipdeiiipdnacaaGreat
open Go.RowKit Go.Maps Go.WideMaps
attribute [local go_sem] bs_toList bs_size

theorem cells1 {W : World} {b : Nat} {T : TypeId} {u0 : Value} (h : Blk W b T #[u0]) : W.cell? ⟨b, 0, none⟩ = some u0 := (Blk.cell h 0).trans rfl
theorem cells2 {W : World} {b : Nat} {T : TypeId} {u0 u1 : Value} (h : Blk W b T #[u0, u1]) : (W.cell? ⟨b, 0, none⟩ = some u0 ∧ W.cell? ⟨b, 1, none⟩ = some u1) ∧ W.frozen? ⟨b, 0, none⟩ = false ∧ W.frozen? ⟨b, 1, none⟩ = false :=
  ⟨⟨(Blk.cell h 0).trans rfl, (Blk.cell h 1).trans rfl⟩, Blk.frozen h 0, Blk.frozen h 1⟩
/-- A change of a batch, behind keys, and behind a sample; the keys and the sample then. -/
def batOne (K : List (List UInt8)) (lt : Int) (lv : Nat) (x : Rc) : List UInt8 × List (List UInt8) × Int × Nat :=
  if x.kind = 0 then (Num.small 0 ++ (namesPut K x.labels).1 ++ Num.small (Num.zigI (x.t - lt)).toNat ++ Num.small (x.v ^^^ lv), (namesPut K x.labels).2, x.t, x.v)
  else ((smallOne K x).1, (smallOne K x).2, lt, lv)
def batLoop : List (List UInt8) → Int → Nat → List Rc → List UInt8 × List (List UInt8)
  | K, _, _, [] => ([], K)
  | K, lt, lv, x :: R => let o := batOne K lt lv x; let r := batLoop o.2.1 o.2.2.1 o.2.2.2 R; (o.1 ++ r.1, r.2)
/-- Changes, in generation 3, behind keys; whether they fit; the keys then. -/
def batPut (K : List (List UInt8)) (R : List Rc) : (List UInt8 × Bool) × List (List UInt8) :=
  if R = [] then (([], true), K)
  else ((framePut (Num.small R.length ++ (batLoop K 0 0 R).1), decide ((Num.small R.length ++ (batLoop K 0 0 R).1).length ≤ 20000)), (batLoop K 0 0 R).2)
def fits3 (x : Rc) : Prop := (x.kind = 0 ∨ x.kind = 1 ∨ x.kind = 2) ∧ (keyB x.labels).length ≤ 2000 ∧ (x.kind = 0 → 0 ≤ x.t ∧ x.t ≤ 1125899906842624)
theorem namesPut_len2 (K : List (List UInt8)) (L : List Lb) : (namesPut K L).1.length ≤ (keyB L).length + 20 := by
  unfold namesPut
  split
  · have := Num.small_len (K.idxOf (keyB L)); simp only; omega
  · have h1 := Num.small_len K.length
    have h2 := Num.small_len (keyB L).length
    simp only [List.length_append, Num.text_len]
    omega
theorem smallOne_len (K : List (List UInt8)) (x : Rc) : (smallOne K x).1.length ≤ (keyB x.labels).length + 60 := by
  have h0 := namesPut_len2 K x.labels
  have z0 := Num.small_len 0
  have z1 := Num.small_len 1
  have z2 := Num.small_len 2
  have z3 := Num.small_len (u64N x.t)
  have z4 := Num.wide_len x.v
  have z5 := Num.small_len (Num.zigI x.t).toNat
  have z6 := Num.small_len (Num.zigI x.u).toNat
  unfold smallOne
  split
  · simp only [List.length_append]; omega
  · split
    · simp only [List.length_append]; omega
    · simp only [List.length_append]; omega
section
variable {w : World} {B n m : Nat} {K : List (List UInt8)} {kv : Value} {D : DataW Unit}
set_option maxRecDepth 100000 in
set_option maxHeartbeats 8000000 in
theorem batched_put_any (R : List Rc) (v : Value) (wA : World) (hA : Below wA.heap.size wA w) (hAB : wA.heap.size ≤ B) (h : NamesIs w B n K kv m D) (hR : RecsAt wA v R) (hf : ∀ x ∈ R, fits3 x) (hR1 : R.length ≤ 100) (hK : K.length ≤ 1000000) (hB : B ≤ w.heap.size) :
    Calls Tryz.prog 126 #[.agg #[.pointer (some ⟨n, 0, none⟩)], v] w fun e w' => e = .returned (.tuple #[.string (bs (batPut K R).1.1), .bool (batPut K R).1.2]) ∧ ∃ kv' D', NamesIs w' B n (batPut K R).2 kv' m D' ∧ Turn w w' (NF n m kv) (NF n m kv') := by
  obtain ⟨a, c, rfl, hn, hc⟩ := hR
  have b0 := one_alloc w (.cells #[.pointer (some ⟨n, 0, none⟩)] 82)
  have k0 : Blk (w.alloc (.cells #[.pointer (some ⟨n, 0, none⟩)] 82)) w.heap.size 82 #[.pointer (some ⟨n, 0, none⟩)] := Blk.new _ _ _
  by_cases hnil : R = []
  · subst hnil
    rw [show batPut K [] = (([], true), K) from by unfold batPut; rw [if_pos rfl]]
    go_enter Tryz.func126, Tryz.ntmps126
    go_wp2_with fail
    go_ret2
    exact ⟨rfl, kv, D, h.below b0, Turn.of_below b0⟩
  have hz : (R.length == 0) = false := by simpa using hnil
  have hRl : 0 < R.length := List.length_pos_iff.2 hnil
  have hz' : ((R.length : Int) == 0) = false := by simp; omega
  have HC := Lib.hid hc
  clear hc
  have hP : batPut K R = ((framePut (Num.small R.length ++ (batLoop K 0 0 R).1), decide ((Num.small R.length ++ (batLoop K 0 0 R).1).length ≤ 20000)), (batLoop K 0 0 R).2) := by unfold batPut; rw [if_neg hnil]
  rw [hP]
  have q0 := Lib.hid (fun W => num_Small_any (R.length : Int) W (by omega) (by omega))
  rw [show ((R.length : Int).toNat) = R.length from rfl] at q0
  have hwl : IntKind.u64.wrap (R.length : Int) = R.length := by simp [IntKind.wrap, IntKind.bits, IntKind.signed]; omega
  have y0l := Num.small_len R.length
  have HP := Lib.hid (show ∀ s, s = Num.small R.length ++ (batLoop K 0 0 R).1 → framePut (Num.small R.length ++ (batLoop K 0 0 R).1) = framePut s ∧ decide ((Num.small R.length ++ (batLoop K 0 0 R).1).length ≤ 20000) = decide (s.length ≤ 20000) from fun s e => by rw [e]; exact ⟨rfl, rfl⟩)
  clear hP
  generalize hy0 : Num.small R.length = y0 at *
  go_enter Tryz.func126, Tryz.ntmps126
  go_wp2_with fail
  refine (q0.out _).mono ?_
  rintro e W1 ⟨rfl, hb1⟩
  have hbw1 := b0.trans (hb1.mono b0.size)
  have k1 := Blk.below k0 hb1 k0.lt
  have b2 := one_alloc W1 (.cells #[.int .i64 0, .int .u64 0] 183)
  have kl : Blk (W1.alloc (.cells #[.int .i64 0, .int .u64 0] 183)) W1.heap.size 183 #[.int .i64 0, .int .u64 0] := Blk.new _ _ _
  have k2 := Blk.below k1 b2 k1.lt
  have hN2 := (h.below hbw1).below b2
  have hT2 : Turn w (W1.alloc (.cells #[.int .i64 0, .int .u64 0] 183)) (NF n m kv) (NF n m kv) := (Turn.of_below hbw1).trans (Turn.of_below b2)
  have hbB2 : Below B w (W1.alloc (.cells #[.int .i64 0, .int .u64 0] 183)) := (hbw1.mono hB).trans (b2.mono (Nat.le_trans hB hbw1.size))
  have hgl : w.heap.size < W1.heap.size := k1.lt
  clear q0 k0 b0 hb1 hbw1 k1 b2
  go_wp2_with fail
  go_loopw [6, 19] (fun vs vi wr => ∃ (i : Nat) (s : List UInt8) (Ki : List (List UInt8)) (lt : Int) (lv : Nat) (kvi : Value) (Di : DataW Unit), i ≤ R.length ∧ vi = .int .i64 (i : Int) ∧ vs = .string (bs s) ∧ s.length ≤ 10 + i * 3000 ∧ Ki.length ≤ K.length + i ∧ 0 ≤ lt ∧ lt ≤ 1125899906842624 ∧ lv < 18446744073709551616 ∧
      (y0 ++ (batLoop K 0 0 R).1, (batLoop K 0 0 R).2) = (s ++ (batLoop Ki lt lv (R.drop i)).1, (batLoop Ki lt lv (R.drop i)).2) ∧ NamesIs wr B n Ki kvi m Di ∧ Blk wr w.heap.size 82 #[.pointer (some ⟨n, 0, none⟩)] ∧ Blk wr W1.heap.size 183 #[.int .i64 lt, .int .u64 (lv : Int)] ∧
      Turn w wr (NF n m kv) (NF n m kvi) ∧ Below B w wr) (fun _ vi _ => R.length - (intOf vi).toNat)
  case atStart => exact ⟨0, y0, K, 0, 0, kv, D, Nat.zero_le _, rfl, rfl, by omega, by omega, by omega, by omega, by omega, by rw [List.drop_zero], hN2, k2, kl, hT2, hbB2⟩
  clear hN2 k2 kl hT2 hbB2 h
  generalize W1.heap.size = gl at *
  obtain ⟨i, s, Ki, lt, lv, kvi, Di, hi, rfl, rfl, hsl, hKi, hlt0, hlt1, hlv, hP, hN, hk, hkl, hT, hbB⟩ := hrel
  rcases (show i < R.length ∨ i = R.length by omega) with hil | rfl
  · have hfit := hf R[i] (List.getElem_mem _)
    rw [List.drop_eq_getElem_cons hil] at hP
    obtain ⟨b, o, rfl, hRA⟩ := HC.out i _ (List.getElem?_eq_getElem hil)
    have hAr : Below wA.heap.size wA wr := hA.trans (hbB.mono hAB)
    have hLW : ∀ sl, LabsAt wA sl R[i].labels → ∀ W, Below B wr W → LabsAt W sl R[i].labels := fun sl hsl W hW => hsl.below (hAr.trans (hW.mono hAB))
    have hcell : ∀ {p : Addr} {v : Value}, wA.cell? p = some v → wr.cell? p = some v := fun h => (Below.cell hAr (World.block_lt_of_cell? _ _ h)).trans h
    obtain ⟨hok, sl, e0, e1, hL, e2, e3, e4⟩ := hRA
    have e0 := hcell e0
    have e1 := hcell e1
    have e2 := hcell e2
    have e3 := hcell e3
    have e4 := hcell e4
    have HL := Lib.hid (hLW sl hL)
    obtain ⟨va, vc, rfl, _⟩ := hL
    have hP2 : (y0 ++ (batLoop K 0 0 R).1, (batLoop K 0 0 R).2) = (s ++ (batOne Ki lt lv R[i]).1 ++ (batLoop (batOne Ki lt lv R[i]).2.1 (batOne Ki lt lv R[i]).2.2.1 (batOne Ki lt lv R[i]).2.2.2 (R.drop (i + 1))).1, (batLoop (batOne Ki lt lv R[i]).2.1 (batOne Ki lt lv R[i]).2.2.1 (batOne Ki lt lv R[i]).2.2.2 (R.drop (i + 1))).2) := by
      rw [hP, List.append_assoc]
      rfl
    clear hLW hcell hP
    generalize R[i] = x at *
    have hB' : B ≤ wr.heap.size := Nat.le_trans hB hT.kept.size
    have hb1 := one_alloc wr (.cells #[.int .i64 x.kind, .slice va x.labels.length vc, .int .i64 x.t, .int .i64 x.u, .int .u64 (x.v : Int)] 51)
    have kr : Blk (wr.alloc (.cells #[.int .i64 x.kind, .slice va x.labels.length vc, .int .i64 x.t, .int .i64 x.u, .int .u64 (x.v : Int)] 51)) wr.heap.size 51 #[.int .i64 x.kind, .slice va x.labels.length vc, .int .i64 x.t, .int .i64 x.u, .int .u64 (x.v : Int)] := Blk.new _ _ _
    have hN1 := hN.below hb1
    have hk1 := Blk.below hk hb1 hk.lt
    have hkl1 := Blk.below hkl hb1 hkl.lt
    have hT1 := hT.trans (Turn.of_below hb1)
    have hbB1 := hbB.trans (Below.mono hb1 hB')
    have HL1 := Lib.hid (fun W (hW : Below B (wr.alloc (.cells #[.int .i64 x.kind, .slice va x.labels.length vc, .int .i64 x.t, .int .i64 x.u, .int .u64 (x.v : Int)] 51)) W) => HL.out W ((hb1.mono hB').trans hW))
    have hB1 := Nat.le_trans hB' hb1.size
    have d0 := cells1 hk1
    by_cases hk0 : x.kind = 0
    · simp only [hk0] at kr hN1 hk1 hkl1 hT1 hbB1 HL1 hB1 d0 e0 hb1
      have hO : batOne Ki lt lv x = (Num.small 0 ++ (namesPut Ki x.labels).1 ++ Num.small (Num.zigI (x.t - lt)).toNat ++ Num.small (x.v ^^^ lv), (namesPut Ki x.labels).2, x.t, x.v) := by unfold batOne; rw [if_pos hk0]
      have htm := hfit.2.2 hk0
      have hxb : x.v ^^^ lv < 18446744073709551616 := Nat.xor_lt_two_pow (n := 64) hok.2.2.2.2.2.2 hlv
      have hxr := u64_xor_nat x.v lv hok.2.2.2.2.2.2 hlv
      have hsw : IntKind.i64.wrap (x.t - lt) = x.t - lt := by simp [IntKind.wrap, IntKind.bits, IntKind.signed]; omega
      have hsw2 : wrap64 (x.t - lt) = x.t - lt := by unfold wrap64; omega
      have zb := Num.zig_bd (x.t - lt) (by omega) (by omega)
      have q1 := Lib.hid (fun W => num_Small_any 0 W (by omega) (by omega))
      rw [show ((0 : Int).toNat) = 0 from rfl] at q1
      have q2 := Lib.hid (fun W => (num_Zig_any (x.t - lt) W (by omega) (by omega)).mono fun e w' ⟨h1, h2⟩ => (show e = Ending.returned (.int .u64 (Num.zigI (x.t - lt))) ∧ GrowR W w' from ⟨h1, h2 ▸ Below.refl _ _⟩))
      have q3 := Lib.hid (fun W => num_Small_any (Num.zigI (x.t - lt)) W zb.1 zb.2)
      have q4 := Lib.hid (fun W => num_Small_any ((x.v ^^^ lv : Nat) : Int) W (by omega) (by omega))
      rw [show (((x.v ^^^ lv : Nat) : Int).toNat) = x.v ^^^ lv from rfl] at q4
      have qP := Lib.hid (fun (W : World) (hNW : NamesIs W B n Ki kvi m Di) (hb : Below B (wr.alloc (.cells #[.int .i64 0, .slice va x.labels.length vc, .int .i64 x.t, .int .i64 x.u, .int .u64 (x.v : Int)] 51)) W) => put_any x.labels (.slice va x.labels.length vc) hNW (HL1.out W hb) (by have := hfit.2.1; omega) (by omega) (Nat.le_trans hB1 hb.size))
      have hpl := namesPut_len2 Ki x.labels
      have hpk := namesPut_keys Ki x.labels
      have z1 := Num.small_len 0
      have z2 := Num.small_len (Num.zigI (x.t - lt)).toNat
      have z3 := Num.small_len (x.v ^^^ lv)
      rw [hO] at hP2
      simp only at hP2
      rcases hpp : namesPut Ki x.labels with ⟨p1, K2⟩
      rw [hpp] at qP hpl hpk hP2
      simp only at hpl hpk hP2
      have hkl2 := hfit.2.1
      clear hO hpp zb htm
      generalize Num.small 0 = y1 at *
      generalize Num.small (Num.zigI (x.t - lt)).toNat = y2 at *
      generalize Num.small (x.v ^^^ lv) = y3 at *
      generalize Num.zigI (x.t - lt) = zt at *
      generalize x.v ^^^ lv = xv at *
      have a1 : ∀ W, (Op.stringOp .add (bs y1) (bs p1)).run Tryz.prog W = .ok (.string (bs (y1 ++ p1))) W := fun W => run_add_bs (P := Tryz.prog) _ _ (by omega) W
      have a2 : ∀ W, (Op.stringOp .add (bs (y1 ++ p1)) (bs y2)).run Tryz.prog W = .ok (.string (bs (y1 ++ p1 ++ y2))) W := fun W => run_add_bs (P := Tryz.prog) _ _ (by simp; omega) W
      have a3 : ∀ W, (Op.stringOp .add (bs (y1 ++ p1 ++ y2)) (bs y3)).run Tryz.prog W = .ok (.string (bs (y1 ++ p1 ++ y2 ++ y3))) W := fun W => run_add_bs (P := Tryz.prog) _ _ (by simp; omega) W
      have a4 : ∀ W, (Op.stringOp .add (bs s) (bs (y1 ++ p1 ++ y2 ++ y3))).run Tryz.prog W = .ok (.string (bs (s ++ (y1 ++ p1 ++ y2 ++ y3)))) W := fun W => run_add_bs (P := Tryz.prog) _ _ (by simp; omega) W
      have hsl2 : (s ++ (y1 ++ p1 ++ y2 ++ y3)).length ≤ 10 + (i + 1) * 3000 := by simp; omega
      generalize s ++ (y1 ++ p1 ++ y2 ++ y3) = s2 at *
      generalize y1 ++ p1 ++ y2 ++ y3 = z3 at *
      generalize y1 ++ p1 ++ y2 = z2 at *
      generalize y1 ++ p1 = z1 at *
      have HP2 := Lib.hid hP2
      clear hP2
      obtain ⟨⟨r0, r1, r2, r3, r4⟩, _⟩ := cells5 kr
      obtain ⟨⟨l0, l1⟩, _⟩ := cells2 hkl1
      have n1' := nf_tag hN1 (tag_blk hk1) (by decide) (by decide)
      have n2' := nf_tag hN1 (tag_blk kr) (by decide) (by decide)
      have n3' := nf_tag hN1 (tag_blk hkl1) (by decide) (by decide)
      have g0 := namPh_cell (h := hN1) (K' := K2) d0 n1'
      have g1 := namPh_cell (h := hN1) (K' := K2) r1 n2'
      have g2 := namPh_cell (h := hN1) (K' := K2) r2 n2'
      have g4 := namPh_cell (h := hN1) (K' := K2) r4 n2'
      have g5 := namPh_cell (h := hN1) (K' := K2) l0 n3'
      have g6 := namPh_cell (h := hN1) (K' := K2) l1 n3'
      have HQ := Lib.hid (fun (W : World) (hW : GrowR (wr.alloc (.cells #[.int .i64 0, .slice va x.labels.length vc, .int .i64 x.t, .int .i64 x.u, .int .u64 (x.v : Int)] 51)) W) => qP.out W (hN1.below hW) (Below.mono hW hB1))
      go_wp2_with fail
      refine wp_region_C (namPh hN1 K2) [7] rfl (by kernel_rfl) (by kernel_rfl) (by kernel_rfl) (by kernel_rfl) ?_
      (refine lexc_one (by kernel_rfl) (by kernel_rfl) (by kernel_rfl) (by kernel_rfl) (fun K hK => ?_); go_big_quiet_step (fail); refine wpQuiet_nil (hK _ ?_); clear hK K)
      (refine lexc_call (f := 61) (args := #[.int .u64 0]) (v := .string (bs y1)) (by kernel_rfl) (by kernel_rfl) (fun _ _ h => by cases h) (by kernel_rfl) (by kernel_rfl) (fun _ => by go_simp) (fun W hW => q1.out W) (lexc_put (type := 0) (pos := "") (fun K hK => ?_)); go_big_quiet_step (fail); refine wpQuiet_nil (hK _ ?_); clear hK K)
      (refine lexc_one (by kernel_rfl) (by kernel_rfl) (by kernel_rfl) (by kernel_rfl) (fun K hK => ?_); go_big_quiet_step (fail); refine wpQuiet_nil (hK _ ?_); clear hK K); (refine lexc_one (by kernel_rfl) (by kernel_rfl) (by kernel_rfl) (by kernel_rfl) (fun K hK => ?_); go_big_quiet_step (fail); refine wpQuiet_nil (hK _ ?_); clear hK K); (refine lexc_one (by kernel_rfl) (by kernel_rfl) (by kernel_rfl) (by kernel_rfl) (fun K hK => ?_); go_big_quiet_step (fail); refine wpQuiet_nil (hK _ ?_); clear hK K); (refine lexc_one (by kernel_rfl) (by kernel_rfl) (by kernel_rfl) (by kernel_rfl) (fun K hK => ?_); go_big_quiet_step (fail); refine wpQuiet_nil (hK _ ?_); clear hK K); (refine lexc_one (by kernel_rfl) (by kernel_rfl) (by kernel_rfl) (by kernel_rfl) (fun K hK => ?_); go_big_quiet_step (fail); refine wpQuiet_nil (hK _ ?_); clear hK K)
      (refine lexc_row 0 (f := 56) (args := #[.pointer (some ⟨n, 0, none⟩), .slice va x.labels.length vc]) (v := .string (bs p1)) (by kernel_rfl) (by kernel_rfl) (by kernel_rfl) (fun _ _ h => by cases h) (by kernel_rfl) (by kernel_rfl) (fun _ => by go_simp) (fun W hW => namPh_row hW (HQ.out W)) (lexc_put (type := 0) (pos := "") (fun K hK => ?_)); go_big_quiet_step (fail); refine wpQuiet_nil (hK _ ?_); clear hK K)
      (refine lexc_one (by kernel_rfl) (by kernel_rfl) (by kernel_rfl) (by kernel_rfl) (fun K hK => ?_); go_big_quiet_step (fail); refine wpQuiet_nil (hK _ ?_); clear hK K); (refine lexc_one (by kernel_rfl) (by kernel_rfl) (by kernel_rfl) (by kernel_rfl) (fun K hK => ?_); go_big_quiet_step (fail); refine wpQuiet_nil (hK _ ?_); clear hK K); (refine lexc_one (by kernel_rfl) (by kernel_rfl) (by kernel_rfl) (by kernel_rfl) (fun K hK => ?_); go_big_quiet_step (fail); refine wpQuiet_nil (hK _ ?_); clear hK K); (refine lexc_one (by kernel_rfl) (by kernel_rfl) (by kernel_rfl) (by kernel_rfl) (fun K hK => ?_); go_big_quiet_step (fail); refine wpQuiet_nil (hK _ ?_); clear hK K); (refine lexc_one (by kernel_rfl) (by kernel_rfl) (by kernel_rfl) (by kernel_rfl) (fun K hK => ?_); go_big_quiet_step (fail); refine wpQuiet_nil (hK _ ?_); clear hK K); (refine lexc_one (by kernel_rfl) (by kernel_rfl) (by kernel_rfl) (by kernel_rfl) (fun K hK => ?_); go_big_quiet_step (fail); refine wpQuiet_nil (hK _ ?_); clear hK K)
      (refine lexc_call (f := 124) (args := #[.int .i64 (x.t - lt)]) (v := .int .u64 zt) (by kernel_rfl) (by kernel_rfl) (fun _ _ h => by cases h) (by kernel_rfl) (by kernel_rfl) (fun _ => by go_simp) (fun W hW => q2.out W) (lexc_put (type := 0) (pos := "") (fun K hK => ?_)); go_big_quiet_step (fail); refine wpQuiet_nil (hK _ ?_); clear hK K)
      (refine lexc_call (f := 61) (args := #[.int .u64 zt]) (v := .string (bs y2)) (by kernel_rfl) (by kernel_rfl) (fun _ _ h => by cases h) (by kernel_rfl) (by kernel_rfl) (fun _ => by go_simp) (fun W hW => q3.out W) (lexc_put (type := 0) (pos := "") (fun K hK => ?_)); go_big_quiet_step (fail); refine wpQuiet_nil (hK _ ?_); clear hK K)
      (refine lexc_one (by kernel_rfl) (by kernel_rfl) (by kernel_rfl) (by kernel_rfl) (fun K hK => ?_); go_big_quiet_step (fail); refine wpQuiet_nil (hK _ ?_); clear hK K); (refine lexc_one (by kernel_rfl) (by kernel_rfl) (by kernel_rfl) (by kernel_rfl) (fun K hK => ?_); go_big_quiet_step (fail); refine wpQuiet_nil (hK _ ?_); clear hK K); (refine lexc_one (by kernel_rfl) (by kernel_rfl) (by kernel_rfl) (by kernel_rfl) (fun K hK => ?_); go_big_quiet_step (fail); refine wpQuiet_nil (hK _ ?_); clear hK K); (refine lexc_one (by kernel_rfl) (by kernel_rfl) (by kernel_rfl) (by kernel_rfl) (fun K hK => ?_); go_big_quiet_step (fail); refine wpQuiet_nil (hK _ ?_); clear hK K); (refine lexc_one (by kernel_rfl) (by kernel_rfl) (by kernel_rfl) (by kernel_rfl) (fun K hK => ?_); go_big_quiet_step (fail); refine wpQuiet_nil (hK _ ?_); clear hK K); (refine lexc_one (by kernel_rfl) (by kernel_rfl) (by kernel_rfl) (by kernel_rfl) (fun K hK => ?_); go_big_quiet_step (fail); refine wpQuiet_nil (hK _ ?_); clear hK K)
      (refine lexc_call (f := 61) (args := #[.int .u64 (xv : Int)]) (v := .string (bs y3)) (by kernel_rfl) (by kernel_rfl) (fun _ _ h => by cases h) (by kernel_rfl) (by kernel_rfl) (fun _ => by go_simp) (fun W hW => q4.out W) (lexc_put (type := 0) (pos := "") (fun K hK => ?_)); go_big_quiet_step (fail); refine wpQuiet_nil (hK _ ?_); clear hK K)
      (refine lexc_one (by kernel_rfl) (by kernel_rfl) (by kernel_rfl) (by kernel_rfl) (fun K hK => ?_); go_big_quiet_step (fail); refine wpQuiet_nil (hK _ ?_); clear hK K); (refine lexc_one (by kernel_rfl) (by kernel_rfl) (by kernel_rfl) (by kernel_rfl) (fun K hK => ?_); go_big_quiet_step (fail); refine wpQuiet_nil (hK _ ?_); clear hK K); (refine lexc_one (by kernel_rfl) (by kernel_rfl) (by kernel_rfl) (by kernel_rfl) (fun K hK => ?_); go_big_quiet_step (fail); refine wpQuiet_nil (hK _ ?_); clear hK K)
      refine lexc_nil (by kernel_rfl) (by kernel_rfl) (by kernel_rfl) ?_
      rintro W2 _ hp
      obtain ⟨_, kv2, D2, hN2, hT2⟩ := hp.resolve_left (fun e => by cases e.1)
      simp only [hideAll]
      have hk2 := hk1.keptK hT2.kept n1'
      have kr2 := kr.keptK hT2.kept n2'
      have hkl2' := hkl1.keptK hT2.kept n3'
      have hbb := hbB1.trans (Kept.below hT2.kept hB1 hN1.ge)
      obtain ⟨⟨r0, r1, r2, r3, r4⟩, _⟩ := cells5 kr2
      obtain ⟨⟨l0, l1⟩, f0, f1⟩ := cells2 hkl2'
      have hkl3 : Blk ((W2.setCell ⟨gl, 0, none⟩ (.int .i64 x.t)).setCell ⟨gl, 1, none⟩ (.int .u64 (x.v : Int))) gl 183 #[.int .i64 x.t, .int .u64 (x.v : Int)] := Blk.set_ (Blk.set_ hkl2' 0 _) 1 _
      have hk23 : Kept W2 ((W2.setCell ⟨gl, 0, none⟩ (.int .i64 x.t)).setCell ⟨gl, 1, none⟩ (.int .u64 (x.v : Int))) (fun k => k = gl) := Kept.of_grown (grown_trans' (grown_set _ _ _ _) (grown_set _ _ _ _)) fun k e => (Option.some.inj e).symm
      have n4' := nf_tag hN2 (tag_blk hkl2') (by decide) (by decide)
      have hN3 := hN2.kept hk23 (fun k hk e => n4' (e ▸ hk))
      have hk3 := hk2.keptK hk23 (by omega)
      have hT3 : Turn w ((W2.setCell ⟨gl, 0, none⟩ (.int .i64 x.t)).setCell ⟨gl, 1, none⟩ (.int .u64 (x.v : Int))) (NF n m kv) (NF n m kv2) := by
        have := hT1.trans hT2
        exact ⟨this.kept.new_keep hk23 (by omega), this.grow⟩
      have hbb3 := hbb.trans (Kept.below hk23 (Nat.le_trans hB1 hT2.kept.size) (fun k hk => by omega))
      clear g0 g1 g2 g4 g5 g6 d0 q1 q2 q3 q4 qP HQ hk hkl hk1 hkl1 kr kr2
      go_wp2_with fail
      go_roundw
      case rel => exact ⟨i + 1, s2, K2, x.t, x.v, kv2, D2, by omega, by go_num, rfl, hsl2, by omega, (hfit.2.2 hk0).1, (hfit.2.2 hk0).2, hok.2.2.2.2.2.2, HP2.out, hN3, hk3, hkl3, hT3, hbb3⟩
      case measure => simp [intOf]; omega
    · have hO : batOne Ki lt lv x = ((smallOne Ki x).1, (smallOne Ki x).2, lt, lv) := by unfold batOne; rw [if_neg hk0]
      rw [hO] at hP2
      simp only at hP2
      have q := Lib.hid (put1_any x (.slice va x.labels.length vc) hN1 hok hfit.1 (fun W hW => HL1.out W hW) (by have := hfit.2.1; omega) (by omega) hB1)
      rw [show recV x (.slice va x.labels.length vc) = .agg #[.int .i64 x.kind, .slice va x.labels.length vc, .int .i64 x.t, .int .i64 x.u, .int .u64 (x.v : Int)] from rfl] at q
      have hkk := smallOne_keys Ki x
      have hll := smallOne_len Ki x
      have hkl2 := hfit.2.1
      rcases hso : smallOne Ki x with ⟨p1, K2⟩
      rw [hso] at q hP2 hkk hll
      simp only at q hP2 hkk hll
      have hadd : ∀ W, (Op.stringOp .add (bs s) (bs p1)).run Tryz.prog W = .ok (.string (bs (s ++ p1))) W := fun W => run_add_bs (P := Tryz.prog) _ _ (by omega) W
      have hsl2 : (s ++ p1).length ≤ 10 + (i + 1) * 3000 := by simp; omega
      generalize s ++ p1 = s2 at *
      have HP2 := Lib.hid hP2
      clear hP2 hO hso
      obtain ⟨⟨r0, r1, r2, r3, r4⟩, _⟩ := cells5 kr
      have hkz : (x.kind != 0) = true := by simpa using hk0
      have hkz2 : (x.kind == 0) = false := by simpa using hk0
      go_wp2_with fail
      refine q.out.mono ?_
      rintro e W2 ⟨rfl, kv2, D2, hN2, hT2⟩
      have hk2 := hk1.keptK hT2.kept (nf_tag hN1 (tag_blk hk1) (by decide) (by decide))
      have hkl2' := hkl1.keptK hT2.kept (nf_tag hN1 (tag_blk hkl1) (by decide) (by decide))
      have hbb := hbB1.trans (Kept.below hT2.kept hB1 hN1.ge)
      clear q hk hkl hk1 hkl1 kr
      go_wp2_with fail
      go_roundw
      case rel => exact ⟨i + 1, s2, K2, lt, lv, kv2, D2, by omega, by go_num, rfl, hsl2, by omega, hlt0, hlt1, hlv, HP2.out, hN2, hk2, hkl2', hT1.trans hT2, hbb⟩
      case measure => simp [intOf]; omega
  · rw [List.drop_length] at hP
    have e1 := (Prod.mk.inj hP).1
    have e2 := (Prod.mk.inj hP).2
    rw [show batLoop Ki lt lv [] = ([], Ki) from rfl] at e1 e2
    simp only [List.append_nil] at e1
    simp only at e2
    have HE := Lib.hid (HP.out s e1.symm)
    have HE2 := Lib.hid e2
    have q := Lib.hid (fun W => framePut_any s (by omega) W)
    clear hP e1 e2 HP HC
    go_wp2_with fail
    refine (q.out _).mono ?_
    rintro e W3 ⟨rfl, hb3⟩
    go_wp2_with fail
    go_ret2
    refine ⟨?_, kvi, Di, by rw [HE2.out]; exact hN.below hb3, hT.trans (Turn.of_below hb3)⟩
    rw [HE.out.1, HE.out.2]
    simp
    omega
end
end Go.Proofs.YtipdeiiipdnacaaGreat
namespace Go.Proofs.YtipdeiiipdnacaaGreat
open Go.RowKit Go.Maps Go.WideMaps
attribute [local go_sem] bs_toList bs_size

/-- What a sample tells in generation 3, behind another one. -/
def smp3 (lt : Int) (lv : Nat) (c : CS) : (Int × Nat) × CS := ((wrap64 (lt + Num.zagI (sV c)), lv ^^^ (sV (sN c)).toNat), sN (sN c))
theorem curPh_cell {w0 : World} {g : Nat} {cs : List CS} {c0 : CS} {h0 : cs[0]? = some c0} {hC : Cur w0 g c0.1 c0.2} {p : Addr} {v : Value} (hp : w0.cell? p = some v) (hn : p.block ≠ g) : ∀ x : PW (curPh w0 g cs c0 h0 hC), x.w.cell? p = some v := fun x => by
  obtain ⟨q, hk, _⟩ := x.2
  exact hk.cell hp hn
theorem wrap64_bd (n : Int) : -9223372036854775808 ≤ wrap64 n ∧ wrap64 n ≤ 9223372036854775807 := by unfold wrap64; omega
set_option maxRecDepth 100000 in
set_option maxHeartbeats 2000000 in
theorem smp3_any (gc gl : Nat) (lt : Int) (lv : Nat) (w : World) (c : CS) (hC : Cur w gc c.1 c.2) (hl : c.1.length ≤ 1000000) (hgl : gl ≠ gc) (hlv : lv < 18446744073709551616) (hB : Blk w gl 183 #[.int .i64 lt, .int .u64 (lv : Int)]) :
    Calls Tryz.prog 127 #[.pointer (some ⟨gc, 0, none⟩), .pointer (some ⟨gl, 0, none⟩)] w fun e w' => e = .returned (.tuple #[.int .i64 (smp3 lt lv c).1.1, .int .u64 ((smp3 lt lv c).1.2 : Int)]) ∧ Cur w' gc (smp3 lt lv c).2.1 (smp3 lt lv c).2.2 ∧
      Blk w' gl 183 #[.int .i64 (smp3 lt lv c).1.1, .int .u64 ((smp3 lt lv c).1.2 : Int)] ∧ Kept w w' (fun k => k = gc ∨ k = gl) := by
  have hl1 : (sN c).1.length ≤ 1000000 := Nat.le_trans (nxt_len _ _) hl
  obtain ⟨t1, h1, h1b⟩ := sV_nat c
  obtain ⟨t2, h2, h2b⟩ := sV_nat (sN c)
  have hS : smp3 lt lv c = ((wrap64 (lt + Num.zagI (t1 : Int)), lv ^^^ t2), sN (sN c)) := by unfold smp3; rw [h1, h2]; rfl
  rw [hS]
  have q1 := Lib.hid (fun W hW => CSm gc c W hW (by omega))
  have q2 := Lib.hid (fun W hW => CSm gc (sN c) W hW (by omega))
  have q3 := Lib.hid (fun W => (num_Zag_any (t1 : Int) W (by omega) (by omega)).mono fun e w' ⟨h1, h2⟩ => (show e = Ending.returned (.int .i64 (Num.zagI (t1 : Int))) ∧ GrowR W w' from ⟨h1, h2 ▸ Below.refl _ _⟩))
  rw [h1] at q1
  rw [h2] at q2
  have hxr := u64_xor_nat lv t2 hlv h2b
  clear hS h1 h2
  generalize sN c = c1 at *
  generalize sN c1 = c2 at *
  generalize Num.zagI (t1 : Int) = z at *
  obtain ⟨⟨l0, l1⟩, _⟩ := cells2 hB
  have g0 := curPh_cell (cs := [c, c1]) (h0 := rfl) (hC := hC) l0 hgl
  go_enter Tryz.func127, Tryz.ntmps127
  go_wp2_with fail
  refine wp_region_ledC (curPh w gc [c, c1] c rfl hC) [3] rfl (by kernel_rfl) (by kernel_rfl) rfl (by kernel_rfl) (by kernel_rfl) (by kernel_rfl) ?_
  (refine lexc_one (by kernel_rfl) (by kernel_rfl) (by kernel_rfl) (by kernel_rfl) (fun K hK => ?_); go_big_quiet_step (fail); refine wpQuiet_nil (hK _ ?_); clear hK K); (refine lexc_one (by kernel_rfl) (by kernel_rfl) (by kernel_rfl) (by kernel_rfl) (fun K hK => ?_); go_big_quiet_step (fail); refine wpQuiet_nil (hK _ ?_); clear hK K); (refine lexc_one (by kernel_rfl) (by kernel_rfl) (by kernel_rfl) (by kernel_rfl) (fun K hK => ?_); go_big_quiet_step (fail); refine wpQuiet_nil (hK _ ?_); clear hK K)
  (refine lexc_row 0 (f := 57) (args := #[.pointer (some ⟨gc, 0, none⟩)]) (v := .int .u64 (t1 : Int)) (by kernel_rfl) (by kernel_rfl) (by kernel_rfl) (fun _ _ h => by cases h) (by kernel_rfl) (by kernel_rfl) (fun _ => by go_simp) (fun W hW => cur_row hW rfl rfl (q1.out W)) (lexc_put (type := 0) (pos := "") (fun K hK => ?_)); go_big_quiet_step (fail); refine wpQuiet_nil (hK _ ?_); clear hK K)
  (refine lexc_call (f := 123) (args := #[.int .u64 (t1 : Int)]) (v := .int .i64 z) (by kernel_rfl) (by kernel_rfl) (fun _ _ h => by cases h) (by kernel_rfl) (by kernel_rfl) (fun _ => by go_simp) (fun W hW => q3.out W) (lexc_put (type := 0) (pos := "") (fun K hK => ?_)); go_big_quiet_step (fail); refine wpQuiet_nil (hK _ ?_); clear hK K)
  (refine lexc_one (by kernel_rfl) (by kernel_rfl) (by kernel_rfl) (by kernel_rfl) (fun K hK => ?_); go_big_quiet_step (fail); refine wpQuiet_nil (hK _ ?_); clear hK K); (refine lexc_one (by kernel_rfl) (by kernel_rfl) (by kernel_rfl) (by kernel_rfl) (fun K hK => ?_); go_big_quiet_step (fail); refine wpQuiet_nil (hK _ ?_); clear hK K)
  refine lexc_nil (by kernel_rfl) (by kernel_rfl) (by kernel_rfl) ?_
  rintro W1 hK1 ⟨_, cc, hcc, hC1⟩
  obtain rfl : cc = c1 := (Option.some.inj hcc).symm
  simp only [hideAll]
  have hB1 := Blk.keptK hB hK1 hgl
  obtain ⟨⟨m0, m1⟩, f0, f1⟩ := cells2 hB1
  have hB2 : Blk (W1.setCell ⟨gl, 0, none⟩ (.int .i64 (wrap64 (lt + z)))) gl 183 #[.int .i64 (wrap64 (lt + z)), .int .u64 (lv : Int)] := Blk.set_ hB1 0 _
  have hk12 : Kept W1 (W1.setCell ⟨gl, 0, none⟩ (.int .i64 (wrap64 (lt + z)))) (fun k => k = gl) := Kept.of_grown (grown_set _ _ _ _) fun k e => (Option.some.inj e).symm
  have hC2 : Cur (W1.setCell ⟨gl, 0, none⟩ (.int .i64 (wrap64 (lt + z)))) gc cc.1 cc.2 := Blk.keptK hC1 hk12 (fun e => hgl e.symm)
  have hkw : Kept w (W1.setCell ⟨gl, 0, none⟩ (.int .i64 (wrap64 (lt + z)))) (fun k => k = gc ∨ k = gl) := (Kept.weaken hK1 fun k e => .inl e).trans (hk12.weaken fun k e => .inr e)
  clear l0 l1 g0 hK1 hB hB1 hC1 hk12 q1 q3 hcc
  go_wp2_with fail
  generalize W1.setCell ⟨gl, 0, none⟩ (.int .i64 (wrap64 (lt + z))) = W2 at *
  obtain ⟨⟨l0, l1⟩, _⟩ := cells2 hB2
  have g1 := curPh_cell (cs := [cc, c2]) (h0 := rfl) (hC := hC2) l1 hgl
  refine wp_region_ledC (curPh W2 gc [cc, c2] cc rfl hC2) [3] rfl (by kernel_rfl) (by kernel_rfl) rfl (by kernel_rfl) (by kernel_rfl) (by kernel_rfl) ?_
  (refine lexc_one (by kernel_rfl) (by kernel_rfl) (by kernel_rfl) (by kernel_rfl) (fun K hK => ?_); go_big_quiet_step (fail); refine wpQuiet_nil (hK _ ?_); clear hK K); (refine lexc_one (by kernel_rfl) (by kernel_rfl) (by kernel_rfl) (by kernel_rfl) (fun K hK => ?_); go_big_quiet_step (fail); refine wpQuiet_nil (hK _ ?_); clear hK K); (refine lexc_one (by kernel_rfl) (by kernel_rfl) (by kernel_rfl) (by kernel_rfl) (fun K hK => ?_); go_big_quiet_step (fail); refine wpQuiet_nil (hK _ ?_); clear hK K)
  (refine lexc_row 0 (f := 57) (args := #[.pointer (some ⟨gc, 0, none⟩)]) (v := .int .u64 (t2 : Int)) (by kernel_rfl) (by kernel_rfl) (by kernel_rfl) (fun _ _ h => by cases h) (by kernel_rfl) (by kernel_rfl) (fun _ => by go_simp) (fun W hW => cur_row hW rfl rfl (q2.out W)) (lexc_put (type := 0) (pos := "") (fun K hK => ?_)); go_big_quiet_step (fail); refine wpQuiet_nil (hK _ ?_); clear hK K)
  (refine lexc_one (by kernel_rfl) (by kernel_rfl) (by kernel_rfl) (by kernel_rfl) (fun K hK => ?_); go_big_quiet_step (fail); refine wpQuiet_nil (hK _ ?_); clear hK K); (refine lexc_one (by kernel_rfl) (by kernel_rfl) (by kernel_rfl) (by kernel_rfl) (fun K hK => ?_); go_big_quiet_step (fail); refine wpQuiet_nil (hK _ ?_); clear hK K)
  refine lexc_nil (by kernel_rfl) (by kernel_rfl) (by kernel_rfl) ?_
  rintro W3 hK3 ⟨_, c3, hcc, hC3⟩
  obtain rfl : c3 = c2 := (Option.some.inj hcc).symm
  simp only [hideAll]
  have hB3 := Blk.keptK hB2 hK3 hgl
  obtain ⟨⟨m0, m1⟩, f0, f1⟩ := cells2 hB3
  have hB4 : Blk (W3.setCell ⟨gl, 1, none⟩ (.int .u64 ((lv ^^^ t2 : Nat) : Int))) gl 183 #[.int .i64 (wrap64 (lt + z)), .int .u64 ((lv ^^^ t2 : Nat) : Int)] := Blk.set_ hB3 1 _
  have hk34 : Kept W3 (W3.setCell ⟨gl, 1, none⟩ (.int .u64 ((lv ^^^ t2 : Nat) : Int))) (fun k => k = gl) := Kept.of_grown (grown_set _ _ _ _) fun k e => (Option.some.inj e).symm
  have hC4 : Cur (W3.setCell ⟨gl, 1, none⟩ (.int .u64 ((lv ^^^ t2 : Nat) : Int))) gc c3.1 c3.2 := Blk.keptK hC3 hk34 (fun e => hgl e.symm)
  have hkw4 := hkw.trans ((Kept.weaken hK3 (T := fun k => k = gc ∨ k = gl) fun k e => .inl e).trans (hk34.weaken fun k e => .inr e))
  clear l0 l1 g1 hK3 hB2 hB3 hC3 hk34 q2 hcc hkw hC2
  go_wp2_with fail
  generalize W3.setCell ⟨gl, 1, none⟩ (.int .u64 ((lv ^^^ t2 : Nat) : Int)) = W4 at *
  obtain ⟨⟨l0, l1⟩, _⟩ := cells2 hB4
  have g0 := grow_cell l0
  have g1 := grow_cell l1
  refine wp_region_at (R := GrowR) (by kernel_rfl) (by kernel_rfl) ?_
  (refine lex_one (by kernel_rfl) (by kernel_rfl) (by kernel_rfl) (fun K hK => ?_); go_big_quiet_step (fail); refine wpQuiet_nil (hK _ ?_); clear hK K); (refine lex_one (by kernel_rfl) (by kernel_rfl) (by kernel_rfl) (fun K hK => ?_); go_big_quiet_step (fail); refine wpQuiet_nil (hK _ ?_); clear hK K); (refine lex_one (by kernel_rfl) (by kernel_rfl) (by kernel_rfl) (fun K hK => ?_); go_big_quiet_step (fail); refine wpQuiet_nil (hK _ ?_); clear hK K); (refine lex_one (by kernel_rfl) (by kernel_rfl) (by kernel_rfl) (fun K hK => ?_); go_big_quiet_step (fail); refine wpQuiet_nil (hK _ ?_); clear hK K); (refine lex_one (by kernel_rfl) (by kernel_rfl) (by kernel_rfl) (fun K hK => ?_); go_big_quiet_step (fail); refine wpQuiet_nil (hK _ ?_); clear hK K); (refine lex_one (by kernel_rfl) (by kernel_rfl) (by kernel_rfl) (fun K hK => ?_); go_big_quiet_step (fail); refine wpQuiet_nil (hK _ ?_); clear hK K)
  refine lex_nil (by kernel_rfl) (by kernel_rfl) (by kernel_rfl) ?_
  intro W5 hb5
  simp only [hideAll]
  go_wp2_with fail
  go_ret2
  exact ⟨rfl, Blk.below hC4 hb5 hC4.lt, Blk.below hB4 hb5 hB4.lt, hkw4.trans (Kept.of_below hb5)⟩
end Go.Proofs.YtipdeiiipdnacaaGreat
namespace Go.Proofs.YtipdeiiipdnacaaGreat
open Go.RowKit Go.Maps Go.WideMaps
attribute [local go_sem] bs_toList bs_size

/-- So many changes of a batch, behind keys, and behind a sample. -/
def batGetLoop : Nat → List (List UInt8) → Int → Nat → CS → Option (List Rc × List (List UInt8)) × CS
  | 0, K, _, _, c => (some ([], K), c)
  | q + 1, K, lt, lv, c => match get1P (smp3 lt lv) K c with
    | (none, c') => (none, c')
    | (some (x, K'), c') => if validE x 3 ≠ 0 then (none, c')
      else match batGetLoop q K' (if x.kind = 0 then x.t else lt) (if x.kind = 0 then x.v else lv) c' with
        | (none, c2) => (none, c2)
        | (some (l, K2), c2) => (some (x :: l, K2), c2)
/-- The changes that bytes begin with, in generation 3, and the keys then; or the shape. -/
def batGet (K : List (List UInt8)) (s : List UInt8) : Option (List Rc × List (List UInt8)) × Int :=
  if (frameGet s 20000).2.2 ≠ 0 then (none, (frameGet s 20000).2.2)
  else if sV ((frameGet s 20000).1, false) = 0 ∨ 20000 < sV ((frameGet s 20000).1, false) then (none, 2)
  else match batGetLoop (sV ((frameGet s 20000).1, false)).toNat K 0 0 (sN ((frameGet s 20000).1, false)) with
    | (none, _) => (none, 2)
    | (some (l, K'), c) => if doneB c.1 c.2 = false then (none, 2) else (some (l, K'), 0)
/-- Some changes ahead of others. -/
def behindZ (Z : List Rc) (r : Option (List Rc × List (List UInt8)) × CS) : Option (List Rc × List (List UInt8)) × CS := match r with
  | (none, c2) => (none, c2)
  | (some (l, K2), c2) => (some (Z ++ l, K2), c2)
theorem namesGet_keys (K : List (List UInt8)) (c : CS) (L : List Lb) (K' : List (List UInt8)) (c' : CS) (h : namesGet K c = (some (L, K'), c')) : K'.length ≤ K.length + 1 ∧ ∀ k ∈ K', k ∈ K ∨ k.length ≤ 600 := by
  unfold namesGet at h
  split at h
  · cases h
  · split at h
    · have h1 := (Prod.mk.inj h).1
      cases ho : ofB (K.getD (sV c).toNat []) with
      | none => rw [ho] at h1; cases h1
      | some L0 =>
        rw [ho] at h1
        simp only [Option.bind_some] at h1
        split at h1
        · obtain ⟨_, rfl⟩ := Prod.mk.inj (Option.some.inj h1)
          exact ⟨by omega, fun k hk => .inl hk⟩
        · cases h1
    · split at h
      · cases h
      · have h1 := (Prod.mk.inj h).1
        cases ho : ofB (tT (sN c) 600) with
        | none => rw [ho] at h1; cases h1
        | some L0 =>
          rw [ho] at h1
          simp only [Option.map_some] at h1
          obtain ⟨_, rfl⟩ := Prod.mk.inj (Option.some.inj h1)
          refine ⟨by simp, fun k hk => ?_⟩
          rcases List.mem_append.1 hk with h | h
          · exact .inl h
          · obtain rfl := List.mem_singleton.1 h
            refine .inr ?_
            unfold tT
            split
            · simp
            · cases ht : Num.getText (sN c).1 600 with
              | none => simp [gsval]
              | some x =>
                obtain ⟨x, j⟩ := x
                have := (getText_bd _ _ _ _ ht).1
                simp [gsval]
                omega
theorem get1P_keys (smp : CS → (Int × Nat) × CS) (K : List (List UInt8)) (c : CS) (x : Rc) (K' : List (List UInt8)) (c' : CS) (h : get1P smp K c = (some (x, K'), c')) : K'.length ≤ K.length + 1 ∧ ∀ k ∈ K', k ∈ K ∨ k.length ≤ 600 := by
  unfold get1P at h
  split at h
  · cases h
  · split at h
    · split at h
      · cases h
      · obtain ⟨h1, _⟩ := Prod.mk.inj h
        obtain ⟨_, rfl⟩ := Prod.mk.inj (Option.some.inj h1)
        exact ⟨by omega, fun k hk => .inl hk⟩
    · rcases hn : namesGet K (sN c) with ⟨r, c2⟩
      rw [hn] at h
      cases r with
      | none => cases h
      | some z =>
        obtain ⟨L, K2⟩ := z
        have hk := namesGet_keys K (sN c) L K2 c2 hn
        simp only at h
        split at h
        · split at h
          · cases h
          · obtain ⟨h1, _⟩ := Prod.mk.inj h
            obtain ⟨_, rfl⟩ := Prod.mk.inj (Option.some.inj h1)
            exact hk
        · split at h
          · cases h
          · obtain ⟨h1, _⟩ := Prod.mk.inj h
            obtain ⟨_, rfl⟩ := Prod.mk.inj (Option.some.inj h1)
            exact hk
theorem get1P_len (smp : CS → (Int × Nat) × CS) (hs : ∀ c, (smp c).2.1.length ≤ c.1.length) (K : List (List UInt8)) (c : CS) : (get1P smp K c).2.1.length ≤ c.1.length := by
  have h1 : (sN c).1.length ≤ c.1.length := nxt_len _ _
  unfold get1P
  split
  · exact h1
  · split
    · split <;> exact Nat.le_trans (nxt_len _ _) h1
    · have h2 := namesGet_len K (sN c)
      rcases hn : namesGet K (sN c) with ⟨r, c2⟩
      rw [hn] at h2
      cases r with
      | none => exact Nat.le_trans h2 h1
      | some z =>
        obtain ⟨L, K2⟩ := z
        dsimp only
        split
        · split <;> exact Nat.le_trans (hs _) (Nat.le_trans h2 h1)
        · split <;> exact Nat.le_trans (nxt_len _ _) (Nat.le_trans (nxt_len _ _) (Nat.le_trans h2 h1))
theorem smp3_len (lt : Int) (lv : Nat) (c : CS) : (smp3 lt lv c).2.1.length ≤ c.1.length := Nat.le_trans (nxt_len _ _) (nxt_len _ _)
theorem recsCells_len (Z : List (Rc × Value)) : (recsCells Z).length = Z.length * 5 := by
  induction Z with
  | nil => rfl
  | cons z Z ih => unfold recsCells at *; rw [List.flatMap_cons, List.length_append, ih, List.length_cons]; simp [recCells]; omega
theorem recsCells_snoc (Z : List (Rc × Value)) (z : Rc × Value) : recsCells (Z ++ [z]) = recsCells Z ++ recCells z.1 z.2 := by unfold recsCells; rw [List.flatMap_append]; simp

def BGetIs (w : World) (B n m : Nat) (kv : Value) (s rest : List UInt8) (r : Option (List Rc × List (List UInt8)) × Int) (e : Ending) (w' : World) : Prop :=
  Below B w w' ∧ match r.1 with
    | none => e = .returned (.tuple #[.slice none 0 0, .string (bs s), .int .i64 r.2]) ∧ (r.2 = 2 ∨ (r.2 = 1 ∧ Below w.heap.size w w'))
    | some (l, K') => ∃ v Z kv' D', e = .returned (.tuple #[v, .string (bs rest), .int .i64 0]) ∧ GotAt w' v Z ∧ Z.map (·.1) = l ∧ NamesIs w' B n K' kv' m D' ∧ Turn w w' (NF n m kv) (NF n m kv')
section
variable {w : World} {B n m : Nat} {K : List (List UInt8)} {kv : Value} {D : DataW Unit}
set_option maxRecDepth 100000 in
set_option maxHeartbeats 8000000 in
theorem batched_get_any (s : List UInt8) (h : NamesIs w B n K kv m D) (hl : s.length ≤ 1000000) (hK : K.length ≤ 1000000) (hKl : ∀ k ∈ K, k.length ≤ 1000000) (hB : B ≤ w.heap.size) :
    Calls Tryz.prog 125 #[.agg #[.pointer (some ⟨n, 0, none⟩)], .string (bs s)] w (BGetIs w B n m kv s (frameGet s 20000).2.1 (batGet K s)) := by
  have b0 := one_alloc w (.cells #[.pointer (some ⟨n, 0, none⟩)] 82)
  have k0 : Blk (w.alloc (.cells #[.pointer (some ⟨n, 0, none⟩)] 82)) w.heap.size 82 #[.pointer (some ⟨n, 0, none⟩)] := Blk.new _ _ _
  have q0 := Lib.hid (fun W => Get_any s 20000 (by omega) (by omega) W)
  have hfl := frameGet_len s 20000
  have hs3 := Lib.hid (frameGet_sh s 20000)
  have hG : batGet K s = if (frameGet s 20000).2.2 ≠ 0 then (none, (frameGet s 20000).2.2)
    else if sV ((frameGet s 20000).1, false) = 0 ∨ 20000 < sV ((frameGet s 20000).1, false) then (none, 2)
    else match batGetLoop (sV ((frameGet s 20000).1, false)).toNat K 0 0 (sN ((frameGet s 20000).1, false)) with
      | (none, _) => (none, 2)
      | (some (l, K'), c) => if doneB c.1 c.2 = false then (none, 2) else (some (l, K'), 0) := rfl
  generalize batGet K s = R at *
  rcases hfg : frameGet s 20000 with ⟨b, rest, sh⟩
  rw [hfg] at q0 hfl hG hs3
  rw [show frameV (b, rest, sh) = .tuple #[.string (bs b), .string (bs rest), .int .i64 sh] from rfl] at q0
  simp only at hG hfl
  clear hfg
  by_cases hsh : sh = 0
  · rw [if_neg (by simp [hsh])] at hG
    subst hsh
    obtain ⟨a, ha, hab⟩ := sV_nat (b, false)
    rw [ha] at hG
    rw [show ((a : Int).toNat) = a from rfl] at hG
    have hl1 : (sN (b, false)).1.length ≤ 1000000 := Nat.le_trans (nxt_len _ _) (by simp only; omega)
    have q1 := Lib.hid (fun g W (hW : Cur W g b false) => CSm g (b, false) W hW (by simp only; omega))
    rw [ha] at q1
    clear ha
    generalize sN (b, false) = c1 at *
    have HG := Lib.hid hG
    clear hG
    have HW := Lib.hid (show ∀ w', R = (none, 2) → Below B w w' → BGetIs w B n m kv s rest R (.returned (.tuple #[.slice none 0 0, .string (bs s), .int .i64 2])) w' from fun w' e hb => by
      unfold BGetIs
      rw [e]
      exact ⟨hb, rfl, .inl rfl⟩)
    have HT := Lib.hid (show ∀ w' v Z l K' kv3 D3, R = (some (l, K'), 0) → Below B w w' → GotAt w' v Z → Z.map (·.1) = l → NamesIs w' B n K' kv3 m D3 → Turn w w' (NF n m kv) (NF n m kv3) → BGetIs w B n m kv s rest R (.returned (.tuple #[v, .string (bs rest), .int .i64 0])) w' from fun w' v Z l K' kv3 D3 e hb hg hz hn ht => by
      unfold BGetIs
      rw [e]
      exact ⟨hb, v, Z, kv3, D3, rfl, hg, hz, hn, ht⟩)
    go_enter Tryz.func125, Tryz.ntmps125
    go_wp2_with fail
    refine (q0.out _).mono ?_
    rintro e W1 ⟨rfl, hb1⟩
    have hbw1 := b0.trans (hb1.mono b0.size)
    have k1 := Blk.below k0 hb1 k0.lt
    have kc : Cur (W1.alloc (.cells #[.string (bs b), .bool false] 120)) W1.heap.size b false := Blk.new _ _ _
    have bc := one_alloc W1 (.cells #[.string (bs b), .bool false] 120)
    have hbw2 := hbw1.trans (bc.mono hbw1.size)
    have k2 := Blk.below k1 bc k1.lt
    have hgc : w.heap.size < W1.heap.size := k1.lt
    have q2 := Lib.hid (q1.out _ _ kc)
    clear q0 q1 k0 b0 hb1 hbw1 k1 bc
    go_wp2_with fail
    generalize W1.alloc (.cells #[.string (bs b), .bool false] 120) = W2 at *
    generalize W1.heap.size = gc at *
    refine q2.out.mono ?_
    rintro e W3 ⟨rfl, hC3, hg3⟩
    have hgc2 := kc.lt
    have hk23 : Kept W2 W3 (fun k => k = gc) := Kept.of_grown hg3 fun k e => (Option.some.inj e).symm
    have k3 := k2.keptK hk23 (by omega)
    have hbw3 := hbw2.trans (Kept.below hk23 hbw2.size (fun k hk => by omega))
    clear q2 hk23 hg3 kc k2 hbw2
    by_cases ha0 : a = 0
    · have HE := Lib.hid (HW.out W3 (by rw [HG.out, if_pos (.inl (by omega))]) (hbw3.mono hB))
      subst ha0
      clear HW HT HG
      go_wp2_with fail
      go_ret3
      exact HE.out
    have haz : ((a : Int) == 0) = false := by simp; omega
    by_cases ha2 : 20000 < a
    · have HE := Lib.hid (HW.out W3 (by rw [HG.out, if_pos (.inr (by omega))]) (hbw3.mono hB))
      have hd : decide ((20000 : Int) < (a : Int)) = true := by simp; omega
      have hd' : decide (20000 < a) = true := by simpa using ha2
      clear HW HT HG
      go_wp2_with fail
      go_ret3
      exact HE.out
    have hd : decide ((20000 : Int) < (a : Int)) = false := by simp; omega
    have hd' : decide (20000 < a) = false := by simpa using ha2
    have HG2 := Lib.hid (HG.out.trans (if_neg (by omega)))
    clear HG
    have b4 := one_alloc W3 (.cells #[.int .i64 0, .int .u64 0] 183)
    have kl : Blk (W3.alloc (.cells #[.int .i64 0, .int .u64 0] 183)) W3.heap.size 183 #[.int .i64 0, .int .u64 0] := Blk.new _ _ _
    have k4 := Blk.below k3 b4 k3.lt
    have hC4 : Cur (W3.alloc (.cells #[.int .i64 0, .int .u64 0] 183)) gc c1.1 c1.2 := Blk.below hC3 b4 hC3.lt
    have hbw4 := hbw3.trans (b4.mono hbw3.size)
    have hN4 := h.below hbw4
    have hgl : gc < W3.heap.size := hC3.lt
    have hrow0 : (W3.alloc (.cells #[.int .i64 0, .int .u64 0] 183)).ownsRow w.heap.size 51 5 (.slice none 0 0) ([] : List (Rc × Value)).length (recsCells []) := World.ownsRow_nil _ _ _ _
    go_wp2_with fail
    go_loopw [12, 39] (fun vl vi wr => ∃ (i : Nat) (Z : List (Rc × Value)) (Ki : List (List UInt8)) (lt : Int) (lv : Nat) (c : CS) (kvi : Value) (Di : DataW Unit), i ≤ a ∧ vi = .int .u64 (i : Int) ∧ Z.length = i ∧
        batGetLoop a K 0 0 c1 = behindZ (Z.map (·.1)) (batGetLoop (a - i) Ki lt lv c) ∧ Cur wr gc c.1 c.2 ∧ c.1.length ≤ 1000000 ∧ NamesIs wr B n Ki kvi m Di ∧ Ki.length ≤ K.length + i ∧ (∀ k ∈ Ki, k.length ≤ 1000000) ∧
        Blk wr W3.heap.size 183 #[.int .i64 lt, .int .u64 (lv : Int)] ∧ lv < 18446744073709551616 ∧ Blk wr w.heap.size 82 #[.pointer (some ⟨n, 0, none⟩)] ∧ wr.ownsRow w.heap.size 51 5 vl Z.length (recsCells Z) ∧
        (∀ z ∈ Z, z.1.ok ∧ LabsOwn wr z.2 z.1.labels) ∧ Turn w wr (NF n m kv) (NF n m kvi) ∧ Below B w wr) (fun _ vi _ => a - (intOf vi).toNat)
    case atStart =>
      refine ⟨0, [], K, 0, 0, c1, kv, D, Nat.zero_le _, rfl, rfl, ?_, hC4, hl1, hN4, by omega, hKl, kl, by omega, k4, hrow0, by simp, Turn.of_below hbw4, hbw4.mono hB⟩
      unfold behindZ
      rw [Nat.sub_zero]
      rcases batGetLoop a K 0 0 c1 with ⟨r, c2⟩
      cases r with
      | none => rfl
      | some z => rfl
    clear b4 kl k4 hC4 hbw4 hN4 hrow0 hC3 k3 hbw3
    generalize W3.heap.size = gl at *
    obtain ⟨_, Z, Ki, lt, lv, c, kvi, Di, hi, rfl, rfl, hP, hC, hcl, hN, hKi, hKil, hkl, hlv, hk, hrow, hZ, hT, hbB⟩ := hrel
    have hB' : B ≤ wr.heap.size := Nat.le_trans hB hT.kept.size
    rcases (show Z.length < a ∨ Z.length = a by omega) with hil | hil
    · have HP1 := Lib.hid (show batGetLoop a K 0 0 c1 = behindZ (Z.map (·.1)) (match get1P (smp3 lt lv) Ki c with
        | (none, c') => (none, c')
        | (some (x, K'), c') => if validE x 3 ≠ 0 then (none, c')
          else match batGetLoop (a - (Z.length + 1)) K' (if x.kind = 0 then x.t else lt) (if x.kind = 0 then x.v else lv) c' with
            | (none, c2) => (none, c2)
            | (some (l, K2), c2) => (some (x :: l, K2), c2)) by
        rw [hP, show a - Z.length = (a - (Z.length + 1)) + 1 by omega]
        rfl)
      have hnc := cur_away hN hC
      have hlc : gl ≠ gc := by omega
      have htl := tag_blk hkl
      have hgln := nf_tag hN htl (by decide) (by decide)
      have hq := get1_any (gc := gc) c 127 #[.pointer (some ⟨gl, 0, none⟩)] (smp3 lt lv) (fun k => k = gl) (fun W => Blk W gl 183 #[.int .i64 lt, .int .u64 (lv : Int)]) (fun T V W => Blk W gl 183 #[.int .i64 T, .int .u64 (V : Int)]) hN hC hcl (by omega) hKil hB' hkl
        (fun k e => by subst e; exact ⟨hkl.lt, hgln, hlc, by rw [htl]; simp⟩) (fun W W' S h1 h2 h3 => Blk.keptK h1 h2 (fun e => h3 gl e rfl)) (fun T V W W' S h1 h2 h3 => Blk.keptK h1 h2 (fun e => h3 gl e rfl))
        (fun c => by
          obtain ⟨t2, h2, h2b⟩ := sV_nat (sN c)
          have := wrap64_bd (lt + Num.zagI (sV c))
          unfold smp3
          rw [h2]
          exact ⟨this.1, this.2, Nat.xor_lt_two_pow (n := 64) hlv h2b⟩) (fun W => by go_simp)
        (fun W c hW hcl hB => (smp3_any gc gl lt lv W c hW hcl hlc hlv hB).mono fun e w' ⟨a1, a2, a3, a4⟩ => ⟨a1, a2, a3, a4⟩)
      have q := Lib.hid hq
      clear hq
      have d0 := cells1 hk
      have hd4 : decide ((Z.length : Int) < (a : Int)) = true := by simp; omega
      have hd4' : decide (Z.length < a) = true := by simpa using hil
      have htk := tag_blk hk
      have hgkn := nf_tag hN htk (by decide) (by decide)
      go_wp2_with fail
      refine q.out.mono ?_
      rintro e W5 ⟨hk5, hpost⟩
      have hS : ∀ k, (NF n m kvi k ∨ k = gc ∨ k = gl) → ∀ t, t ≠ 68 → t ≠ 9 → t ≠ 120 → t ≠ 183 → tag wr k ≠ some (some t) := fun k hk t h1 h2 h3 h4 ht => by
        rcases hk with hk | rfl | rfl
        · exact nf_tag hN ht h1 h2 hk
        · rw [tag_blk hC] at ht
          simp at ht
          exact h3 ht.symm
        · rw [htl] at ht
          simp at ht
          exact h4 ht.symm
      have kb5 := hk.keptK hk5 (fun e => hS _ e _ (by decide) (by decide) (by decide) (by decide) htk)
      have hrow5 := ownsRow_kept hrow hk5 (fun b hb e => hS b e _ (by decide) (by decide) (by decide) (by decide) (tag_row hrow hb))
      have hZ5 : ∀ z ∈ Z, z.1.ok ∧ LabsOwn W5 z.2 z.1.labels := fun z hz => ⟨(hZ z hz).1, (hZ z hz).2.kept hk5 (fun b hb e => hS b e _ (by decide) (by decide) (by decide) (by decide) hb)⟩
      have hbB5 := hbB.trans (Kept.below hk5 hB' (fun k hk => by
        rcases hk with hk | rfl | rfl
        · exact hN.ge k hk
        · omega
        · omega))
      have hB5 : B ≤ W5.heap.size := Nat.le_trans hB' hk5.size
      have hkl6 := get1P_keys (smp3 lt lv) Ki c
      have hcl6 := get1P_len (smp3 lt lv) (smp3_len lt lv) Ki c
      rcases hgp : get1P (smp3 lt lv) Ki c with ⟨r1, c2⟩
      rw [hgp] at hpost hkl6 hcl6
      have HP2 := HP1.out
      rw [hgp] at HP2
      clear q HP1 hrow hZ hk hP
      cases r1 with
      | none =>
        obtain ⟨kk, _, t, u, v, rfl, sa, sn, sc, rfl⟩ := hpost
        have HE := Lib.hid (fun w' => HW.out w' (by rw [HG2.out, HP2]; rfl))
        clear HP2 HT HW
        go_wp2_with fail
        go_ret3
        exact HE.out _ (hbB5.alloc hB5 _)
      | some z =>
        obtain ⟨x, K'⟩ := z
        obtain ⟨sl, kv3, D3, rfl, hok, hLa, hC5, hN5, hnew, hsp⟩ := hpost
        obtain ⟨hkl7, hkl8⟩ := hkl6 x K' c2 rfl
        simp only at hC5 hcl6
        have hT5 : Turn w W5 (NF n m kv) (NF n m kv3) := by
          have h1 := hT.kept
          have hk6 : Kept w W5 (NF n m kv) := ⟨hk5.os.trans h1.os, hk5.tape.trans h1.tape, hk5.output.trans h1.output, Nat.le_trans h1.size hk5.size, fun i hi hn => by
            rw [hk5.block i (Nat.lt_of_lt_of_le hi h1.size) (fun e => e.elim (fun e => (hT.grow i e).elim hn (fun h => by omega)) (fun e => e.elim (fun e => by omega) (fun e => by omega)))]
            exact h1.block i hi hn⟩
          exact ⟨hk6, fun k hk => (hnew k hk).elim (hT.grow k) (fun h => .inr (Nat.le_trans h1.size h))⟩
        have hkl5 : ∃ (lt2 : Int) (lv2 : Nat), lt2 = (if x.kind = 0 then x.t else lt) ∧ lv2 = (if x.kind = 0 then x.v else lv) ∧ Blk W5 gl 183 #[.int .i64 lt2, .int .u64 (lv2 : Int)] ∧ lv2 < 18446744073709551616 := by
          by_cases hx0 : x.kind = 0
          · rw [if_pos hx0] at hsp ⊢
            rw [if_pos hx0]
            exact ⟨_, _, rfl, rfl, hsp, hok.2.2.2.2.2.2⟩
          · rw [if_neg hx0] at hsp ⊢
            rw [if_neg hx0]
            exact ⟨_, _, rfl, rfl, hsp, hlv⟩
        obtain ⟨lt2, lv2, hlt2, hlv2, kl5, hlv2b⟩ := hkl5
        dsimp only at HP2
        rw [← hlt2, ← hlv2] at HP2
        obtain ⟨va, vc, rfl, _⟩ := id hLa.1
        rw [show recV x (.slice va x.labels.length vc) = .agg #[.int .i64 x.kind, .slice va x.labels.length vc, .int .i64 x.t, .int .i64 x.u, .int .u64 (x.v : Int)] from rfl]
        have b6 := one_alloc W5 (.cells #[.int .i64 x.kind, .slice va x.labels.length vc, .int .i64 x.t, .int .i64 x.u, .int .u64 (x.v : Int)] 51)
        have kr : Blk (W5.alloc (.cells #[.int .i64 x.kind, .slice va x.labels.length vc, .int .i64 x.t, .int .i64 x.u, .int .u64 (x.v : Int)] 51)) W5.heap.size 51 #[.int .i64 x.kind, .slice va x.labels.length vc, .int .i64 x.t, .int .i64 x.u, .int .u64 (x.v : Int)] := Blk.new _ _ _
        have qV := Lib.hid (Valid_any x (.slice va x.labels.length vc) 3 _ hok (hLa.1.below b6) (by omega) (by omega))
        rw [show recV x (.slice va x.labels.length vc) = .agg #[.int .i64 x.kind, .slice va x.labels.length vc, .int .i64 x.t, .int .i64 x.u, .int .u64 (x.v : Int)] from rfl] at qV
        obtain ⟨⟨x0, x1, x2, x3, x4⟩, _⟩ := cells5 kr
        clear hsp hlt2 hlv2 hk5 hT hN hC
        go_wp2_with fail
        generalize W5.alloc (.cells #[.int .i64 x.kind, .slice va x.labels.length vc, .int .i64 x.t, .int .i64 x.u, .int .u64 (x.v : Int)] 51) = W6 at *
        refine qV.out.mono ?_
        rintro e W7 ⟨rfl, hb7⟩
        have hb57 : Below W5.heap.size W5 W7 := b6.trans (hb7.mono b6.size)
        have hB7 : B ≤ W7.heap.size := Nat.le_trans hB5 (Nat.le_trans b6.size hb7.size)
        have hbB7 := hbB5.trans (Below.mono hb57 hB5)
        generalize hve : validE x 3 = ve at *
        by_cases h0v : ve = 0
        · subst h0v
          rw [if_neg (by simp)] at HP2
          have kr7 := Blk.below kr hb7 kr.lt
          have kb7 := Blk.below kb5 hb57 kb5.lt
          have kl7 := Blk.below kl5 hb57 kl5.lt
          have hC7 : Cur W7 gc c2.1 c2.2 := Blk.below hC5 hb57 hC5.lt
          have hN7 := hN5.below hb57
          have hT7 := hT5.trans (Turn.of_below hb57)
          have hL7 := hLa.below hb57
          have hrow7 := ownsRow_kept hrow5 (Kept.of_below (S := fun _ => False) hb57) (fun _ _ e => e)
          have hZ7 : ∀ z ∈ Z, z.1.ok ∧ LabsOwn W7 z.2 z.1.labels := fun z hz => ⟨(hZ5 z hz).1, (hZ5 z hz).2.below hb57⟩
          have HP3 := Lib.hid (show batGetLoop a K 0 0 c1 = behindZ ((Z ++ [(x, Value.slice va x.labels.length vc)]).map (·.1)) (batGetLoop (a - (Z.length + 1)) K' lt2 lv2 c2) by
            rw [HP2, List.map_append]
            rcases batGetLoop (a - (Z.length + 1)) K' lt2 lv2 c2 with ⟨r, c3⟩
            cases r with
            | none => rfl
            | some z =>
              obtain ⟨l, K2⟩ := z
              simp [behindZ])
          obtain ⟨⟨y0, y1, y2, y3, y4⟩, _⟩ := cells5 kr7
          have ⟨i0, hin, hz0, hz1, hz2⟩ := info_parts (show (Tryz.prog.info? 51).map (fun i => (i.zero, i.size, i.bytes)) = some (some (.agg #[.int .i64 0, .slice none 0 0, .int .i64 0, .int .i64 0, .int .u64 0]), 5, 56) by kernel_rfl)
          have hwB7 : w.heap.size ≤ W7.heap.size := by have := hT7.kept.size; exact this
          clear HP2 b6 kr kr7 qV hb7 hb57 x0 x1 x2 x3 x4 kb5 kl5 hC5 hN5 hT5 hLa hrow5 hZ5 hbB5 hve
          obtain ⟨la, lc, rfl⟩ := row_form hrow7
          go_wp2_with (at_builtin; refine wpList_append_own_at _ rfl _ _ 25 rfl w.heap.size 51 i0 (.agg #[.int .i64 0, .slice none 0 0, .int .i64 0, .int .i64 0, .int .u64 0]) 5 56 Tryz.underlying25 hin hz0 hz1 hz2 rfl (by decide) _ _ _ rfl (World.ownsRow.alloc hrow7 _) ⟨_, 0, none⟩ 1 1 [.int .i64 x.kind, .slice va x.labels.length vc, .int .i64 x.t, .int .i64 x.u, .int .u64 (x.v : Int)] rfl rfl (cells_list_new _ _ _) (by simp [Value.oneCell']) (by unfold maxLen; omega) (by omega) (by simp; omega) ?_; intro v' w8 hown' hgrow hnil hloc)
          have hk8 : Kept W7 w8 (fun k => (Value.slice la Z.length lc).ownBlock = some k) := ((Kept.alloc W7 _ (fun _ => False)).weaken (fun _ e => e.elim)).trans (Kept.of_grown hgrow fun k e => e)
          have hrt : ∀ k, (Value.slice la Z.length lc).ownBlock = some k → tag W7 k = some (some 51) := fun k hk => tag_row hrow7 hk
          have kb8 := kb7.keptK hk8 (fun e => by have := hrt _ e; rw [tag_blk kb7] at this; simp at this)
          have kl8 := kl7.keptK hk8 (fun e => by have := hrt _ e; rw [tag_blk kl7] at this; simp at this)
          have hC8 : Cur w8 gc c2.1 c2.2 := Blk.keptK hC7 hk8 (fun e => by have := hrt _ e; rw [tag_blk hC7] at this; simp at this)
          have hN8 := hN7.kept hk8 (fun k hk e => nf_tag hN7 (hrt k e) (by decide) (by decide) hk)
          have hL8 := hL7.kept hk8 (fun b hb e => by rw [hrt b e] at hb; simp at hb)
          have hZ8 : ∀ z ∈ Z, z.1.ok ∧ LabsOwn w8 z.2 z.1.labels := fun z hz => ⟨(hZ7 z hz).1, (hZ7 z hz).2.kept hk8 (fun b hb e => by rw [hrt b e] at hb; simp at hb)⟩
          have hlo : ∀ k, (Value.slice la Z.length lc).ownBlock = some k → w.heap.size ≤ k := fun k hk => (hrow7.lt k hk).1
          have hT8 : Turn w w8 (NF n m kv) (NF n m kv3) := ⟨⟨hk8.os.trans hT7.kept.os, hk8.tape.trans hT7.kept.tape, hk8.output.trans hT7.kept.output, Nat.le_trans hT7.kept.size hk8.size, fun i hi hn => by
            rw [hk8.block i (Nat.lt_of_lt_of_le hi hT7.kept.size) (fun e => by have := hlo i e; omega)]
            exact hT7.kept.block i hi hn⟩, hT7.grow⟩
          have hbB8 := hbB7.trans (Kept.below hk8 hB7 (fun k hk => Nat.le_trans hB (hlo k hk)))
          clear hk8 hrt hgrow hnil hloc hrow7 kb7 kl7 hC7 hN7 hL7 hZ7 hT7 hbB7 y0 y1 y2 y3 y4 hlo hin hz0 hz1 hz2
          go_roundw
          case rel =>
            refine ⟨Z.length + 1, Z ++ [(x, Value.slice va x.labels.length vc)], K', lt2, lv2, c2, kv3, D3, by omega, by go_num, by simp, HP3.out, hC8, Nat.le_trans hcl6 hcl, hN8, by omega, fun k hk => (hkl8 k hk).elim (hKil k) (fun h => by omega), kl8, hlv2b, kb8, ?_, fun z hz => ?_, hT8, hbB8⟩
            · rw [recsCells_snoc, List.length_append]
              exact hown'
            · rcases List.mem_append.1 hz with h | h
              · exact hZ8 z h
              · obtain rfl := List.mem_singleton.1 h
                exact ⟨hok, hL8⟩
          case measure => simp [intOf]; omega
        · have hvz : (ve != 0) = true := by simpa using h0v
          have hvz2 : (ve == 0) = false := by simpa using h0v
          rw [if_pos h0v] at HP2
          have HE := Lib.hid (HW.out W7 (by rw [HG2.out, HP2]; rfl) hbB7)
          clear HP2 HT HW
          go_wp2_with fail
          go_ret3
          exact HE.out
    · subst hil
      rw [Nat.sub_self] at hP
      have hP2 : batGetLoop Z.length K 0 0 c1 = (some (Z.map (·.1), Ki), c) := by rw [hP]; simp [batGetLoop, behindZ]
      have hR := HG2.out
      rw [hP2] at hR
      simp only at hR
      have hd4 : decide ((Z.length : Int) < (Z.length : Int)) = false := by simp
      have hd4' : decide (Z.length < Z.length) = false := by simp
      have q := Lib.hid (CDone gc c.1 c.2 wr hC)
      have HR := Lib.hid hR
      clear hR hP hP2 HG2
      generalize doneB c.1 c.2 = db at *
      obtain ⟨la, lc, rfl⟩ := row_form hrow
      go_wp2_with fail
      refine q.out.mono ?_
      rintro e _ ⟨rfl, rfl⟩
      cases db with
      | false =>
        have HE := Lib.hid (HW.out wr (by rw [HR.out, if_pos rfl]) hbB)
        clear HW HT HR
        go_wp2_with fail
        go_ret3
        exact HE.out
      | true =>
        have HE := Lib.hid (HT.out wr (.slice la Z.length lc) Z (Z.map (·.1)) Ki kvi Di (by rw [HR.out, if_neg (by simp)]) hbB ⟨by
          have hcells : ∀ g, (Value.slice la Z.length lc).ownBlock = some g → ∀ j u, (recsCells Z)[j]? = some u → wr.cell? ((⟨g, 0, none⟩ : Addr).add j) = some u := fun g hg => hrow.cells (g := g) hg
          rcases hrow.2 with ⟨e, e0⟩ | ⟨g, cap, cur, e, e1, e2, e3⟩
          · omega
          · cases e
            exact ⟨g, _, rfl, hcells g rfl⟩, hZ⟩ rfl hN hT)
        clear HW HT HR
        go_wp2_with fail
        go_ret3
        exact HE.out
  · rw [if_pos hsh] at hG
    subst hG
    have hz : (sh != 0) = true := by simpa using hsh
    have hz2 : (sh == 0) = false := by simpa using hsh
    go_enter Tryz.func125, Tryz.ntmps125
    go_wp2_with fail
    refine (q0.out _).mono ?_
    rintro e W1 ⟨rfl, hb1⟩
    go_wp2_with fail
    go_ret3
    exact ⟨(b0.trans (hb1.mono b0.size)).mono hB, rfl, (hs3.out.resolve_left hsh).symm.imp id fun h => ⟨h, b0.trans (hb1.mono b0.size)⟩⟩
end
end Go.Proofs.YtipdeiiipdnacaaGreat
