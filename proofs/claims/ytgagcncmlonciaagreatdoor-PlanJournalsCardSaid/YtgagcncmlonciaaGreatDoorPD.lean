/- What is to be migrated, where the files are those of works: the walks of slices.DeleteFunc at items, and of plan.Of. What is to be migrated, where the files are those of works: the walk of plan.Of at two generations. The document's example of layer 18: the walk of works. PlanJournals: the walk. -/
import Derived.Test.YtgagcncmlonciaaGreatDoorPC
import Derived.Test.YtgagcncmlonciaaGreatDoorPB
namespace Go.Proofs.YtgagcncmlonciaaGreatDoor
open Go.RowKit
attribute [local go_sem] bs_toList bs_size

theorem delIt_none (f : Nat) (capt : Array Value) (p : It → Bool) (v : Value) (S : List It) (w : World) (h : ItsAt w v S) (hp : PredIt f capt p w) (hS : S.findIdx? p = none) (hcf : ∀ args W, (callFunc f args).run Tryz.prog W = .ok (.enter f args) W) :
    Calls Tryz.prog 24 #[v, .func (.func f) #[] capt] w fun e w' => e = .returned v ∧ Below w.heap.size w w' := by
  have q := Lib.hid (idxIt_any f capt p v S w h hp hcf)
  rw [hS] at q
  simp only [idxI] at q
  obtain ⟨a, c, rfl, -⟩ := h
  generalize S.length = n at *
  clear hp hS hcf
  go_enter Tryz.func24, Tryz.ntmps24
  go_wp2_with fail
  refine q.out.mono ?_
  rintro e w1 ⟨rfl, hb⟩
  clear q
  go_wp2_with fail
  go_ret
  exact ⟨rfl, hb⟩
set_option maxRecDepth 100000 in
set_option maxHeartbeats 2000000 in
theorem delIt_all (f : Nat) (capt : Array Value) (p : It → Bool) (v : Value) (L : List It) (w : World) (B : Nat) (hrow : w.ownsRow B 43 3 v L.length (L.flatMap itR)) (hp : PredIt f capt p w) (hL : 0 < L.length) (hl : L.length ≤ 1000) (ht : ∀ x ∈ L, p x = true) (hcf : ∀ args W, (callFunc f args).run Tryz.prog W = .ok (.enter f args) W) :
    Calls Tryz.prog 24 #[v, .func (.func f) #[] capt] w fun e w' => (∃ a c, e = .returned (.slice a 0 c)) ∧ Kept w w' (fun k => v.ownBlock = some k) := by
  have hits := its_row hrow hl
  have q := Lib.hid (idxIt_any f capt p v L w hits hp hcf)
  have hi : L.findIdx? p = some 0 := by
    match L, hL with
    | x :: L, _ => rw [List.findIdx?_cons, ht x List.mem_cons_self]; rfl
  rw [hi] at q
  simp only [idxI] at q
  obtain ⟨la, lc, rfl, -, hc⟩ := hits
  obtain ⟨g, rfl, -⟩ := hc 0 _ (List.getElem?_eq_getElem hL)
  have HC := Lib.hid hc
  have HP := Lib.hid hp
  have HR := Lib.hid hrow
  have HT := Lib.hid ht
  rcases hrow.2 with ⟨e9, _⟩ | ⟨g9, c9, cur9, e9, _, _, hnc, _⟩
  · cases e9
  obtain ⟨hgg, hjj, rfl⟩ := Value.slice.inj e9
  clear hgg hjj e9 hi hc hp hrow ht
  obtain ⟨N, hN⟩ : ∃ N, L.length = N := ⟨_, rfl⟩
  have HN := Lib.hid hN
  rw [hN] at hL hl HR q hnc ⊢
  clear hN
  unfold PredIt itV at HP
  go_enter Tryz.func24, Tryz.ntmps24
  go_wp2_with fail
  refine q.out.mono ?_
  rintro e w1 ⟨rfl, hb1⟩
  clear q
  go_wp2_with fail
  go_loopw [5, 6] (fun si sj wr => ∃ (j : Nat), 1 ≤ j ∧ j ≤ N ∧ si = .int .i64 0 ∧ sj = .int .i64 (j : Int) ∧ Below w.heap.size w wr) (fun _ sj _ => N - (intOf sj).toNat)
  case atStart => exact ⟨1, Nat.le_refl _, hL, rfl, rfl, hb1⟩
  clear hb1
  obtain ⟨j, h1, hj, rfl, rfl, hb⟩ := hrel
  rcases (show j < N ∨ j = N by omega) with hjn | rfl
  · have hjL : j < L.length := by rw [HN.out]; exact hjn
    obtain ⟨g', e, d0, d1, d2⟩ := HC.out j L[j] (List.getElem?_eq_getElem hjL)
    obtain rfl : g = g' := congrArg Addr.block (Option.some.inj e)
    have d0 := (hb.cell (World.block_lt_of_cell? _ _ d0)).trans d0
    have d1 := (hb.cell (World.block_lt_of_cell? _ _ d1)).trans d1
    have d2 := (hb.cell (World.block_lt_of_cell? _ _ d2)).trans d2
    have HX := Lib.hid (HT.out L[j] (List.getElem_mem hjL))
    generalize L[j] = x at *
    obtain ⟨xn, xg, xl⟩ := x
    simp only at d0 d1 d2
    have b3 := one_alloc wr (.cells #[.string (bs xn), .int .i64 xg, .int .i64 xl] 43)
    have B3 := hb.trans (b3.mono hb.size)
    have k3 := Blk.new wr 43 #[.string (bs xn), .int .i64 xg, .int .i64 xl]
    obtain ⟨z0, z1, z2, -⟩ := cells3 k3
    have q := Lib.hid (HP.out ⟨xn, xg, xl⟩ _ B3)
    rw [HX.out] at q
    simp only at q
    have hw9 : IntKind.i64.wrap ((j : Int) + 1) = (j : Int) + 1 := IntWalk.i64_in _ (by omega)
    clear hjL e b3 k3 HX
    go_wp2_with fail
    refine q.out.mono ?_
    rintro e w2 ⟨rfl, hb2⟩
    have B2 := B3.trans (hb2.mono B3.size)
    clear q d0 d1 d2 z0 z1 z2 hb hb2 B3
    go_wp2_with fail
    go_roundw
    case rel => exact ⟨j + 1, by omega, by omega, rfl, by go_num, B2⟩
    case measure => simp [intOf]; omega
  · have row := ownsRow_kept HR.out (Kept.of_below (S := fun _ => False) hb) (fun _ _ e => e)
    obtain ⟨w5, hcl, hk5, -⟩ := run_clear_row (sz := 3) (z := .agg #[.string ⟨#[]⟩, .int .i64 0, .int .i64 0]) elIt.und (fun W => by go_simp) rfl (by simp [Value.oneCell', Value.cells]) row hL
    have HK := Lib.hid (((Kept.of_below (S := fun k => k = g) hb)).trans hk5)
    have hj0 : ¬ (lc = 0) := by omega
    have hjc : (j : Int) ≤ (lc : Int) := by omega
    simp only [Nat.zero_mul, Nat.sub_zero] at hcl
    clear row hk5 HR HC HP HT
    go_wp2
    go_ret
    exact ⟨⟨_, _, rfl⟩, HK.out.weaken fun k e => by rw [e]; rfl⟩
theorem limit2 (w : World) : Calls Tryz.prog 23 #[.int .i64 2] w fun e w' => e = .returned (.int .i64 24) ∧ w = w' := by
  go_enter Tryz.func23, Tryz.ntmps23
  go_wp2_with fail
  go_ret
  exact ⟨rfl, rfl⟩
theorem limit3 (w : World) : Calls Tryz.prog 23 #[.int .i64 3] w fun e w' => e = .returned (.int .i64 48) ∧ w = w' := by
  go_enter Tryz.func23, Tryz.ntmps23
  go_wp2_with fail
  go_ret
  exact ⟨rfl, rfl⟩
/-- Are labels too long? -/
theorem of1_any (g lim : Int) (hlim : ∀ W, Calls Tryz.prog 23 #[.int .i64 g] W fun e w' => e = .returned (.int .i64 lim) ∧ W = w') (p : Nat) (w : World) (hp : w.cell? ⟨p, 0, none⟩ = some (.int .i64 g)) :
    PredIt 22 #[.pointer (some ⟨p, 0, none⟩)] (fun x => decide (lim < x.long)) w := by
  intro x W hW
  have bA := one_alloc W (.cells #[.string (bs x.name), .int .i64 x.gen, .int .i64 x.long] 43)
  have g1 := ((hW.trans (bA.mono hW.size)).cell (World.block_lt_of_cell? _ _ hp)).trans hp
  obtain ⟨z0, z1, z2, -⟩ := cells3 (Blk.new W 43 #[.string (bs x.name), .int .i64 x.gen, .int .i64 x.long])
  have HL := Lib.hid hlim
  unfold itV
  clear hW hp hlim
  go_enter Tryz.func22, Tryz.ntmps22
  go_wp2_with fail
  generalize W.alloc _ = W1 at *
  have x1 := grow_cell g1
  have x2 := grow_cell z2
  refine wp_region_at (R := GrowR) (by kernel_rfl) (by kernel_rfl) ?_
  iterate 3 (refine lx1 fun K hK => ?_; go_big_quiet_step (fail); refine wpQuiet_nil (hK _ ?_); clear hK K)
  (refine lxc (f := 23) (args := #[.int .i64 g]) (v := .int .i64 lim) (fun W hW => (HL.out W).mono fun e w' ⟨h1, h2⟩ => ⟨h1, h2 ▸ Below.refl _ _⟩) fun K hK => ?_; go_big_quiet_step (fail); refine wpQuiet_nil (hK _ ?_); clear hK K)
  iterate 2 (refine lx1 fun K hK => ?_; go_big_quiet_step (fail); refine wpQuiet_nil (hK _ ?_); clear hK K)
  refine lxn ?_
  intro W2 hb2
  simp only [hideAll]
  have B := bA.trans (hb2.mono bA.size)
  go_wp2_with fail
  go_ret
  exact ⟨rfl, B⟩
/-- Is it of a generation? -/
theorem of2_any (g : Int) (p : Nat) (w : World) (hp : w.cell? ⟨p, 0, none⟩ = some (.int .i64 g)) :
    PredIt 25 #[.pointer (some ⟨p, 0, none⟩)] (fun x => x.gen == g) w := by
  intro x W hW
  have bA := one_alloc W (.cells #[.string (bs x.name), .int .i64 x.gen, .int .i64 x.long] 43)
  have g1 := ((hW.trans (bA.mono hW.size)).cell (World.block_lt_of_cell? _ _ hp)).trans hp
  obtain ⟨z0, z1, z2, -⟩ := cells3 (Blk.new W 43 #[.string (bs x.name), .int .i64 x.gen, .int .i64 x.long])
  unfold itV
  clear hW hp
  go_enter Tryz.func25, Tryz.ntmps25
  go_wp2_with fail
  go_ret
  exact ⟨rfl, bA⟩
end Go.Proofs.YtgagcncmlonciaaGreatDoor
namespace Go.Proofs.YtgagcncmlonciaaGreatDoor
open Go.RowKit
attribute [local go_sem] bs_toList bs_size

def itsW : List It := [⟨walN, 3, 0⟩, ⟨metaK, 3, 0⟩]
variable {W w : World} {G : Nat} {S : FsS} {F : Nat → Prop}
/-- What Of answers at generation 2. -/
def Of2Is (w : World) (e : Ending) (w' : World) : Prop := ∃ v a c, e = .returned (.tuple #[.agg #[.int .i64 2, v, .slice a 0 c, .bool false], .int .i64 0]) ∧ ItsAt w' v itsW ∧ Below w.heap.size w w'
/-- What Of answers at generation 3. -/
def Of3Is (w : World) (e : Ending) (w' : World) : Prop := ∃ b d a c, e = .returned (.tuple #[.agg #[.int .i64 3, .slice b 0 d, .slice a 0 c, .bool false], .int .i64 0]) ∧ Below w.heap.size w w'
set_option maxRecDepth 100000 in
set_option maxHeartbeats 4000000 in
theorem of_g2 (hG : Gl W) (m : Mach W w G S F) (hS : FullS S) :
    Calls Tryz.prog 9 #[.pointer (some ⟨G, 0, none⟩), .int .i64 2] w (Of2Is w) := by
  have q1 := Lib.hid (fun W' (hW : Below w.heap.size w W') => Scan_full hG (m.below hW) hS)
  clear hG m hS
  go_enter Tryz.func9, Tryz.ntmps9
  go_upto_region 1 with fail
  have b1 := one_alloc w (.cells #[.int .i64 2] 3)
  have b2 := b1.alloc b1.size (.cells #[.int .i64 0, .slice none 0 0, .slice none 0 0, .bool false] 36)
  have p2 := Blk.alloc (Blk.new w 3 #[.int .i64 2]) (.cells #[.int .i64 0, .slice none 0 0, .slice none 0 0, .bool false] 36)
  have k2 := Blk.new (w.alloc (.cells #[.int .i64 2] 3)) 36 #[.int .i64 0, .slice none 0 0, .slice none 0 0, .bool false]
  rw [World.size_alloc] at k2
  generalize (w.alloc _).alloc _ = W2 at *
  have c0 := (Blk.cell p2 0).trans (show _ = some (Value.int .i64 2) from rfl)
  clear b1
  go_wp2_with fail
  refine (q1.out _ b2).mono ?_
  rintro e w3 ⟨v, a, c, rfl, r3, hb3⟩
  have B3 := b2.trans (hb3.mono b2.size)
  have p3 := Blk.below p2 hb3 p2.lt
  have k3 := Blk.below k2 hb3 k2.lt
  have hp2 := p2.lt
  have hk2 := k2.lt
  obtain ⟨va, vc, rfl⟩ := row_form r3
  clear q1 b2 p2 k2 hb3 c0
  go_upto_region 4 with fail
  have b4 := one_alloc w3 (.cells #[.slice none 0 0, .int .i64 0] 56)
  have B4 := B3.trans (b4.mono B3.size)
  have p4 := Blk.below p3 b4 p3.lt
  have k4 := Blk.below k3 b4 k3.lt
  have r4 := ownsRow_kept r3 (Kept.of_below (S := fun _ => False) b4) (fun _ _ e => e)
  generalize w3.alloc _ = W4 at *
  clear b4 p3 k3 r3 B3
  have c0 := (Blk.cell p4 0).trans (show _ = some (Value.int .i64 2) from rfl)
  have its4 := its_row (L := itsW) r4 (by decide)
  have q2 := Lib.hid (contIt_any 22 #[.pointer (some ⟨w.heap.size, 0, none⟩)] _ _ _ W4 its4 (of1_any 2 24 (fun W => limit2 W) w.heap.size W4 c0) (fun _ _ => by go_simp))
  rw [show (itsW.any fun x => decide ((24 : Int) < x.long)) = false by decide] at q2
  clear its4
  go_wp2_with fail
  refine q2.out.mono ?_
  rintro e w5 ⟨rfl, hb5⟩
  have B5 := B4.trans (hb5.mono B4.size)
  have p5 := Blk.below p4 hb5 p4.lt
  have k5 := Blk.below k4 hb5 k4.lt
  have r5 := ownsRow_kept r4 (Kept.of_below (S := fun _ => False) hb5) (fun _ _ e => e)
  clear q2 B4 p4 k4 r4 hb5 c0
  have c0 := (Blk.cell p5 0).trans (show _ = some (Value.int .i64 2) from rfl)
  have its5 := its_row (L := itsW) r5 (by decide)
  have q3 := Lib.hid (delIt_none 25 #[.pointer (some ⟨w.heap.size, 0, none⟩)] _ _ itsW w5 its5 (of2_any 2 w.heap.size w5 c0) (by decide) (fun _ _ => by go_simp))
  have HI := Lib.hid its5
  clear its5
  go_wp2_with fail
  refine q3.out.mono ?_
  rintro e w6 ⟨rfl, hb6⟩
  have B6 := B5.trans (hb6.mono B5.size)
  have p6 := Blk.below p5 hb6 p5.lt
  have k6 := Blk.below k5 hb6 k5.lt
  have r6 := ownsRow_kept r5 (Kept.of_below (S := fun _ => False) hb6) (fun _ _ e => e)
  clear q3 B5 p5 k5 r5 hb6 c0
  have c0 := (Blk.cell p6 0).trans (show _ = some (Value.int .i64 2) from rfl)
  obtain ⟨⟨d0, d1, d2, d3⟩, f0, f1, f2, f3⟩ := cells4 k6
  have kS : Kept w6 ((((w6.setCell ⟨w.heap.size + 1, 0, none⟩ (.int .i64 2)).setCell ⟨w.heap.size + 1, 1, none⟩ (.slice va 2 vc)).setCell ⟨w.heap.size + 1, 2, none⟩ (.slice a 0 c)).setCell ⟨w.heap.size + 1, 3, none⟩ (.bool false)) (fun k => k = w.heap.size + 1) := (((Kept.of_grown (grown_set _ _ _ _) fun k e => (Option.some.inj e).symm).trans (Kept.of_grown (grown_set _ _ _ _) fun k e => (Option.some.inj e).symm)).trans (Kept.of_grown (grown_set _ _ _ _) fun k e => (Option.some.inj e).symm)).trans (Kept.of_grown (grown_set _ _ _ _) fun k e => (Option.some.inj e).symm)
  have kE := Blk.set_ (Blk.set_ (Blk.set_ (Blk.set_ k6 0 (.int .i64 2)) 1 (.slice va 2 vc)) 2 (.slice a 0 c)) 3 (.bool false)
  have BE := Lib.hid (B6.trans (kS.below B6.size (fun k e => by omega)))
  have HE := Lib.hid (its_row (L := itsW) (ownsRow_kept r6 kS (fun b' hb' e => by have := (r6.lt b' hb').1; omega)) (by decide))
  clear r6 HI
  clear B6 kS
  go_wp2_with fail
  (try dsimp only [Exit.noGoto])
  refine bodyPost_ret (results_ct rfl _ _ (w.heap.size + 1) 36 _ _ rfl kE Tryz.underlying36 rfl (by kernel_rfl)) rfl ?_
  exact ⟨_, _, _, rfl, HE.out, BE.out⟩
set_option maxRecDepth 100000 in
set_option maxHeartbeats 4000000 in
theorem of_g3 (hG : Gl W) (m : Mach W w G S F) (hS : FullS S) :
    Calls Tryz.prog 9 #[.pointer (some ⟨G, 0, none⟩), .int .i64 3] w (Of3Is w) := by
  have q1 := Lib.hid (fun W' (hW : Below w.heap.size w W') => Scan_full hG (m.below hW) hS)
  clear hG m hS
  go_enter Tryz.func9, Tryz.ntmps9
  go_upto_region 1 with fail
  have b1 := one_alloc w (.cells #[.int .i64 3] 3)
  have b2 := b1.alloc b1.size (.cells #[.int .i64 0, .slice none 0 0, .slice none 0 0, .bool false] 36)
  have p2 := Blk.alloc (Blk.new w 3 #[.int .i64 3]) (.cells #[.int .i64 0, .slice none 0 0, .slice none 0 0, .bool false] 36)
  have k2 := Blk.new (w.alloc (.cells #[.int .i64 3] 3)) 36 #[.int .i64 0, .slice none 0 0, .slice none 0 0, .bool false]
  rw [World.size_alloc] at k2
  generalize (w.alloc _).alloc _ = W2 at *
  have c0 := (Blk.cell p2 0).trans (show _ = some (Value.int .i64 3) from rfl)
  clear b1
  go_wp2_with fail
  refine (q1.out _ b2).mono ?_
  rintro e w3 ⟨v, a, c, rfl, r3, hb3⟩
  have B3 := b2.trans (hb3.mono b2.size)
  have p3 := Blk.below p2 hb3 p2.lt
  have k3 := Blk.below k2 hb3 k2.lt
  have hp2 := p2.lt
  have hk2 := k2.lt
  obtain ⟨va, vc, rfl⟩ := row_form r3
  clear q1 b2 p2 k2 hb3 c0
  go_upto_region 4 with fail
  have b4 := one_alloc w3 (.cells #[.slice none 0 0, .int .i64 0] 56)
  have B4 := B3.trans (b4.mono B3.size)
  have p4 := Blk.below p3 b4 p3.lt
  have k4 := Blk.below k3 b4 k3.lt
  have r4 := ownsRow_kept r3 (Kept.of_below (S := fun _ => False) b4) (fun _ _ e => e)
  generalize w3.alloc _ = W4 at *
  clear b4 p3 k3 r3 B3
  have c0 := (Blk.cell p4 0).trans (show _ = some (Value.int .i64 3) from rfl)
  have its4 := its_row (L := itsW) r4 (by decide)
  have q2 := Lib.hid (contIt_any 22 #[.pointer (some ⟨w.heap.size, 0, none⟩)] _ _ _ W4 its4 (of1_any 3 48 (fun W => limit3 W) w.heap.size W4 c0) (fun _ _ => by go_simp))
  rw [show (itsW.any fun x => decide ((48 : Int) < x.long)) = false by decide] at q2
  clear its4
  go_wp2_with fail
  refine q2.out.mono ?_
  rintro e w5 ⟨rfl, hb5⟩
  have B5 := B4.trans (hb5.mono B4.size)
  have p5 := Blk.below p4 hb5 p4.lt
  have k5 := Blk.below k4 hb5 k4.lt
  have r5 := ownsRow_kept r4 (Kept.of_below (S := fun _ => False) hb5) (fun _ _ e => e)
  clear q2 B4 p4 k4 r4 hb5 c0
  have c0 := (Blk.cell p5 0).trans (show _ = some (Value.int .i64 3) from rfl)
  have q3 := Lib.hid (delIt_all 25 #[.pointer (some ⟨w.heap.size, 0, none⟩)] _ _ itsW w5 _ r5 (of2_any 3 w.heap.size w5 c0) (by decide) (by decide) (by decide) (fun _ _ => by go_simp))
  go_wp2_with fail
  refine q3.out.mono ?_
  rintro e w6 ⟨⟨xa, xc, rfl⟩, K6⟩
  have hown := fun k (e : (Value.slice va 2 vc).ownBlock = some k) => (r5.lt k e).1
  have B6 := B5.trans (K6.below B5.size (fun k e => by have := hown k e; omega))
  have p6 := Blk.keptK p5 K6 (fun e => by have := hown _ e; omega)
  have k6 := Blk.keptK k5 K6 (fun e => by have := hown _ e; omega)
  clear q3 B5 p5 k5 r5 K6 c0 hown
  have c0 := (Blk.cell p6 0).trans (show _ = some (Value.int .i64 3) from rfl)
  obtain ⟨⟨d0, d1, d2, d3⟩, f0, f1, f2, f3⟩ := cells4 k6
  have kS : Kept w6 ((((w6.setCell ⟨w.heap.size + 1, 0, none⟩ (.int .i64 3)).setCell ⟨w.heap.size + 1, 1, none⟩ (.slice xa 0 xc)).setCell ⟨w.heap.size + 1, 2, none⟩ (.slice a 0 c)).setCell ⟨w.heap.size + 1, 3, none⟩ (.bool false)) (fun k => k = w.heap.size + 1) := (((Kept.of_grown (grown_set _ _ _ _) fun k e => (Option.some.inj e).symm).trans (Kept.of_grown (grown_set _ _ _ _) fun k e => (Option.some.inj e).symm)).trans (Kept.of_grown (grown_set _ _ _ _) fun k e => (Option.some.inj e).symm)).trans (Kept.of_grown (grown_set _ _ _ _) fun k e => (Option.some.inj e).symm)
  have kE := Blk.set_ (Blk.set_ (Blk.set_ (Blk.set_ k6 0 (.int .i64 3)) 1 (.slice xa 0 xc)) 2 (.slice a 0 c)) 3 (.bool false)
  have BE := Lib.hid (B6.trans (kS.below B6.size (fun k e => by omega)))
  clear B6 kS
  go_wp2_with fail
  (try dsimp only [Exit.noGoto])
  refine bodyPost_ret (results_ct rfl _ _ (w.heap.size + 1) 36 _ _ rfl kE Tryz.underlying36 rfl (by kernel_rfl)) rfl ?_
  exact ⟨_, _, _, _, rfl, BE.out⟩
end Go.Proofs.YtgagcncmlonciaaGreatDoor
namespace Go.Proofs.YtgagcncmlonciaaGreatDoor
open Go.RowKit
attribute [local go_sem] bs_toList bs_size

theorem eq_item (W : World) : (binOp .eql 43 (.agg #[.string (bs walN), .int .i64 3, .int .i64 0]) (.agg #[.string ⟨#[119, 97, 108, 45, 48, 48, 48, 48, 48, 48]⟩, .int .i64 3, .int .i64 0])).run Tryz.prog W = .ok (.bool true) W := by kernel_rfl
set_option maxRecDepth 100000 in
set_option maxHeartbeats 8000000 in
theorem works_any {W : World} (hG : Gl W) : Calls Tryz.prog 4 #[] W fun e w' => e = .returned (.bool true) ∧ Below W.heap.size W w' := by
  have qn := Lib.hid (New_any W 10000)
  have HG := Lib.hid hG
  clear hG
  go_enter Tryz.func4, Tryz.ntmps4
  go_wp2_with fail
  refine qn.out.mono ?_
  rintro e w1 ⟨G, F1, rfl, hM, hT, hF⟩
  have m1 : Mach W w1 G (FsS.new 10000) F1 := ⟨hM, hT.kept.below (Nat.le_refl _) (fun k hk => hk.elim), hF, new_ok 10000⟩
  have q1 := Lib.hid (open_new HG.out m1)
  clear hM hT hF qn m1
  go_wp2_with fail
  refine q1.out.mono ?_
  rintro e w2 ⟨b, a, c, S, F2, rfl, hS, m2, -, -, -⟩
  have HS := Lib.hid hS
  have q2 := Lib.hid (of_g2 HG.out m2 hS)
  clear q1 hS
  go_wp2_with fail
  refine q2.out.mono ?_
  rintro e w3 ⟨v, a2, c2, rfl, hits, hb3⟩
  have m3 := m2.below hb3
  obtain ⟨va, vc, rfl, -, hc⟩ := hits
  obtain ⟨vb, rfl, i0, i1, i2⟩ := hc 0 ⟨walN, 3, 0⟩ rfl
  obtain ⟨vb', e, j0, -, -⟩ := hc 1 ⟨metaK, 3, 0⟩ rfl
  obtain rfl : vb = vb' := congrArg Addr.block (Option.some.inj e)
  simp only [Nat.zero_mul, Nat.zero_add, Nat.one_mul] at i0 i1 i2 j0
  have hL : itsW.length = 2 := rfl
  rw [hL]
  clear q2 m2 hb3 hc e hL
  go_upto_region 6 with fail
  have b4 := one_alloc w3 (.cells #[.int .i64 2, .slice (some ⟨vb, 0, none⟩) 2 vc, .slice a2 0 c2, .bool false] 36)
  have k4 := Blk.new w3 36 #[.int .i64 2, .slice (some ⟨vb, 0, none⟩) 2 vc, .slice a2 0 c2, .bool false]
  have m4 := m3.below b4
  have i0 := (b4.cell (World.block_lt_of_cell? _ _ i0)).trans i0
  have i1 := (b4.cell (World.block_lt_of_cell? _ _ i1)).trans i1
  have i2 := (b4.cell (World.block_lt_of_cell? _ _ i2)).trans i2
  have j0 := (b4.cell (World.block_lt_of_cell? _ _ j0)).trans j0
  generalize w3.alloc _ = W4 at *
  generalize w3.heap.size = p at *
  have q3 := Lib.hid (of_g3 HG.out m4 HS.out)
  clear m3 b4
  go_wp2_with fail
  refine q3.out.mono ?_
  rintro e w5 ⟨va5, vc5, a5, c5, rfl, hb5⟩
  have m5 := m4.below hb5
  have k5 := Blk.below k4 hb5 k4.lt
  have i0 := (hb5.cell (World.block_lt_of_cell? _ _ i0)).trans i0
  have i1 := (hb5.cell (World.block_lt_of_cell? _ _ i1)).trans i1
  have i2 := (hb5.cell (World.block_lt_of_cell? _ _ i2)).trans i2
  have j0 := (hb5.cell (World.block_lt_of_cell? _ _ j0)).trans j0
  clear q3 m4 k4 hb5
  go_upto_region 7 with fail
  have b6 := one_alloc w5 (.cells #[.int .i64 3, .slice va5 0 vc5, .slice a5 0 c5, .bool false] 36)
  have n6 := Blk.new w5 36 #[.int .i64 3, .slice va5 0 vc5, .slice a5 0 c5, .bool false]
  have m6 := m5.below b6
  have k6 := Blk.below k5 b6 k5.lt
  have i0 := (b6.cell (World.block_lt_of_cell? _ _ i0)).trans i0
  have i1 := (b6.cell (World.block_lt_of_cell? _ _ i1)).trans i1
  have i2 := (b6.cell (World.block_lt_of_cell? _ _ i2)).trans i2
  have j0 := (b6.cell (World.block_lt_of_cell? _ _ j0)).trans j0
  generalize w5.alloc _ = W6 at *
  generalize w5.heap.size = p6 at *
  clear m5 k5 b6
  have r1 := Lib.hid (fun W => Journal_any 2 (by decide) W)
  have r2 := Lib.hid (fun W => JRead_any (headB ajnlB 2 0) (by decide +kernel) W)
  have e2 := readJ_head 2 (by decide) []
  rw [List.append_nil, if_neg (by decide), if_neg (by decide), if_pos rfl] at e2
  rw [e2] at r2
  have r3 := Lib.hid (fun W => JRead_any [] (by decide) W)
  rw [readJ_nil] at r3
  have r4 := Lib.hid (fun W' (hW : Below W6.heap.size W6 W') => Fs_Read_mem (m6.mem.below hW) metaK (by decide))
  rw [HS.out.met] at r4
  have r5 := Lib.hid (fun W => turn_met 3 1 (by decide) (by decide) metB_len (by decide) (by decide) W)
  have r6 := Lib.hid (fun W => turn_met 1 3 (by decide) (by decide) metB_len1 (by decide) (by decide) W)
  have r7 := Lib.hid (fun W' (hW : Below W6.heap.size W6 W') => turn_oth [] W' (HG.out.below (m6.bel.trans (hW.mono m6.bel.size))))
  have HB := Lib.hid m6.bel
  clear e2 m6
  go_wp2_with fail
  refine (r1.out _).mono ?_
  rintro e w7 ⟨rfl, B7⟩
  go_wp2_with fail
  refine (r2.out _).mono ?_
  rintro e w8 ⟨rfl, hb8⟩
  have B8 := B7.trans (hb8.mono B7.size)
  clear B7 hb8 r1 r2
  go_wp2_with fail
  refine (r3.out _).mono ?_
  rintro e w9 ⟨rfl, hb9⟩
  have B9 := B8.trans (hb9.mono B8.size)
  clear B8 hb9 r3
  go_wp2_with fail
  refine (r4.out _ B9).mono ?_
  rintro e _ ⟨rfl, rfl⟩
  clear r4
  go_wp2_with fail
  refine (r5.out _).mono ?_
  rintro e w10 ⟨rfl, hb10⟩
  have B10 := B9.trans (hb10.mono B9.size)
  clear B9 hb10 r5
  go_wp2_with fail
  refine (r6.out _).mono ?_
  rintro e w11 ⟨rfl, hb11⟩
  have B11 := B10.trans (hb11.mono B10.size)
  have r7 := Lib.hid (r7.out _ B11)
  clear B10 hb11 r6
  go_wp2_with fail
  refine r7.out.mono ?_
  rintro e w12 ⟨rfl, hb12⟩
  have B12 := B11.trans (hb12.mono B11.size)
  clear B11 hb12 r7
  have k12 := Blk.below k6 B12 k6.lt
  have n12 := Blk.below n6 B12 n6.lt
  have i0 := (B12.cell (World.block_lt_of_cell? _ _ i0)).trans i0
  have i1 := (B12.cell (World.block_lt_of_cell? _ _ i1)).trans i1
  have i2 := (B12.cell (World.block_lt_of_cell? _ _ i2)).trans i2
  have j0 := (B12.cell (World.block_lt_of_cell? _ _ j0)).trans j0
  have BE := Lib.hid (HB.out.trans (B12.mono HB.out.size))
  obtain ⟨⟨x0, x1, x2, x3⟩, -⟩ := cells4 k12
  obtain ⟨⟨y0, y1, y2, y3⟩, -⟩ := cells4 n12
  have s1 := eq_item w12
  have s2 : (metaK == [109, 101, 116, 97]) = true := by decide
  have s3 : (metB 3 == metB 3) = true := by simp
  clear k6 n6 k12 n12 B12 HB HS
  go_wp2_with fail
  go_ret
  exact ⟨rfl, BE.out⟩
end Go.Proofs.YtgagcncmlonciaaGreatDoor
namespace Go.Proofs.YtgagcncmlonciaaGreatDoor
open Go.RowKit
attribute [local go_sem] bs_toList bs_size

theorem headJ_len (g : Nat) : (headB ajnlB g 0).length = 10 := by
  unfold headB
  rw [checkedB_len]
  rfl
set_option maxRecDepth 100000 in
set_option maxHeartbeats 400000 in
theorem PlanJournals_walk (gen : Int) (more : List UInt8) (W : World) (hG : Gl W) (g1 : 0 ≤ gen) (g2 : gen ≤ 255) (hm : more.length ≤ maxLen) :
    Calls Tryz.prog 3 #[.int .u8 gen, .string (bs more)] W fun e w' => e = .returned (.bool true) ∧ Below W.heap.size W w' := by
  have q0 := Lib.hid (works_any hG)
  clear hG
  obtain ⟨g, rfl⟩ : ∃ g : Nat, gen = g := ⟨gen.toNat, by omega⟩
  have hg : g < 256 := by omega
  by_cases hl : more.length ≤ 300
  · have hl' : decide (300 < (more.length : Int)) = false := by simp; omega
    have q1 := Lib.hid (fun W => Journal_any g hg W)
    have q2 := Lib.hid (fun W => JRead_any (headB ajnlB g 0) (by rw [headJ_len]; decide) W)
    have q3 := Lib.hid (fun W => JRead_any (headB ajnlB g 0 ++ more) (by rw [List.length_append, headJ_len]; omega) W)
    have e2 := readJ_head g hg []
    rw [List.append_nil] at e2
    rw [e2] at q2
    rw [readJ_head g hg more] at q3
    have hadd := fun W => run_add_bs (P := Tryz.prog) (headB ajnlB g 0) more (by rw [headJ_len]; omega) W
    clear e2
    generalize headB ajnlB g 0 = J at *
    have hcv : IntKind.i64.wrap (g : Int) = g := IntWalk.i64_in _ (by omega)
    rcases (show 3 < g ∨ g = 0 ∨ g = 1 ∨ g = 2 ∨ g = 3 by omega) with h | rfl | rfl | rfl | rfl
    · have h3 : decide (3 < (g : Int)) = true := by simp; omega
      have h4 : decide (3 < g) = true := by simp; omega
      rw [if_pos h] at q2 q3
      simp only at q2 q3
      clear h
      go_enter Tryz.func3, Tryz.ntmps3
      go_wp2_with fail
      refine q0.out.mono ?_
      rintro e w1 ⟨rfl, hb1⟩
      go_wp2_with fail
      refine (q1.out _).mono ?_
      rintro e w2 ⟨rfl, hb2⟩
      have B2 := hb1.trans (hb2.mono hb1.size)
      go_wp2_with fail
      refine (q2.out _).mono ?_
      rintro e w3 ⟨rfl, hb3⟩
      have B3 := B2.trans (hb3.mono B2.size)
      go_wp2_with fail
      refine (q1.out _).mono ?_
      rintro e w4 ⟨rfl, hb4⟩
      have B4 := B3.trans (hb4.mono B3.size)
      go_wp2_with fail
      refine (q3.out _).mono ?_
      rintro e w5 ⟨rfl, hb5⟩
      have B5 := Lib.hid (B4.trans (hb5.mono B4.size))
      clear hb1 hb2 hb3 hb4 hb5 B2 B3 B4
      go_wp2_with fail
      go_ret
      exact ⟨rfl, B5.out⟩
    · rw [if_neg (by decide), if_pos rfl] at q2 q3
      simp only at q2 q3
      go_enter Tryz.func3, Tryz.ntmps3
      go_wp2_with fail
      refine q0.out.mono ?_
      rintro e w1 ⟨rfl, hb1⟩
      go_wp2_with fail
      refine (q1.out _).mono ?_
      rintro e w2 ⟨rfl, hb2⟩
      have B2 := hb1.trans (hb2.mono hb1.size)
      go_wp2_with fail
      refine (q2.out _).mono ?_
      rintro e w3 ⟨rfl, hb3⟩
      have B3 := B2.trans (hb3.mono B2.size)
      go_wp2_with fail
      refine (q1.out _).mono ?_
      rintro e w4 ⟨rfl, hb4⟩
      have B4 := B3.trans (hb4.mono B3.size)
      go_wp2_with fail
      refine (q3.out _).mono ?_
      rintro e w5 ⟨rfl, hb5⟩
      have B5 := Lib.hid (B4.trans (hb5.mono B4.size))
      clear hb1 hb2 hb3 hb4 hb5 B2 B3 B4
      go_wp2_with fail
      go_ret
      exact ⟨rfl, B5.out⟩
    all_goals
      rw [if_neg (by decide), if_neg (by decide), if_pos rfl] at q2
      rw [if_neg (by decide), if_neg (by decide)] at q3
      simp only at q2
      by_cases hmore : more = []
      · subst hmore
        rw [if_pos rfl, List.append_nil] at q3
        simp only [List.append_nil] at hadd
        simp only at q3
        go_enter Tryz.func3, Tryz.ntmps3
        go_wp2_with fail
        refine q0.out.mono ?_
        rintro e w1 ⟨rfl, hb1⟩
        go_wp2_with fail
        refine (q1.out _).mono ?_
        rintro e w2 ⟨rfl, hb2⟩
        have B2 := hb1.trans (hb2.mono hb1.size)
        go_wp2_with fail
        refine (q2.out _).mono ?_
        rintro e w3 ⟨rfl, hb3⟩
        have B3 := B2.trans (hb3.mono B2.size)
        go_wp2_with fail
        refine (q1.out _).mono ?_
        rintro e w4 ⟨rfl, hb4⟩
        have B4 := B3.trans (hb4.mono B3.size)
        go_wp2_with fail
        refine (q3.out _).mono ?_
        rintro e w5 ⟨rfl, hb5⟩
        have B5 := Lib.hid (B4.trans (hb5.mono B4.size))
        clear hb1 hb2 hb3 hb4 hb5 B2 B3 B4
        go_wp2_with fail
        go_ret
        exact ⟨rfl, B5.out⟩
      · have he : more.isEmpty = false := by cases more with | nil => exact absurd rfl hmore | cons => rfl
        rw [if_neg hmore] at q3
        simp only at q3
        clear hmore
        go_enter Tryz.func3, Tryz.ntmps3
        go_wp2_with fail
        refine q0.out.mono ?_
        rintro e w1 ⟨rfl, hb1⟩
        go_wp2_with fail
        refine (q1.out _).mono ?_
        rintro e w2 ⟨rfl, hb2⟩
        have B2 := hb1.trans (hb2.mono hb1.size)
        go_wp2_with fail
        refine (q2.out _).mono ?_
        rintro e w3 ⟨rfl, hb3⟩
        have B3 := B2.trans (hb3.mono B2.size)
        go_wp2_with fail
        refine (q1.out _).mono ?_
        rintro e w4 ⟨rfl, hb4⟩
        have B4 := B3.trans (hb4.mono B3.size)
        go_wp2_with fail
        refine (q3.out _).mono ?_
        rintro e w5 ⟨rfl, hb5⟩
        have B5 := Lib.hid (B4.trans (hb5.mono B4.size))
        clear hb1 hb2 hb3 hb4 hb5 B2 B3 B4
        go_wp2_with fail
        go_ret
        exact ⟨rfl, B5.out⟩
  · have hl' : decide (300 < (more.length : Int)) = true := by simp; omega
    go_enter Tryz.func3, Tryz.ntmps3
    go_wp2_with fail
    refine q0.out.mono ?_
    rintro e w1 ⟨rfl, hb1⟩
    go_wp2_with fail
    go_ret
    exact ⟨rfl, hb1⟩
end Go.Proofs.YtgagcncmlonciaaGreatDoor
