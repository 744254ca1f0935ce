/- A store that has nothing is made: the walk of create. A store that has nothing is made: the row of closures that create hands to first. A store that has nothing is made: the walk of engine.create. The files of the store of works: the walk of (*Store).files. engine.Open, where the files are those of works: the walk. engine.Open, where there are no files: the walk. What a file has: the walks of plan.parse at the names of works. A meta is turned: the walks of (top).turn and plan.Turn at the names of works. -/
import Derived.Test.YtgagcncmlonciaaGreatDoorPA
import Derived.Test.YtgagcncmlonciaaGreatDoorLexh
import Derived.Test.YtgagcncmlonciaaGreatDoorGC
namespace Go.Proofs.YtgagcncmlonciaaGreatDoor
open Go.RowKit
attribute [local go_sem] bs_toList bs_size

variable {W w : World} {G : Nat} {S : FsS} {F : Nat → Prop}
set_option maxRecDepth 100000 in
theorem create4_any {p p2 : Nat} {N sy : Nm} {mv : List Nm} {fl : Nat → Fl} {room : Int} {st : Nat} (b : List UInt8) (hG : Gl w) (m : Mach W w G ⟨N, sy, mv, fl, room, st, -1, false⟩ F) (hs : st + 20 ≤ 500000) (hb : b.length ≤ 1048576) (ht : N.at (tmpB ++ walN) = none) (hn : N.length < 64) (hroom : (sizeIn fl N : Int) + b.length ≤ room)
    (c0 : w.cell? ⟨p, 0, none⟩ = some (.pointer (some ⟨G, 0, none⟩))) (c1 : w.cell? ⟨p2, 0, none⟩ = some (.string (bs b))) :
    Calls Tryz.prog 43 #[.pointer (some ⟨p, 0, none⟩), .pointer (some ⟨p2, 0, none⟩)] w (SavedK W w G N fl room st F walN b) := by
  have q := Lib.hid (fun w5 (h : Below w.heap.size w w5) => (m.below h).saved walN b hs hb (by decide) (by decide) ht hn hroom)
  have q4 := Lib.hid (show ∀ W', GrowR w W' → Calls Tryz.prog 32 #[.string ⟨#[119, 97, 108]⟩, .int .i64 0] W' fun e w' => e = .returned (.string (bs walN)) ∧ GrowR W' w' from fun W' hW => Name_any walK 0 W' (hG.below hW) (by decide) (by decide) (by decide))
  have k1 := grow_cell c0
  have k2 := grow_cell c1
  clear m ht hroom hG c0 c1
  go_enter Tryz.func43, Tryz.ntmps43
  go_wp2_with fail
  refine wp_region_led2 (R := GrowR) (by kernel_rfl) (by kernel_rfl) rfl rfl (by kernel_rfl) ?_
  (refine lx1 fun K hK => ?_; go_big_quiet_step (fail); refine wpQuiet_nil (hK _ ?_); clear hK K)
  (refine lxc (f := 32) (args := #[.string ⟨#[119, 97, 108]⟩, .int .i64 0]) (v := .string (bs walN)) (fun W hW => q4.out W hW) fun K hK => ?_; go_big_quiet_step (fail); refine wpQuiet_nil (hK _ ?_); clear hK K)
  (refine lx1 fun K hK => ?_; go_big_quiet_step (fail); refine wpQuiet_nil (hK _ ?_); clear hK K)
  refine lxn ?_
  intro w5 hw5
  simp only [hideAll]
  have q := Lib.hid (q.out w5 hw5)
  clear k1 k2 q4
  go_wp2_with fail
  refine q.out.mono ?_
  rintro e w' ⟨g, F', h1, h2, rfl, h3, h4⟩
  have HP := Lib.hid (And.intro h1 (And.intro h2 (And.intro h3 ((Turn.of_below hw5).trans h4))))
  clear q h1 h2 h3 h4
  go_wp2_with fail
  go_ret
  exact ⟨g, F', HP.out.1, HP.out.2.1, rfl, HP.out.2.2.1, HP.out.2.2.2⟩
end Go.Proofs.YtgagcncmlonciaaGreatDoor
namespace Go.Proofs.YtgagcncmlonciaaGreatDoor
open Go.RowKit

variable {W w : World} {G : Nat} {F : Nat → Prop}
/-- The file system, once the segment is saved. -/
def walS (g : Nat) : FsS := ⟨Nm.put [] walN g, Nm.put [] walN g, [], flSet (FsS.new 10000).fl g ⟨headW, headW, []⟩, 10000, 5, -1, false⟩
/-- Where create stands ahead of its j-th step. -/
def CreI (W w : World) (G : Nat) (F : Nat → Prop) (j : Nat) (w' : World) : Prop :=
  if j ≤ 3 then ∃ F', Mach W w' G (FsS.new 10000) F' ∧ Turn w w' F F'
  else if j = 4 then ∃ g F', Mach W w' G (walS g) F' ∧ Turn w w' F F'
  else ∃ S F', FullS S ∧ Mach W w' G S F' ∧ Turn w w' F F'
theorem CreI.turn {j : Nat} {w' : World} (h : CreI W w G F j w') : ∃ F', Turn w w' F F' := by
  unfold CreI at h
  split at h
  · obtain ⟨F', _, h⟩ := h
    exact ⟨F', h⟩
  · split at h
    · obtain ⟨_, F', _, h⟩ := h
      exact ⟨F', h⟩
    · obtain ⟨_, F', _, _, h⟩ := h
      exact ⟨F', h⟩
theorem create_first {p2 p5 p7 p8 p9 row : Nat} (hG : Gl W) (m : Mach W w G (FsS.new 10000) F)
    (c2 : w.cell? ⟨p2, 0, none⟩ = some (.pointer (some ⟨G, 0, none⟩))) (c5 : w.cell? ⟨p5, 0, none⟩ = some (.string (bs headW))) (c7 : w.cell? ⟨p7, 0, none⟩ = some (.int .i64 0))
    (c8 : w.cell? ⟨p8, 0, none⟩ = some (.string (bs (metB 3)))) (c9 : w.cell? ⟨p9, 0, none⟩ = some (.int .i64 0))
    (r0 : w.cell? ⟨row, 0, none⟩ = some (.func (.func 40) #[] #[.pointer (some ⟨p7, 0, none⟩)]))
    (r1 : w.cell? ⟨row, 1, none⟩ = some (.func (.func 41) #[] #[.pointer (some ⟨p9, 0, none⟩)]))
    (r2 : w.cell? ⟨row, 2, none⟩ = some (.func (.func 42) #[] #[.pointer (some ⟨p2, 0, none⟩)]))
    (r3 : w.cell? ⟨row, 3, none⟩ = some (.func (.func 43) #[] #[.pointer (some ⟨p2, 0, none⟩), .pointer (some ⟨p5, 0, none⟩)]))
    (r4 : w.cell? ⟨row, 4, none⟩ = some (.func (.func 45) #[] #[.pointer (some ⟨p2, 0, none⟩), .pointer (some ⟨p8, 0, none⟩)]))
    (n2 : ¬ F p2) (n5 : ¬ F p5) (n7 : ¬ F p7) (n8 : ¬ F p8) (n9 : ¬ F p9) (nr : ¬ F row) :
    Calls Tryz.prog 39 #[.slice (some ⟨row, 0, none⟩) 5 5] w (FirstPost (CreI W w G F 5) (fun _ _ => False)) := by
  refine efirst_any 5 row (fun j => match j with | 0 => 40 | 1 => 41 | 2 => 42 | 3 => 43 | _ => 45)
    (fun j => match j with | 0 => #[.pointer (some ⟨p7, 0, none⟩)] | 1 => #[.pointer (some ⟨p9, 0, none⟩)] | 2 => #[.pointer (some ⟨p2, 0, none⟩)] | 3 => #[.pointer (some ⟨p2, 0, none⟩), .pointer (some ⟨p5, 0, none⟩)] | _ => #[.pointer (some ⟨p2, 0, none⟩), .pointer (some ⟨p8, 0, none⟩)])
    (CreI W w G F) _ (by omega) ?_ ?_ ?_ (show CreI W w G F 0 w from ⟨F, m, Turn.refl _ _⟩)
  · intro j hj w' h
    obtain ⟨F', hT⟩ := h.turn
    match j, hj with
    | 0, _ => exact hT.kept.cell r0 nr
    | 1, _ => exact hT.kept.cell r1 nr
    | 2, _ => exact hT.kept.cell r2 nr
    | 3, _ => exact hT.kept.cell r3 nr
    | 4, _ => exact hT.kept.cell r4 nr
  · intro j hj W
    match j, hj with
    | 0, _ => go_simp
    | 1, _ => go_simp
    | 2, _ => go_simp
    | 3, _ => go_simp
    | 4, _ => go_simp
  · intro j hj w' h
    match j, hj, h with
    | 0, _, ⟨F', hM, hT⟩ =>
      refine (create1_any 0 (hT.kept.cell c7 n7)).mono ?_
      rintro e _ ⟨rfl, rfl⟩
      exact ⟨0, rfl, .inl ⟨rfl, F', hM, hT⟩⟩
    | 1, _, ⟨F', hM, hT⟩ =>
      refine (create2_any 0 (hT.kept.cell c9 n9)).mono ?_
      rintro e _ ⟨rfl, rfl⟩
      exact ⟨0, rfl, .inl ⟨rfl, F', hM, hT⟩⟩
    | 2, _, ⟨F', hM, hT⟩ =>
      refine (create3_any hM (by decide) (hT.kept.cell c2 n2)).mono ?_
      rintro e w2 ⟨F2, rfl, h1, h2⟩
      exact ⟨0, rfl, .inl ⟨rfl, F2, h1, hT.trans h2⟩⟩
    | 3, _, ⟨F', hM, hT⟩ =>
      refine (create4_any (N := []) (sy := []) (mv := []) (fl := (FsS.new 10000).fl) (room := 10000) (st := 0) headW (hG.below hM.bel) hM (by decide) (by rw [headW_len]; decide) rfl (by decide) (by rw [headW_len]; decide) (hT.kept.cell c2 n2) (hT.kept.cell c5 n5)).mono ?_
      rintro e w2 ⟨g, F2, h0, hn, rfl, h1, h2⟩
      exact ⟨0, rfl, .inl ⟨rfl, g, F2, h1, hT.trans h2⟩⟩
    | 4, _, ⟨g, F', hM, hT⟩ =>
      have hl := metB_len
      have hsz : sizeIn (flSet (FsS.new 10000).fl g ⟨headW, headW, []⟩) (Nm.put [] walN g) ≤ 1000 := by
        have e : Nm.put [] walN g = [(walN, g)] := rfl
        rw [e]
        unfold sizeIn flSet
        simp [headW_len]
      refine (create5_any (N := Nm.put [] walN g) (sy := Nm.put [] walN g) (mv := []) (fl := flSet (FsS.new 10000).fl g ⟨headW, headW, []⟩) (room := 10000) (st := 5) (metB 3) hM (by decide) (by omega) rfl (show (1 : Nat) < 64 by decide) (by omega) (hT.kept.cell c2 n2) (hT.kept.cell c8 n8)).mono ?_
      rintro e w2 ⟨g2, F2, h0, hn, rfl, h1, h2⟩
      exact ⟨0, rfl, .inl ⟨rfl, _, F2, full_of (by rintro rfl; exact hn (show g2 ∈ [g2] from List.mem_cons_self)) h1.ok rfl, h1, hT.trans h2⟩⟩
end Go.Proofs.YtgagcncmlonciaaGreatDoor
namespace Go.Proofs.YtgagcncmlonciaaGreatDoor
open Go.RowKit
attribute [local go_sem] bs_toList bs_size

variable {W w : World} {G : Nat} {F : Nat → Prop}
theorem create_mid {w3 : World} {p2 p5 p7 : Nat} {a2 a5 a7 t1 t2 t3 : TypeId} (hG : Gl W) (m : Mach W w G (FsS.new 10000) F) (B : Below w.heap.size w w3)
    (k2 : Blk w3 p2 a2 #[.pointer (some ⟨G, 0, none⟩)]) (k5 : Blk w3 p5 a5 #[.string (bs headW)]) (k7 : Blk w3 p7 a7 #[.int .i64 0]) (h2 : w.heap.size ≤ p2) (h5 : w.heap.size ≤ p5) (h7 : w.heap.size ≤ p7) :
    Calls Tryz.prog 39 #[.slice (some ⟨w3.heap.size + 1 + 1, 0, none⟩) 5 5] (((w3.alloc (.cells #[.string (bs (metB 3))] t1)).alloc (.cells #[.int .i64 0] t2)).alloc (.cells #[
        .func (.func 40) #[] #[.pointer (some ⟨p7, 0, none⟩)], .func (.func 41) #[] #[.pointer (some ⟨w3.heap.size + 1, 0, none⟩)], .func (.func 42) #[] #[.pointer (some ⟨p2, 0, none⟩)],
        .func (.func 43) #[] #[.pointer (some ⟨p2, 0, none⟩), .pointer (some ⟨p5, 0, none⟩)], .func (.func 45) #[] #[.pointer (some ⟨p2, 0, none⟩), .pointer (some ⟨w3.heap.size, 0, none⟩)]] t3))
      fun e w' => e = .returned (.int .i64 0) ∧ ∃ S F', FullS S ∧ Mach W w' G S F' ∧ Turn w w' F F' := by
  have hsz := B.size
  have hF : ∀ i, w.heap.size ≤ i → ¬ F i := fun i h e => by have := m.mem.lt _ e; omega
  have B1 := (one_alloc w3 (.cells #[.string (bs (metB 3))] t1))
  have B2 := B1.alloc B1.size (.cells #[.int .i64 0] t2)
  have k8 := Blk.alloc (Blk.new w3 t1 #[.string (bs (metB 3))]) (.cells #[.int .i64 0] t2)
  have k9 := Blk.new (w3.alloc (.cells #[.string (bs (metB 3))] t1)) t2 #[.int .i64 0]
  rw [World.size_alloc] at k9
  have k2 := Blk.below k2 B2 k2.lt
  have k5 := Blk.below k5 B2 k5.lt
  have k7 := Blk.below k7 B2 k7.lt
  have hz : ((w3.alloc (.cells #[.string (bs (metB 3))] t1)).alloc (.cells #[.int .i64 0] t2)).heap.size = w3.heap.size + 1 + 1 := by rw [World.size_alloc, World.size_alloc]
  generalize (w3.alloc (.cells #[.string (bs (metB 3))] t1)).alloc (.cells #[.int .i64 0] t2) = W4 at *
  generalize hR : (#[.func (.func 40) #[] #[.pointer (some ⟨p7, 0, none⟩)], .func (.func 41) #[] #[.pointer (some ⟨w3.heap.size + 1, 0, none⟩)], .func (.func 42) #[] #[.pointer (some ⟨p2, 0, none⟩)],
        .func (.func 43) #[] #[.pointer (some ⟨p2, 0, none⟩), .pointer (some ⟨p5, 0, none⟩)], .func (.func 45) #[] #[.pointer (some ⟨p2, 0, none⟩), .pointer (some ⟨w3.heap.size, 0, none⟩)]] : Array Value) = R
  have B5 := B2.alloc B2.size (.cells R t3)
  have kr := Blk.new W4 t3 R
  have k2 := Blk.alloc k2 (.cells R t3)
  have k5 := Blk.alloc k5 (.cells R t3)
  have k7 := Blk.alloc k7 (.cells R t3)
  have k8 := Blk.alloc k8 (.cells R t3)
  have k9 := Blk.alloc k9 (.cells R t3)
  rw [hz] at kr
  have B6 := B.trans (B5.mono hsz)
  generalize W4.alloc (.cells R t3) = W5 at *
  subst hR
  have hm := m.below B6
  refine (create_first hG hm ((Blk.cell k2 0).trans rfl) ((Blk.cell k5 0).trans rfl) ((Blk.cell k7 0).trans rfl) ((Blk.cell k8 0).trans rfl) ((Blk.cell k9 0).trans rfl)
    ((Blk.cell kr 0).trans rfl) ((Blk.cell kr 1).trans rfl) ((Blk.cell kr 2).trans rfl) ((Blk.cell kr 3).trans rfl) ((Blk.cell kr 4).trans rfl)
    (hF _ h2) (hF _ h5) (hF _ h7) (hF _ (by omega)) (hF _ (by omega)) (hF _ (by omega))).mono ?_
  rintro e w9 ⟨r, rfl, ⟨rfl, S, F', h1, h2, h3⟩ | ⟨_, h⟩⟩
  · exact ⟨rfl, S, F', h1, h2, (Turn.of_below B6).trans h3⟩
  · exact h.elim
set_option maxRecDepth 100000 in
set_option maxHeartbeats 4000000 in
theorem create_any (hG : Gl W) (m : Mach W w G (FsS.new 10000) F) :
    Calls Tryz.prog 15 #[.pointer (some ⟨G, 0, none⟩), .int .i64 3] w fun e w' => ∃ S F', e = .returned (.int .i64 0) ∧ FullS S ∧ Mach W w' G S F' ∧ Turn w w' F F' := by
  have q1 := Lib.hid (fun W => Begin3 W)
  have q2 := Lib.hid (fun W0 => Put_any (metT 3) (.slice none 0 0) W0 (by unfold Mt.ok metT; decide) ⟨none, 0, rfl, fun _ => rfl, by decide, fun x hx => by simp [metT] at hx, fun i x hx => by simp [metT] at hx⟩)
  rw [show putMV (metT 3) = .tuple #[.string (bs (metB 3)), .int .i64 0] by unfold putMV; rw [putM_met 3 (by decide) (by decide)], show mtV (metT 3) (.slice none 0 0) = .agg #[.int .i64 3, .int .i64 1, .int .i64 0, .slice none 0 0] from rfl] at q2
  have b0 := one_alloc w (.cells #[.pointer (some ⟨G, 0, none⟩)] 28)
  have k0 := Blk.new w 28 #[.pointer (some ⟨G, 0, none⟩)]
  have hlt := Lib.hid m.mem.lt
  have HM := Lib.hid m
  clear m
  go_enter Tryz.func15, Tryz.ntmps15
  go_wp2_with fail
  refine (q1.out _).mono ?_
  rintro e w1 ⟨rfl, hb1⟩
  have B1 := b0.trans (hb1.mono b0.size)
  have k1 := Blk.below k0 hb1 k0.lt
  clear q1 b0 k0 hb1
  go_wp2_with fail
  have B2 : Below w1.heap.size w1 (((w1.alloc (.cells #[.string (bs headW)] 9)).alloc (.cells #[.int .i64 3, .slice none 0 0] 59)).alloc (.cells #[.int .i64 0] 23)) := by
    have h := (one_alloc w1 (.cells #[.string (bs headW)] 9))
    have h := h.alloc h.size (.cells #[.int .i64 3, .slice none 0 0] 59)
    exact h.alloc h.size _
  have k5 := Blk.alloc (Blk.alloc (Blk.new w1 9 #[.string (bs headW)]) (.cells #[.int .i64 3, .slice none 0 0] 59)) (.cells #[.int .i64 0] 23)
  have k7 := Blk.new ((w1.alloc (.cells #[.string (bs headW)] 9)).alloc (.cells #[.int .i64 3, .slice none 0 0] 59)) 23 #[.int .i64 0]
  rw [World.size_alloc, World.size_alloc] at k7
  have k2 := Blk.below k1 B2 k1.lt
  have B3 := B1.trans (B2.mono B1.size)
  generalize (((w1.alloc (.cells #[.string (bs headW)] 9)).alloc (.cells #[.int .i64 3, .slice none 0 0] 59)).alloc (.cells #[.int .i64 0] 23)) = W2 at *
  have hp5 := Lib.hid B1.size
  clear B2 B1 k1
  refine (q2.out _).mono ?_
  rintro e w3 ⟨rfl, hb3⟩
  have B4 := B3.trans (hb3.mono B3.size)
  have k2 := Blk.below k2 hb3 k2.lt
  have k5 := Blk.below k5 hb3 k5.lt
  have k7 := Blk.below k7 hb3 k7.lt
  clear q2 B3 hb3
  go_wp2_with fail
  have hz3 := B4.size
  have h5 := hp5.out
  have q := Lib.hid (create_mid (t1 := 9) (t2 := 23) (t3 := 112) hG HM.out B4 k2 k5 k7 (Nat.le_refl _) h5 (by omega))
  clear k2 k5 k7 B4 hz3 h5 hp5 HM hlt
  refine q.out.mono ?_
  rintro e w9 ⟨rfl, S, F', h⟩
  have HP := Lib.hid h
  clear q h
  go_wp2_with fail
  go_ret
  exact ⟨S, F', rfl, HP.out⟩
end Go.Proofs.YtgagcncmlonciaaGreatDoor
namespace Go.Proofs.YtgagcncmlonciaaGreatDoor
open Go.RowKit
attribute [local go_sem] bs_toList bs_size

variable {w : World}
/-- The two names, in a row of their own. -/
def FilesIs (w : World) (e : Ending) (w' : World) : Prop := ∃ b, w.heap.size ≤ b ∧ e = .returned (.slice (some ⟨b, 0, none⟩) 2 2) ∧ Below w.heap.size w w' ∧ Blk w' b 9 #[.string (bs metaK), .string (bs walN)]
set_option maxRecDepth 100000 in
set_option maxHeartbeats 2000000 in
theorem files_any (hG : Gl w) (p : Value) (a : Option Addr) (c : Nat) :
    Calls Tryz.prog 19 #[p, .agg #[.int .i64 3, .int .i64 1, .int .i64 0, .slice a 0 c]] w (FilesIs w) := by
  have b0 := one_alloc w (.cells #[.int .i64 3, .int .i64 1, .int .i64 0, .slice a 0 c] 53)
  have k0 := Blk.new w 53 #[.int .i64 3, .int .i64 1, .int .i64 0, .slice a 0 c]
  have q := Lib.hid (fun W (hW : Below w.heap.size w W) => Name_any walK 0 W (hG.below hW) (by decide) (by decide) (by decide))
  rw [show nameB walK 0 = walN from rfl] at q
  have hm : (⟨#[119, 97, 108]⟩ : ByteArray) = bs walK := rfl
  have hmt : (⟨#[109, 101, 116, 97]⟩ : ByteArray) = bs metaK := rfl
  obtain ⟨⟨c0, c1, c2, c3⟩, f0, f1, f2, f3⟩ := cells4 k0
  clear hG
  go_enter Tryz.func19, Tryz.ntmps19
  go_wp2_with fail
  refine (q.out _ b0).mono ?_
  rintro e w1 ⟨rfl, hb1⟩
  have B1 := b0.trans (hb1.mono b0.size)
  have k3 := Blk.alloc (Blk.below k0 hb1 k0.lt) (.cells #[.string (bs metaK), .string (bs walN)] 9)
  obtain ⟨⟨e0, e1, e2, e3⟩, g0, g1, g2, g3⟩ := cells4 k3
  have B2 := B1.alloc B1.size (.cells #[.string (bs metaK), .string (bs walN)] 9)
  have k2 := Blk.new w1 9 #[.string (bs metaK), .string (bs walN)]
  have HP := Lib.hid (show FilesIs w (.returned (.slice (some ⟨w1.heap.size, 0, none⟩) 2 2)) (w1.alloc (.cells #[.string (bs metaK), .string (bs walN)] 9)) from ⟨_, B1.size, rfl, B2, k2⟩)
  clear q b0 k0 k3 B1 B2 k2 hb1 e0 e1 e2 g0 g1 g2
  go_wp2_with fail
  generalize w1.alloc (.cells #[.string (bs metaK), .string (bs walN)] 9) = W2 at *
  go_loopw [5, 15] (fun l i wr => l = .slice (some ⟨w1.heap.size, 0, none⟩) 2 2 ∧ i = .int .i64 0 ∧ wr = W2) (fun _ _ _ => 0)
  case atStart => exact ⟨rfl, rfl, rfl⟩
  obtain ⟨rfl, rfl, rfl⟩ := hrel
  go_wp2_with fail
  go_ret
  exact HP.out
end Go.Proofs.YtgagcncmlonciaaGreatDoor
namespace Go.Proofs.YtgagcncmlonciaaGreatDoor
open Go.RowKit
attribute [local go_sem] bs_toList bs_size

variable {W w : World} {G : Nat} {S : FsS} {F : Nat → Prop}
/-- The store stands in a block of its own, over the files of works. -/
def OpenIs (W w : World) (G : Nat) (F : Nat → Prop) (e : Ending) (w' : World) : Prop :=
  ∃ b a c S F', e = .returned (.tuple #[.pointer (some ⟨b, 0, none⟩), .int .i64 0]) ∧ FullS S ∧ Mach W w' G S F' ∧ Turn w w' F F' ∧ w.heap.size ≤ b ∧ Blk w' b 68 (contC 3 1 0 (.slice a 0 c) (.slice none 0 0) 0 (.slice none 0 0) 0 10 3 |>.push (.pointer (some ⟨G, 0, none⟩)))
set_option maxRecDepth 100000 in
set_option maxHeartbeats 4000000 in
theorem open_full (hG : Gl W) (m : Mach W w G S F) (hS : FullS S) :
    Calls Tryz.prog 8 #[.pointer (some ⟨G, 0, none⟩), .int .i64 3] w (OpenIs W w G F) := by
  have q1 := Lib.hid (read_full m.mem hS (hG.below m.bel))
  have HM := Lib.hid m
  have HS := Lib.hid hS
  have HG := Lib.hid hG
  clear m hS hG
  go_enter Tryz.func8, Tryz.ntmps8
  go_wp2_with fail
  refine q1.out.mono ?_
  rintro e w1 ⟨a, c, rfl, hb1⟩
  unfold contC
  have a1 := one_alloc w1 (.cells #[.int .i64 3, .int .i64 1, .int .i64 0, .slice a 0 c, .slice none 0 0, .int .i64 0, .slice none 0 0, .int .i64 0, .int .i64 0, .slice none 0 0, .int .i64 10, .bool false, .int .i64 3, .slice none 0 0] 63)
  have a2 := a1.alloc a1.size (.cells #[.int .i64 3, .int .i64 1, .int .i64 0, .slice a 0 c, .slice none 0 0, .int .i64 0, .slice none 0 0, .int .i64 0, .int .i64 0, .slice none 0 0, .int .i64 10, .bool false, .int .i64 3, .slice none 0 0, .pointer (some ⟨G, 0, none⟩)] 68)
  have k2 := Blk.new (w1.alloc (.cells #[.int .i64 3, .int .i64 1, .int .i64 0, .slice a 0 c, .slice none 0 0, .int .i64 0, .slice none 0 0, .int .i64 0, .int .i64 0, .slice none 0 0, .int .i64 10, .bool false, .int .i64 3, .slice none 0 0] 63)) 68 #[.int .i64 3, .int .i64 1, .int .i64 0, .slice a 0 c, .slice none 0 0, .int .i64 0, .slice none 0 0, .int .i64 0, .int .i64 0, .slice none 0 0, .int .i64 10, .bool false, .int .i64 3, .slice none 0 0, .pointer (some ⟨G, 0, none⟩)]
  rw [World.size_alloc] at k2
  have B2 := Lib.hid (hb1.trans (a2.mono hb1.size))
  have hz := Lib.hid hb1.size
  clear q1 hb1 a1 a2
  go_wp2_with fail
  generalize (w1.alloc (.cells #[.int .i64 3, .int .i64 1, .int .i64 0, .slice a 0 c, .slice none 0 0, .int .i64 0, .slice none 0 0, .int .i64 0, .int .i64 0, .slice none 0 0, .int .i64 10, .bool false, .int .i64 3, .slice none 0 0] 63)).alloc (.cells #[.int .i64 3, .int .i64 1, .int .i64 0, .slice a 0 c, .slice none 0 0, .int .i64 0, .slice none 0 0, .int .i64 0, .int .i64 0, .slice none 0 0, .int .i64 10, .bool false, .int .i64 3, .slice none 0 0, .pointer (some ⟨G, 0, none⟩)] 68) = W2 at *
  have m2 := HM.out.below B2.out
  refine (files_any (HG.out.below m2.bel) _ a c).mono ?_
  rintro e w3 ⟨b, hbb, rfl, hb3, hkb⟩
  have m3 := m2.below hb3
  have B3 := B2.out.trans (hb3.mono B2.out.size)
  have hbF : ¬ F b := fun e => by have := HM.out.mem.lt _ e; have := B2.out.size; omega
  have q3 := Lib.hid (esweep_any (a := some ⟨b, 0, none⟩) (n := 2) (c := 2) (keep := [metaK, walN]) m3 (by have := HS.out.steps; omega) (fun w' F' hT => ⟨some ⟨b, 0, none⟩, 2, rfl, by decide, fun i x hx => by
    match i, hx with
    | 0, hx => exact ⟨b, 0, rfl, by cases hx; exact ⟨hT.kept.cell ((Blk.cell hkb 0).trans rfl) hbF, by decide +kernel⟩⟩
    | 1, hx => exact ⟨b, 0, rfl, by cases hx; exact ⟨hT.kept.cell ((Blk.cell hkb 1).trans rfl) hbF, by decide +kernel⟩⟩⟩))
  rw [sweep_full HS.out] at q3
  have k3 := Lib.hid (Blk.below k2 hb3 k2.lt)
  have B3 := Lib.hid B3
  clear k2 m2 m3 hb3 hkb hbF hbb
  go_wp2_with fail
  refine q3.out.mono ?_
  rintro e w4 ⟨F', rfl, h1, h2⟩
  have HP := Lib.hid (And.intro h1 h2)
  clear q3 h1 h2
  go_wp2_with fail
  go_ret2
  have hn : ¬ F (w1.heap.size + 1) := fun e => by have := HM.out.mem.lt _ e; have := hz.out; omega
  exact ⟨w1.heap.size + 1, a, c, S, F', rfl, HS.out, HP.out.1, (Turn.of_below B3.out).trans HP.out.2, Nat.le_trans hz.out (Nat.le_succ _), (HP.out.2.kept.block _ k3.out.lt hn).trans k3.out⟩
end Go.Proofs.YtgagcncmlonciaaGreatDoor
namespace Go.Proofs.YtgagcncmlonciaaGreatDoor
open Go.RowKit
attribute [local go_sem] bs_toList bs_size

theorem putL_kept {b : Nat} : ∀ (l : List Value) (i : Nat) (w : World), Kept w (putL w b i l) (fun k => k = b)
  | [], _, w => Kept.refl w _
  | v :: l, i, w => (Kept.of_grown (w := w) (w' := w.setCell ⟨b, i, none⟩ v) (row := some b) ⟨rfl, rfl, rfl, (KeepsWalks.setCell w _ v).size, fun k _ hk => Below.heap_setCell _ _ _ k (fun e => hk (by rw [e]))⟩ (fun k e => (Option.some.inj e).symm)).trans (putL_kept l (i + 1) _)
variable {W w : World} {G : Nat} {S : FsS} {F : Nat → Prop}
theorem Mach.away {w' : World} {b : Nat} (m : Mach W w G S F) (h : Kept w w' (fun k => k = b)) (hb : W.heap.size ≤ b) (hF : ¬ F b) : Mach W w' G S F :=
  ⟨m.mem.kept h (fun i hi e => hF (e ▸ hi)), m.bel.trans (h.below m.bel.size (fun k e => e ▸ hb)), m.base, m.ok⟩
theorem Turn.away {w0 w w' : World} {F F' : Nat → Prop} {b : Nat} (t : Turn w0 w F F') (h : Kept w w' (fun k => k = b)) (hb : w0.heap.size ≤ b) : Turn w0 w' F F' := by
  refine ⟨⟨h.os.trans t.kept.os, h.tape.trans t.kept.tape, h.output.trans t.kept.output, Nat.le_trans t.kept.size h.size, fun k hk hn => ?_⟩, t.grow⟩
  rw [h.block k (Nat.lt_of_lt_of_le hk t.kept.size) (by omega), t.kept.block k hk hn]
set_option maxRecDepth 100000 in
set_option maxHeartbeats 8000000 in
theorem open_new (hG : Gl W) (m : Mach W w G (FsS.new 10000) F) :
    Calls Tryz.prog 8 #[.pointer (some ⟨G, 0, none⟩), .int .i64 3] w (OpenIs W w G F) := by
  have q1 := Lib.hid (read_none m.mem m.ok rfl rfl (read_new _))
  have HM := Lib.hid m
  have HG := Lib.hid hG
  clear m hG
  unfold zeroC contC at q1
  go_enter Tryz.func8, Tryz.ntmps8
  go_wp2_with fail
  refine q1.out.mono ?_
  rintro e w1 ⟨rfl, hb1⟩
  have a1 := one_alloc w1 (.cells #[.int .i64 0, .int .i64 0, .int .i64 0, .slice none 0 0, .slice none 0 0, .int .i64 0, .slice none 0 0, .int .i64 0, .int .i64 0, .slice none 0 0, .int .i64 0, .bool false, .int .i64 0, .slice none 0 0] 63)
  have k1 := Blk.new w1 63 #[.int .i64 0, .int .i64 0, .int .i64 0, .slice none 0 0, .slice none 0 0, .int .i64 0, .slice none 0 0, .int .i64 0, .int .i64 0, .slice none 0 0, .int .i64 0, .bool false, .int .i64 0, .slice none 0 0]
  have B1 := Lib.hid (hb1.trans (a1.mono hb1.size))
  have hz := Lib.hid hb1.size
  have hWz := Lib.hid (Nat.le_trans HM.out.bel.size hb1.size)
  clear q1 hb1 a1
  go_wp2_with fail
  generalize (w1.alloc (.cells #[.int .i64 0, .int .i64 0, .int .i64 0, .slice none 0 0, .slice none 0 0, .int .i64 0, .slice none 0 0, .int .i64 0, .int .i64 0, .slice none 0 0, .int .i64 0, .bool false, .int .i64 0, .slice none 0 0] 63)) = W2 at *
  have m2 := HM.out.below B1.out
  refine (create_any HG.out m2).mono ?_
  rintro e w3 ⟨S, F', rfl, hS, m3, hT⟩
  have hn : ¬ F w1.heap.size := fun e => by have := HM.out.mem.lt _ e; have := hz.out; omega
  have hn' : ¬ F' w1.heap.size := fun e => by
    rcases hT.grow _ e with e | e
    · exact hn e
    · exact absurd k1.lt (by omega)
  have k3 : Blk w3 w1.heap.size _ _ := (hT.kept.block _ k1.lt hn).trans k1
  have HT := (Turn.of_below B1.out).trans hT
  have q2 := Lib.hid (read_full m3.mem hS (HG.out.below m3.bel))
  clear k1 hT m2 hn HM B1
  have HP := Lib.hid (And.intro HT (And.intro hS (And.intro m3 (And.intro hn' (HG.out)))))
  clear HT hS m3 hn' HG
  go_wp2_with fail
  refine q2.out.mono ?_
  rintro e w4 ⟨a, c, rfl, hb4⟩
  have k4 := Blk.below k3 hb4 k3.lt
  have HK := Lib.hid (And.intro (And.intro (putL_all [.int .i64 3, .int .i64 1, .int .i64 0, .slice a 0 c, .slice none 0 0, .int .i64 0, .slice none 0 0, .int .i64 0, .int .i64 0, .slice none 0 0, .int .i64 10, .bool false, .int .i64 3, .slice none 0 0] k4 rfl) (Blk.frozen k4 0)) (And.intro (putL_kept (b := w1.heap.size) [.int .i64 3, .int .i64 1, .int .i64 0, .slice a 0 c, .slice none 0 0, .int .i64 0, .slice none 0 0, .int .i64 0, .int .i64 0, .slice none 0 0, .int .i64 10, .bool false, .int .i64 3, .slice none 0 0] 0 w4) hb4))
  obtain ⟨⟨d0, d1, d2, d3, d4, d5, d6, d7, d8, d9, d10, d11, d12, d13⟩, g0, g1, g2, g3, g4, g5, g6, g7, g8, g9, g10, g11, g12, g13⟩ := cells14 k4
  unfold contC
  clear q2 k3 k4 hb4
  go_upto_region 8 with fail
  obtain ⟨HT, hS, m3, hn', hG⟩ := HP.out
  obtain ⟨⟨K5, -⟩, hk5, hb4⟩ := HK.out
  replace K5 : Blk ((((((((((((((w4.setCell ⟨w1.heap.size, 0, none⟩ (.int .i64 3)).setCell ⟨w1.heap.size, 1, none⟩ (.int .i64 1)).setCell ⟨w1.heap.size, 2, none⟩ (.int .i64 0)).setCell ⟨w1.heap.size, 3, none⟩ (.slice a 0 c)).setCell ⟨w1.heap.size, 4, none⟩ (.slice none 0 0)).setCell ⟨w1.heap.size, 5, none⟩ (.int .i64 0)).setCell ⟨w1.heap.size, 6, none⟩ (.slice none 0 0)).setCell ⟨w1.heap.size, 7, none⟩ (.int .i64 0)).setCell ⟨w1.heap.size, 8, none⟩ (.int .i64 0)).setCell ⟨w1.heap.size, 9, none⟩ (.slice none 0 0)).setCell ⟨w1.heap.size, 10, none⟩ (.int .i64 10)).setCell ⟨w1.heap.size, 11, none⟩ (.bool false)).setCell ⟨w1.heap.size, 12, none⟩ (.int .i64 3)).setCell ⟨w1.heap.size, 13, none⟩ (.slice none 0 0)) w1.heap.size 63 #[.int .i64 3, .int .i64 1, .int .i64 0, .slice a 0 c, .slice none 0 0, .int .i64 0, .slice none 0 0, .int .i64 0, .int .i64 0, .slice none 0 0, .int .i64 10, .bool false, .int .i64 3, .slice none 0 0] := K5
  replace hk5 : Kept w4 ((((((((((((((w4.setCell ⟨w1.heap.size, 0, none⟩ (.int .i64 3)).setCell ⟨w1.heap.size, 1, none⟩ (.int .i64 1)).setCell ⟨w1.heap.size, 2, none⟩ (.int .i64 0)).setCell ⟨w1.heap.size, 3, none⟩ (.slice a 0 c)).setCell ⟨w1.heap.size, 4, none⟩ (.slice none 0 0)).setCell ⟨w1.heap.size, 5, none⟩ (.int .i64 0)).setCell ⟨w1.heap.size, 6, none⟩ (.slice none 0 0)).setCell ⟨w1.heap.size, 7, none⟩ (.int .i64 0)).setCell ⟨w1.heap.size, 8, none⟩ (.int .i64 0)).setCell ⟨w1.heap.size, 9, none⟩ (.slice none 0 0)).setCell ⟨w1.heap.size, 10, none⟩ (.int .i64 10)).setCell ⟨w1.heap.size, 11, none⟩ (.bool false)).setCell ⟨w1.heap.size, 12, none⟩ (.int .i64 3)).setCell ⟨w1.heap.size, 13, none⟩ (.slice none 0 0)) (fun k => k = w1.heap.size) := hk5
  have hz1 := hz.out
  have m5 := (m3.below hb4).away hk5 hWz.out hn'
  have HT := (HT.trans (Turn.of_below hb4)).away hk5 hz1
  clear g0 g1 g2 g3 g4 g5 g6 g7 g8 g9 g10 g11 g12 g13 d0 d1 d2 d3 d4 d5 d6 d7 d8 d9 d10 d11 d12 d13 HP HK hk5 m3 hb4
  generalize ((((((((((((((w4.setCell ⟨w1.heap.size, 0, none⟩ (.int .i64 3)).setCell ⟨w1.heap.size, 1, none⟩ (.int .i64 1)).setCell ⟨w1.heap.size, 2, none⟩ (.int .i64 0)).setCell ⟨w1.heap.size, 3, none⟩ (.slice a 0 c)).setCell ⟨w1.heap.size, 4, none⟩ (.slice none 0 0)).setCell ⟨w1.heap.size, 5, none⟩ (.int .i64 0)).setCell ⟨w1.heap.size, 6, none⟩ (.slice none 0 0)).setCell ⟨w1.heap.size, 7, none⟩ (.int .i64 0)).setCell ⟨w1.heap.size, 8, none⟩ (.int .i64 0)).setCell ⟨w1.heap.size, 9, none⟩ (.slice none 0 0)).setCell ⟨w1.heap.size, 10, none⟩ (.int .i64 10)).setCell ⟨w1.heap.size, 11, none⟩ (.bool false)).setCell ⟨w1.heap.size, 12, none⟩ (.int .i64 3)).setCell ⟨w1.heap.size, 13, none⟩ (.slice none 0 0)) = W5 at *
  obtain ⟨⟨d0, d1, d2, d3, d4, d5, d6, d7, d8, d9, d10, d11, d12, d13⟩, -⟩ := cells14 K5
  have a2 := one_alloc W5 (.cells #[.int .i64 3, .int .i64 1, .int .i64 0, .slice a 0 c, .slice none 0 0, .int .i64 0, .slice none 0 0, .int .i64 0, .int .i64 0, .slice none 0 0, .int .i64 10, .bool false, .int .i64 3, .slice none 0 0, .pointer (some ⟨G, 0, none⟩)] 68)
  have k2 := Blk.new W5 68 #[.int .i64 3, .int .i64 1, .int .i64 0, .slice a 0 c, .slice none 0 0, .int .i64 0, .slice none 0 0, .int .i64 0, .int .i64 0, .slice none 0 0, .int .i64 10, .bool false, .int .i64 3, .slice none 0 0, .pointer (some ⟨G, 0, none⟩)]
  have HM := Lib.hid m5
  have HT := Lib.hid HT
  have HS := Lib.hid hS
  have HG := Lib.hid hG
  have hlt := Lib.hid K5.lt
  have K6 := Blk.alloc K5 (.cells #[.int .i64 3, .int .i64 1, .int .i64 0, .slice a 0 c, .slice none 0 0, .int .i64 0, .slice none 0 0, .int .i64 0, .int .i64 0, .slice none 0 0, .int .i64 10, .bool false, .int .i64 3, .slice none 0 0, .pointer (some ⟨G, 0, none⟩)] 68)
  clear K5 m5 hS hG
  go_upto_region 11 with fail
  clear d0 d1 d2 d3 d4 d5 d6 d7 d8 d9 d10 d11 d12 d13
  have m2 := HM.out.below a2
  have HT := Lib.hid (HT.out.trans (Turn.of_below a2))
  have hbig := Lib.hid a2.size
  generalize W5.alloc (.cells #[.int .i64 3, .int .i64 1, .int .i64 0, .slice a 0 c, .slice none 0 0, .int .i64 0, .slice none 0 0, .int .i64 0, .int .i64 0, .slice none 0 0, .int .i64 10, .bool false, .int .i64 3, .slice none 0 0, .pointer (some ⟨G, 0, none⟩)] 68) = W6 at *
  obtain ⟨⟨d0, d1, d2, d3, d4, d5, d6, d7, d8, d9, d10, d11, d12, d13⟩, -⟩ := cells14 K6
  clear K6
  go_wp2_with fail
  clear d0 d1 d2 d3 d4 d5 d6 d7 d8 d9 d10 d11 d12 d13
  refine (files_any (HG.out.below m2.bel) _ a c).mono ?_
  rintro e w7 ⟨b, hbb, rfl, hb3, hkb⟩
  have m3 := m2.below hb3
  have hbF : ¬ F' b := fun e => by have := HM.out.mem.lt _ e; have := hbig.out; omega
  have q3 := Lib.hid (esweep_any (a := some ⟨b, 0, none⟩) (n := 2) (c := 2) (keep := [metaK, walN]) m3 (by have := HS.out.steps; omega) (fun w' F' hT => ⟨some ⟨b, 0, none⟩, 2, rfl, by decide, fun i x hx => by
    match i, hx with
    | 0, hx => exact ⟨b, 0, rfl, by cases hx; exact ⟨hT.kept.cell ((Blk.cell hkb 0).trans rfl) hbF, by decide +kernel⟩⟩
    | 1, hx => exact ⟨b, 0, rfl, by cases hx; exact ⟨hT.kept.cell ((Blk.cell hkb 1).trans rfl) hbF, by decide +kernel⟩⟩⟩))
  rw [sweep_full HS.out] at q3
  have k3 := Lib.hid (Blk.below k2 hb3 k2.lt)
  have HT := Lib.hid (HT.out.trans (Turn.of_below hb3))
  clear k2 m2 m3 hb3 hkb hbF hbb hbig a2
  go_wp2_with fail
  refine q3.out.mono ?_
  rintro e w8 ⟨F2, rfl, h1, h2⟩
  have HP := Lib.hid (And.intro h1 h2)
  clear q3 h1 h2
  go_wp2_with fail
  go_ret2
  have hn : ¬ F' W5.heap.size := fun e => by have := HM.out.mem.lt _ e; omega
  exact ⟨W5.heap.size, a, c, S, F2, rfl, HS.out, HP.out.1, HT.out.trans HP.out.2, Nat.le_trans (Nat.le_trans hz.out (Nat.le_of_lt hlt.out)) (Nat.le_refl _), (HP.out.2.kept.block _ k3.out.lt hn).trans k3.out⟩
end Go.Proofs.YtgagcncmlonciaaGreatDoor
namespace Go.Proofs.YtgagcncmlonciaaGreatDoor
open Go.RowKit
attribute [local go_sem] bs_toList bs_size

/-- A meta, as what a file has. -/
def topV (g : Int) (a : Option Addr) (c : Nat) : Value := .iface 122 (.agg #[.int .i64 g, .int .i64 1, .int .i64 0, .slice a 0 c])
/-- A segment's head, as what a file has. -/
def segI : Value := .iface 124 (.agg #[.int .i64 0, .slice none 0 0, .int .i64 10, .bool false, .int .i64 3, .slice none 0 0])
theorem metB_len1 : (metB 1).length ≤ 100 := by decide +kernel
def ParseMet (w : World) (g : Int) (e : Ending) (w' : World) : Prop := (∃ a c, e = .returned (.tuple #[topV g a c, .int .i64 0]) ∧ (a = none → c = 0)) ∧ Below w.heap.size w w'
set_option maxRecDepth 100000 in
set_option maxHeartbeats 1000000 in
theorem parse_met (g : Int) (h1 : 1 ≤ g) (h2 : g ≤ 3) (hl : (metB g).length ≤ 100) (w : World) :
    Calls Tryz.prog 27 #[.string (bs metaK), .string (bs (metB g))] w (ParseMet w g) := by
  have q := Lib.hid (Get_meta_any (metB g) w (Nat.le_trans hl (by decide)))
  rw [getM_met g h1 h2] at q
  simp only [Option.getD_some] at q
  have h : (bs metaK == (⟨#[109, 101, 116, 97]⟩ : ByteArray)) = true := by decide
  clear h1 h2 hl
  go_enter Tryz.func27, Tryz.ntmps27
  go_wp2_with fail
  refine q.out.mono ?_
  rintro e w1 ⟨v, rfl, hI, hb⟩
  obtain ⟨a, c, rfl, hac, -⟩ := id hI
  rw [show getMV (metT g) (.slice a (metT g).blocks.length c) 0 = .tuple #[.agg #[.int .i64 g, .int .i64 1, .int .i64 0, .slice a 0 c], .int .i64 0] from rfl]
  go_wp2_with fail
  go_ret2
  exact ⟨⟨a, c, rfl, hac⟩, hb.alloc hb.size _⟩
def ParseSeg (w : World) (e : Ending) (w' : World) : Prop := e = .returned (.tuple #[segI, .int .i64 0]) ∧ Below w.heap.size w w'
set_option maxRecDepth 100000 in
set_option maxHeartbeats 1000000 in
theorem parse_seg (w : World) (hG : Gl w) :
    Calls Tryz.prog 27 #[.string (bs walN), .string (bs headW)] w (ParseSeg w) := by
  have q := Lib.hid (Parse_any walN w hG (by decide))
  rw [parse_wal, show parseV (walK, 0, true) = .tuple #[.string (bs walK), .int .i64 0, .bool true] from rfl] at q
  have q2 := Lib.hid (fun W => WRead_head W)
  rw [show segV 10 3 = .agg #[.int .i64 0, .slice none 0 0, .int .i64 10, .bool false, .int .i64 3, .slice none 0 0] from rfl] at q2
  have hn : (bs walN == (⟨#[109, 101, 116, 97]⟩ : ByteArray)) = false := by decide
  go_enter Tryz.func27, Tryz.ntmps27
  go_wp2_with fail
  refine q.out.mono ?_
  rintro e w1 ⟨rfl, hb⟩
  go_wp2_with fail
  refine (q2.out _).mono ?_
  rintro e w2 ⟨rfl, hb2⟩
  have B := Lib.hid (hb.trans (hb2.mono hb.size))
  clear hb hb2 q q2
  go_wp2_with fail
  go_ret2
  exact ⟨rfl, B.out.alloc B.out.size _⟩
def otherK : List UInt8 := [111, 116, 104, 101, 114]
def ParseOth (w : World) (e : Ending) (w' : World) : Prop := e = .returned (.tuple #[.nilIface, .int .i64 11]) ∧ Below w.heap.size w w'
set_option maxRecDepth 100000 in
set_option maxHeartbeats 1000000 in
theorem parse_oth (s : List UInt8) (w : World) (hG : Gl w) :
    Calls Tryz.prog 27 #[.string (bs otherK), .string (bs s)] w (ParseOth w) := by
  have q := Lib.hid (Parse_any otherK w hG (by decide))
  rw [show parseB otherK = _ from parse_other, show parseV ([], 0, false) = .tuple #[.string (bs []), .int .i64 0, .bool false] from rfl] at q
  have hn : (bs otherK == (⟨#[109, 101, 116, 97]⟩ : ByteArray)) = false := by decide
  go_enter Tryz.func27, Tryz.ntmps27
  go_wp2_with fail
  refine q.out.mono ?_
  rintro e w1 ⟨rfl, hb⟩
  go_wp2_with fail
  go_ret2
  exact ⟨rfl, hb⟩
end Go.Proofs.YtgagcncmlonciaaGreatDoor
namespace Go.Proofs.YtgagcncmlonciaaGreatDoor
open Go.RowKit
attribute [local go_sem] bs_toList bs_size

set_option maxRecDepth 100000 in
theorem top_turn (g g' : Int) (h1 : 1 ≤ g') (h2 : g' ≤ 3) (a : Option Addr) (c : Nat) (hac : a = none → c = 0) (w : World) :
    Calls Tryz.prog 392 #[.agg #[.int .i64 g, .int .i64 1, .int .i64 0, .slice a 0 c], .int .i64 g'] w fun e w' => e = .returned (.tuple #[.string (bs (metB g')), .int .i64 0]) ∧ Below w.heap.size w w' := by
  have B2 := one_alloc w (.cells #[.int .i64 g', .int .i64 1, .int .i64 0, .slice a 0 c] 122)
  have k2 := Blk.new w 122 #[.int .i64 g', .int .i64 1, .int .i64 0, .slice a 0 c]
  have q := Lib.hid (fun W => Put_any (metT g') (.slice a 0 c) W (by unfold Mt.ok metT; simp; omega) ⟨a, c, rfl, hac, (show (0 : Nat) ≤ 100000 by decide), fun x hx => by simp [metT] at hx, fun i x hx => by simp [metT] at hx⟩)
  rw [show putMV (metT g') = .tuple #[.string (bs (metB g')), .int .i64 0] by unfold putMV; rw [putM_met g' h1 h2], show mtV (metT g') (.slice a 0 c) = .agg #[.int .i64 g', .int .i64 1, .int .i64 0, .slice a 0 c] from rfl] at q
  obtain ⟨⟨c0, c1, c2, c3⟩, -⟩ := cells4 k2
  clear k2 h1 h2 hac
  go_enter Tryz.func392, Tryz.ntmps392
  go_upto_region 2 with fail
  generalize w.alloc _ = W2 at *
  go_wp2_with fail
  refine (q.out _).mono ?_
  rintro e w3 ⟨rfl, hb3⟩
  have B3 := B2.trans (hb3.mono B2.size)
  clear q B2 hb3 c0 c1 c2 c3
  go_wp2_with fail
  go_ret2
  exact ⟨rfl, B3⟩
def TurnIs (w : World) (s : List UInt8) (r : Int) (e : Ending) (w' : World) : Prop := e = .returned (.tuple #[.string (bs s), .int .i64 r]) ∧ Below w.heap.size w w'
set_option maxRecDepth 100000 in
set_option maxHeartbeats 1000000 in
theorem turn_met (g g' : Int) (h1 : 1 ≤ g) (h2 : g ≤ 3) (hl : (metB g).length ≤ 100) (h3 : 1 ≤ g') (h4 : g' ≤ 3) (w : World) :
    Calls Tryz.prog 11 #[.string (bs metaK), .string (bs (metB g)), .int .i64 g'] w (TurnIs w (metB g') 0) := by
  have q1 := Lib.hid (parse_met g h1 h2 hl w)
  have q2 := Lib.hid (fun a c hac W => top_turn g g' h3 h4 a c hac W)
  have e1 : decide (g' < 1) = false := by simp; omega
  have e2 : decide (3 < g') = false := by simp; omega
  clear h1 h2 hl h3 h4
  go_enter Tryz.func11, Tryz.ntmps11
  go_wp2_with fail
  refine q1.out.mono ?_
  rintro e w1 ⟨⟨a, c, rfl, hac⟩, hb1⟩
  have q3 := Lib.hid (q2.out a c hac w1)
  unfold topV
  clear q1 q2 hac
  go_wp2_with fail
  refine q3.out.mono ?_
  rintro e w2 ⟨rfl, hb2⟩
  have B := hb1.trans (hb2.mono hb1.size)
  clear q3 hb1 hb2
  go_wp2_with fail
  go_ret2
  exact ⟨rfl, B⟩
set_option maxRecDepth 100000 in
set_option maxHeartbeats 1000000 in
theorem turn_oth (s : List UInt8) (w : World) (hG : Gl w) :
    Calls Tryz.prog 11 #[.string (bs otherK), .string (bs s), .int .i64 3] w (TurnIs w [] 11) := by
  have q1 := Lib.hid (parse_oth s w hG)
  clear hG
  go_enter Tryz.func11, Tryz.ntmps11
  go_wp2_with fail
  refine q1.out.mono ?_
  rintro e w1 ⟨rfl, hb1⟩
  clear q1
  go_wp2_with fail
  go_ret2
  exact ⟨rfl, hb1⟩
end Go.Proofs.YtgagcncmlonciaaGreatDoor
