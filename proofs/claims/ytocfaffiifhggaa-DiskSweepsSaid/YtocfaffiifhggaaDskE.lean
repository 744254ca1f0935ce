/- A file is saved as a whole. -/
import Derived.Test.YtocfaffiifhggaaDskC
namespace Go.Proofs.Ytocfaffiifhggaa
open Go.RowKit Go.Maps Go.WideMaps Go.ChangeShapes Go.WideShapes
attribute [local go_sem] bs_toList bs_size

theorem boxes4 (w : World) (a b c d : Value) (s t u v : TypeId) : Below w.heap.size w ((((w.alloc (.cells #[a] s)).alloc (.cells #[b] t)).alloc (.cells #[c] u)).alloc (.cells #[d] v)) ∧
    ((((w.alloc (.cells #[a] s)).alloc (.cells #[b] t)).alloc (.cells #[c] u)).alloc (.cells #[d] v)).cell? ⟨w.heap.size, 0, none⟩ = some a ∧ ((((w.alloc (.cells #[a] s)).alloc (.cells #[b] t)).alloc (.cells #[c] u)).alloc (.cells #[d] v)).cell? ⟨w.heap.size + 1, 0, none⟩ = some b ∧
    ((((w.alloc (.cells #[a] s)).alloc (.cells #[b] t)).alloc (.cells #[c] u)).alloc (.cells #[d] v)).cell? ⟨w.heap.size + 1 + 1, 0, none⟩ = some c ∧ ((((w.alloc (.cells #[a] s)).alloc (.cells #[b] t)).alloc (.cells #[c] u)).alloc (.cells #[d] v)).cell? ⟨w.heap.size + 1 + 1 + 1, 0, none⟩ = some d := by
  obtain ⟨h1, h2, h3, h4⟩ := boxes3 w a b c s t u
  have hs : (((w.alloc (.cells #[a] s)).alloc (.cells #[b] t)).alloc (.cells #[c] u)).heap.size = w.heap.size + 1 + 1 + 1 := by simp
  have h5 : Blk ((((w.alloc (.cells #[a] s)).alloc (.cells #[b] t)).alloc (.cells #[c] u)).alloc (.cells #[d] v)) (w.heap.size + 1 + 1 + 1) v #[d] := by
    have := Blk.new (((w.alloc (.cells #[a] s)).alloc (.cells #[b] t)).alloc (.cells #[c] u)) v #[d]
    rwa [hs] at this
  have hk := one_step (((w.alloc (.cells #[a] s)).alloc (.cells #[b] t)).alloc (.cells #[c] u)) (.cells #[d] v)
  exact ⟨h1.trans (hk.mono (by rw [hs]; omega)), (Below.cell hk (World.block_lt_of_cell? _ _ h2)).trans h2, (Below.cell hk (World.block_lt_of_cell? _ _ h3)).trans h3, (Below.cell hk (World.block_lt_of_cell? _ _ h4)).trans h4, (Blk.cell h5 0).trans rfl⟩

theorem Turn.then_new {a b c : World} {F F' : Nat → Prop} {p : Nat} (h : Turn a b F F') (k : Kept b c (fun i => i = p)) (hp : a.heap.size ≤ p) : Turn a c F F' :=
  ⟨⟨k.os.trans h.kept.os, k.tape.trans h.kept.tape, k.output.trans h.kept.output, Nat.le_trans h.kept.size k.size, fun i hi hn => (k.block i (Nat.lt_of_lt_of_le hi h.kept.size) (fun e => by omega)).trans (h.kept.block i hi hn)⟩, h.grow⟩

section
variable {w : World} {G : Nat} {S : FsS} {F : Nat → Prop}

def SavePost (w : World) (G : Nat) (S : FsS) (F : Nat → Prop) (name b : List UInt8) (e : Ending) (w' : World) : Prop := ∃ g, (preSave S (tmpB ++ name)).1.fresh g ∧ Did w w' G F e (S.save name b g)

theorem save_pre {w0 w' : World} {name b : List UInt8} {F' : Nat → Prop} (hM : FsMem w' G (preSave S (tmpB ++ name)).1 F') (hT : Turn w0 w' F F') (hr : (preSave S (tmpB ++ name)).2 ≠ 0) : SavePost w0 G S F name b (.returned (.int .i64 (preSave S (tmpB ++ name)).2)) w' :=
  ⟨w'.heap.size, hM.fresh (Nat.le_refl _), by unfold FsS.save; rw [if_pos hr]; exact ⟨F', hT, rfl, hM⟩⟩
theorem save_create {w0 w' : World} {name b : List UInt8} {F' : Nat → Prop} {g : Nat} (hg : (preSave S (tmpB ++ name)).1.fresh g) (hM : FsMem w' G ((preSave S (tmpB ++ name)).1.create (tmpB ++ name) g).1 F') (hT : Turn w0 w' F F') (h0 : (preSave S (tmpB ++ name)).2 = 0)
    (hr : ((preSave S (tmpB ++ name)).1.create (tmpB ++ name) g).2 ≠ 0) : SavePost w0 G S F name b (.returned (.int .i64 ((preSave S (tmpB ++ name)).1.create (tmpB ++ name) g).2)) w' :=
  ⟨g, hg, by unfold FsS.save; rw [if_neg (by simpa using h0), if_pos hr]; exact ⟨F', hT, rfl, hM⟩⟩
theorem save_end {w0 w' : World} {name b : List UInt8} {g : Nat} {e : Ending} (hg : (preSave S (tmpB ++ name)).1.fresh g) (h0 : (preSave S (tmpB ++ name)).2 = 0) (h1 : ((preSave S (tmpB ++ name)).1.create (tmpB ++ name) g).2 = 0)
    (h : Did w0 w' G F e (saveEnd ((preSave S (tmpB ++ name)).1.create (tmpB ++ name) g).1 (tmpB ++ name) name b)) : SavePost w0 G S F name b e w' :=
  ⟨g, hg, by unfold FsS.save; rw [if_neg (by simpa using h0), if_neg (by simpa using h1)]; exact h⟩
theorem saveEnd_err {T : FsS} {tmp name b : List UInt8} {j : Nat} (hj : j < 3) (hall : ∀ i, i ≤ j → (stg T tmp name b i).2 = 0) (hr : (stg T tmp name b (j + 1)).2 ≠ 0) :
    saveEnd T tmp name b = (((stg T tmp name b (j + 1)).1.remove tmp).1, (stg T tmp name b (j + 1)).2) := by
  unfold saveEnd
  match j, hj with
  | 0, _ => rw [if_pos hr]
  | 1, _ => rw [if_neg (by simpa using hall 1 (by omega)), if_pos hr]
  | 2, _ => rw [if_neg (by simpa using hall 1 (by omega)), if_neg (by simpa using hall 2 (by omega)), if_pos hr]
theorem saveEnd_ok {T : FsS} {tmp name b : List UInt8} (hall : ∀ i, i ≤ 3 → (stg T tmp name b i).2 = 0) : saveEnd T tmp name b = (stg T tmp name b 3).1.syncDir := by
  unfold saveEnd
  rw [if_neg (by simpa using hall 1 (by omega)), if_neg (by simpa using hall 2 (by omega)), if_neg (by simpa using hall 3 (by omega))]

theorem save_boxes {W4 : World} {p0 p1 p2 p3 : Nat} {v0 v1 v2 v3 : Value} (c0 : W4.cell? ⟨p0, 0, none⟩ = some v0) (c1 : W4.cell? ⟨p1, 0, none⟩ = some v1) (c2 : W4.cell? ⟨p2, 0, none⟩ = some v2) (c3 : W4.cell? ⟨p3, 0, none⟩ = some v3)
    (n0 : ¬ F p0) (n1 : ¬ F p1) (n2 : ¬ F p2) (n3 : ¬ F p3) (w' : World) (F' : Nat → Prop) (ht : Turn W4 w' F F') :
    w'.cell? ⟨p0, 0, none⟩ = some v0 ∧ w'.cell? ⟨p1, 0, none⟩ = some v1 ∧ w'.cell? ⟨p2, 0, none⟩ = some v2 ∧ w'.cell? ⟨p3, 0, none⟩ = some v3 :=
  ⟨ht.kept.cell c0 n0, ht.kept.cell c1 n1, ht.kept.cell c2 n2, ht.kept.cell c3 n3⟩

set_option maxRecDepth 100000 in
set_option maxHeartbeats 4000000 in
theorem Save_any (name b : List UInt8) (h : FsMem w G S F) (hok : S.ok) (hs : S.steps + 20 ≤ 500000) (hn : name.length ≤ 1000000) (hb : b.length ≤ 1048576) :
    Calls Try.prog 15 #[.pointer (some ⟨G, 0, none⟩), .string (bs name), .string (bs b)] w (SavePost w G S F name b) := by
  have hmf : ∀ (fn : Fn) (first cap : Array Value) (w : World), (Instr.makeFunc fn first cap).run Try.prog w = .ok (.func fn first cap) w := fun _ _ _ _ => rfl
  have hlt := h.lt
  have htl : (tmpB ++ name).length ≤ 1048576 := by simp [tmpB]; omega
  have q1 := Lib.hid (Temp_any name)
  obtain ⟨B4, c0, c1, c2, c3⟩ := boxes4 w (.pointer (some ⟨G, 0, none⟩)) (.string (bs name)) (.string (bs b)) (.string (bs (tmpB ++ name))) 24 9 9 9
  have hM4 := h.below B4
  have q2 := Lib.hid (there_any hM4 hok (tmpB ++ name))
  have HP4 := save_boxes (F := F) c0 c1 c2 c3 (fun e => by have := hlt _ e; omega) (fun e => by have := hlt _ e; omega) (fun e => by have := hlt _ e; omega) (fun e => by have := hlt _ e; omega)
  have HB4 := Lib.hid B4
  have HM4 := Lib.hid hM4
  have HLT := Lib.hid hlt
  have hokP := hok
  have HBX := Lib.hid HP4
  clear c0 c1 c2 c3 B4 hM4 hlt HP4
  cases hc : (S.names.at (tmpB ++ name)).isSome
  case' false =>
    have hp : preSave S (tmpB ++ name) = (S, 0) := by unfold preSave; rw [hc]; rfl
    rw [hc] at q2
    go_enter_defers Try.func15, Try.ntmps15
    go_wp2_with fail
    refine (q1.out _ (by omega)).mono ?_
    rintro e w' ⟨rfl, rfl⟩
    go_wp2_with fail
    refine q2.out.mono ?_
    rintro e wc ⟨rfl, hb5⟩
    generalize hW4 : (((w.alloc (.cells #[.pointer (some ⟨G, 0, none⟩)] 24)).alloc (.cells #[.string (bs name)] 9)).alloc (.cells #[.string (bs b)] 9)).alloc (.cells #[.string (bs (tmpB ++ name))] 9) = W4 at *
    have hz4 : W4.heap.size = w.heap.size + 1 + 1 + 1 + 1 := by rw [← hW4]; simp
    clear hW4
    have hT5 : Turn W4 wc F F := Turn.of_below hb5
    have hM5 := HM4.out.below hb5
    obtain ⟨FP, hFP⟩ : ∃ FP : Nat → Prop, FP = F := ⟨F, rfl⟩
    have HTc := Lib.hid (show Turn W4 wc F FP by rw [hFP]; exact hT5)
    have HMc := Lib.hid (show FsMem wc G (preSave S (tmpB ++ name)).1 FP by rw [hp, hFP]; exact hM5)
    have okc : (preSave S (tmpB ++ name)).1.ok := by rw [hp]; exact hok
    have hsc : (preSave S (tmpB ++ name)).1.steps ≤ S.steps + 1 := by rw [hp]; exact Nat.le_succ _
    have H0c := Lib.hid (show (preSave S (tmpB ++ name)).2 = 0 by rw [hp])
    clear hFP hT5 hM5 hp hb5 q1 q2
    obtain ⟨k0, k1, k2, k3⟩ := HBX.out wc FP HTc.out
  case' true =>
    have hp : preSave S (tmpB ++ name) = S.remove (tmpB ++ name) := by unfold preSave; rw [hc]; rfl
    rw [hc] at q2
    go_enter_defers Try.func15, Try.ntmps15
    go_wp2_with fail
    refine (q1.out _ (by omega)).mono ?_
    rintro e w' ⟨rfl, rfl⟩
    go_wp2_with fail
    refine q2.out.mono ?_
    rintro e w5 ⟨rfl, hb5⟩
    generalize hW4 : (((w.alloc (.cells #[.pointer (some ⟨G, 0, none⟩)] 24)).alloc (.cells #[.string (bs name)] 9)).alloc (.cells #[.string (bs b)] 9)).alloc (.cells #[.string (bs (tmpB ++ name))] 9) = W4 at *
    have hz4 : W4.heap.size = w.heap.size + 1 + 1 + 1 + 1 := by rw [← hW4]; simp
    clear hW4
    have hT5 : Turn W4 w5 F F := Turn.of_below hb5
    have hM5 := HM4.out.below hb5
    obtain ⟨k0, k1, k2, k3⟩ := HBX.out w5 F hT5
    have q3 := Lib.hid (Fs_Remove_mem hM5 hok (by omega) (tmpB ++ name) htl)
    have HT5 := Lib.hid hT5
    clear hT5 hM5 hb5 q1 q2
    go_wp2_with fail
    refine q3.out.mono ?_
    rintro e wc ⟨FP, hTP, he, hMP⟩
    subst he
    rw [← hp] at hMP ⊢
    have HTc := Lib.hid (HT5.out.trans hTP)
    have HMc := Lib.hid hMP
    have okc : (preSave S (tmpB ++ name)).1.ok := by rw [hp]; exact hok.remove _
    have hsc : (preSave S (tmpB ++ name)).1.steps ≤ S.steps + 1 := by rw [hp]; exact remove_steps _
    clear hTP hMP k0 k1 k2 k3 q3 HT5 hp
    obtain ⟨k0, k1, k2, k3⟩ := HBX.out wc FP HTc.out
    by_cases h0 : (preSave S (tmpB ++ name)).2 = 0
    case neg =>
     have HX := Lib.hid (save_pre (w0 := w) (b := b) HMc.out ((Turn.of_below HB4.out).trans HTc.out) h0)
     have e1 : ((preSave S (tmpB ++ name)).2 == 0) = false := by simpa using h0
     generalize (preSave S (tmpB ++ name)).2 = r at *
     clear h0
     go_wp2
     exact ⟨_, results_tmp rfl _ _ _, by simpa using HX.out⟩
    have H0c := Lib.hid h0
    rw [h0]
    clear h0
  all_goals
    have q3 := Lib.hid (Fs_Create_mem HMc.out okc (by omega) (tmpB ++ name) htl)
    go_wp2_with fail
    refine q3.out.mono ?_
    rintro e w6 ⟨g, hg, F6, hT6, he, hM6⟩
    subst he
    have HT6 := Lib.hid (HTc.out.trans hT6)
    have HM6 := Lib.hid hM6
    have ok6 := okc.create (tmpB ++ name) hg
    have hs6 := create_steps (tmpB ++ name) hg
    have HG := Lib.hid hg
    clear hT6 hM6 hg q3 k0 k1 k2 k3 HMc HTc
    obtain ⟨k0, k1, k2, k3⟩ := HBX.out w6 F6 HT6.out
    by_cases h1 : ((preSave S (tmpB ++ name)).1.create (tmpB ++ name) g).2 = 0
    case neg =>
     have HX := Lib.hid (save_create (w0 := w) (b := b) HG.out HM6.out ((Turn.of_below HB4.out).trans HT6.out) H0c.out h1)
     have e1 : (((preSave S (tmpB ++ name)).1.create (tmpB ++ name) g).2 == 0) = false := by simpa using h1
     simp only
     generalize ((preSave S (tmpB ++ name)).1.create (tmpB ++ name) g).2 = r at *
     clear h1
     go_wp2
     exact ⟨_, results_tmp rfl _ _ _, by simpa using HX.out⟩
    simp only
    have H1 := Lib.hid h1
    rw [h1]
    clear h1
    have HEND := Lib.hid (fun e w' => save_end (w0 := w) (w' := w') (b := b) (e := e) (F := F) (G := G) HG.out H0c.out H1.out)
    generalize ((preSave S (tmpB ++ name)).1.create (tmpB ++ name) g).1 = T at *
    go_wp2_with fail
    have hW8 : ∃ W8, W8 = (w6.alloc (.cells #[.bool false] 4)).alloc (.cells #[.func (.func 40) #[] #[.pointer (some ⟨w.heap.size, 0, none⟩), .pointer (some ⟨w.heap.size + 1 + 1 + 1, 0, none⟩), .pointer (some ⟨w.heap.size + 1 + 1, 0, none⟩)],
      .func (.func 41) #[] #[.pointer (some ⟨w.heap.size, 0, none⟩), .pointer (some ⟨w.heap.size + 1 + 1 + 1, 0, none⟩)],
      .func (.func 43) #[] #[.pointer (some ⟨w.heap.size, 0, none⟩), .pointer (some ⟨w.heap.size + 1 + 1 + 1, 0, none⟩), .pointer (some ⟨w.heap.size + 1, 0, none⟩)]] 67) := ⟨_, rfl⟩
    obtain ⟨W8, hW8⟩ := hW8
    rw [← hW8]
    have hB8 : Below w6.heap.size w6 W8 := by rw [hW8]; exact ((Below.refl _ w6).alloc (Nat.le_refl _) _).alloc (by simp) _
    have hz8 : W8.heap.size = w6.heap.size + 1 + 1 := by rw [hW8]; simp
    have hdn : Blk W8 w6.heap.size 4 #[.bool false] := by rw [hW8]; exact Blk.alloc (Blk.new w6 _ _) _
    have hrw : Blk W8 (w6.heap.size + 1) 67 #[.func (.func 40) #[] #[.pointer (some ⟨w.heap.size, 0, none⟩), .pointer (some ⟨w.heap.size + 1 + 1 + 1, 0, none⟩), .pointer (some ⟨w.heap.size + 1 + 1, 0, none⟩)],
      .func (.func 41) #[] #[.pointer (some ⟨w.heap.size, 0, none⟩), .pointer (some ⟨w.heap.size + 1 + 1 + 1, 0, none⟩)],
      .func (.func 43) #[] #[.pointer (some ⟨w.heap.size, 0, none⟩), .pointer (some ⟨w.heap.size + 1 + 1 + 1, 0, none⟩), .pointer (some ⟨w.heap.size + 1, 0, none⟩)]] := by
      rw [hW8]
      have := Blk.new (w6.alloc (.cells #[.bool false] 4)) 67 #[.func (.func 40) #[] #[.pointer (some ⟨w.heap.size, 0, none⟩), .pointer (some ⟨w.heap.size + 1 + 1 + 1, 0, none⟩), .pointer (some ⟨w.heap.size + 1 + 1, 0, none⟩)],
        .func (.func 41) #[] #[.pointer (some ⟨w.heap.size, 0, none⟩), .pointer (some ⟨w.heap.size + 1 + 1 + 1, 0, none⟩)],
        .func (.func 43) #[] #[.pointer (some ⟨w.heap.size, 0, none⟩), .pointer (some ⟨w.heap.size + 1 + 1 + 1, 0, none⟩), .pointer (some ⟨w.heap.size + 1, 0, none⟩)]]
      rwa [World.size_alloc] at this
    clear hW8
    have hM8 := HM6.out.below hB8
    have hold : ∀ i, i < 4 → ¬ F6 (w.heap.size + i) := fun i hi e => by
      rcases HT6.out.grow _ e with e | e
      · have := HLT.out _ e; omega
      · omega
    have hnew : ∀ i, w6.heap.size ≤ i → ¬ F6 i := fun i hi e => by have := HM6.out.lt _ e; omega
    have q8 := Lib.hid (save_first (tmpB ++ name) name b hM8 ok6 (by omega) htl (by omega) hb ((Below.cell hB8 (World.block_lt_of_cell? _ _ k0)).trans k0) ((Below.cell hB8 (World.block_lt_of_cell? _ _ k1)).trans k1) ((Below.cell hB8 (World.block_lt_of_cell? _ _ k2)).trans k2) ((Below.cell hB8 (World.block_lt_of_cell? _ _ k3)).trans k3)
      ((Blk.cell hrw 0).trans rfl) ((Blk.cell hrw 1).trans rfl) ((Blk.cell hrw 2).trans rfl) (hold 0 (by omega)) (hold 1 (by omega)) (hold 2 (by omega)) (hold 3 (by omega)) (hnew _ (by omega)))
    have HTW := Lib.hid ((Turn.of_below HB4.out).trans (HT6.out.trans (Turn.of_below hB8)))
    have HB8 := Lib.hid hB8
    have HDN := Lib.hid hdn
    have HK := Lib.hid (And.intro k0 k3)
    have HOLD := Lib.hid hold
    have HNEW := Lib.hid hnew
    have hsize6 := HTW.out.kept.size
    have hz6 := HT6.out.kept.size
    clear hB8 hdn hrw hM8 hold hnew k0 k1 k2 k3
    refine q8.out.mono ?_
    rintro e w9 ⟨r, rfl, hr⟩
    rcases hr with ⟨rfl, hall, F9, hM9, hT9⟩ | ⟨hr, j, hj, hall, hrj, F9, hM9, hT9⟩
    · have dn9 : Blk w9 w6.heap.size 4 #[.bool false] := Blk.keptK HDN.out hT9.kept (HNEW.out _ (Nat.le_refl _))
      have fr := Blk.frozen dn9 0
      have dc : w9.cell? ⟨w6.heap.size, 0, none⟩ = some (.bool false) := (Blk.cell dn9 0).trans rfl
      have b9 : w9.cell? ⟨w.heap.size, 0, none⟩ = some (.pointer (some ⟨G, 0, none⟩)) := hT9.kept.cell ((Below.cell HB8.out (World.block_lt_of_cell? _ _ HK.out.1)).trans HK.out.1) (HOLD.out 0 (by omega))
      have hk10 : Kept w9 (w9.setCell ⟨w6.heap.size, 0, none⟩ (.bool true)) (fun i => i = w6.heap.size) := Kept.of_grown (grown_set _ _ _ _) fun k hk => (Option.some.inj hk).symm
      have nF9 : ¬ F9 w6.heap.size := fun e => by
        rcases hT9.grow _ e with e | e
        · exact HNEW.out _ (Nat.le_refl _) e
        · omega
      have hM10 := hM9.kept hk10 (fun i hi e => nF9 (e ▸ hi))
      have b10 : (w9.setCell ⟨w6.heap.size, 0, none⟩ (.bool true)).cell? ⟨w.heap.size, 0, none⟩ = some (.pointer (some ⟨G, 0, none⟩)) := hk10.cell b9 (by show ¬ w.heap.size = w6.heap.size; omega)
      have dn10 : Blk (w9.setCell ⟨w6.heap.size, 0, none⟩ (.bool true)) w6.heap.size 4 #[.bool true] := Blk.set_ dn9 0 (.bool true)
      have HTX := Lib.hid ((HTW.out.trans hT9).then_new hk10 (by omega))
      have ok9 := stg_ok ok6 (tmpB ++ name) name b hb 3
      have hs9 := stg_steps (S := T) (tmpB ++ name) name b 3
      have q10 := Lib.hid (Fs_SyncDir_mem hM10 ok9 (by omega))
      have HEQ := Lib.hid (saveEnd_ok hall)
      have HD10 := Lib.hid dn10
      have HN9 := Lib.hid nF9
      clear hall hM9 hT9 hM10 hk10 nF9 dn9 dn10 b9
      go_wp2_with fail
      refine q10.out.mono ?_
      rintro e w11 ⟨F11, hT11, he, hM11⟩
      subst he
      have dn11 := Blk.keptK HD10.out hT11.kept HN9.out
      have HF := Lib.hid (HEND.out _ w11 (by rw [HEQ.out]; exact ⟨F11, HTX.out.trans hT11, rfl, hM11⟩))
      clear hT11 hM11
      generalize (stg T (tmpB ++ name) name b 3).1.syncDir.2 = r at *
      go_wp2
      refine leaves_cons (f := 38) (args := #[.pointer (some ⟨w6.heap.size, 0, none⟩), .pointer (some ⟨w.heap.size, 0, none⟩), .pointer (some ⟨w.heap.size + 1 + 1 + 1, 0, none⟩)]) (by simp) (by simp [go_sem]) ?_
      refine (Save1_done .returning ((Blk.cell dn11 0).trans rfl)).mono ?_
      rintro e u' w12 ⟨rfl, rfl, rfl⟩
      exact ⟨_, results_tmp rfl _ _ _, by simpa using HF.out⟩
    · have dn9 : Blk w9 w6.heap.size 4 #[.bool false] := Blk.keptK HDN.out hT9.kept (HNEW.out _ (Nat.le_refl _))
      have b9 : w9.cell? ⟨w.heap.size, 0, none⟩ = some (.pointer (some ⟨G, 0, none⟩)) := hT9.kept.cell ((Below.cell HB8.out (World.block_lt_of_cell? _ _ HK.out.1)).trans HK.out.1) (HOLD.out 0 (by omega))
      have b93 : w9.cell? ⟨w.heap.size + 1 + 1 + 1, 0, none⟩ = some (.string (bs (tmpB ++ name))) := hT9.kept.cell ((Below.cell HB8.out (World.block_lt_of_cell? _ _ HK.out.2)).trans HK.out.2) (HOLD.out 3 (by omega))
      have ok9 := stg_ok ok6 (tmpB ++ name) name b hb (j + 1)
      have hs9 := stg_steps (S := T) (tmpB ++ name) name b (j + 1)
      have q10 := Save1_not (pd := w6.heap.size) (p0 := w.heap.size) (p3 := w.heap.size + 1 + 1 + 1) .returning (tmpB ++ name) hM9 ok9 (by omega) htl ((Blk.cell dn9 0).trans rfl) b9 b93
      have HEQ := Lib.hid (saveEnd_err hj hall (by rw [← hrj]; exact hr))
      have HTX := Lib.hid (HTW.out.trans hT9)
      have Q10 := Lib.hid q10
      have HRJ := Lib.hid hrj
      have e1 : (r == 0) = false := by simpa using hr
      clear hall hM9 hT9 dn9 b9 b93 q10 hrj hr
      go_wp2
      refine leaves_cons (f := 38) (args := #[.pointer (some ⟨w6.heap.size, 0, none⟩), .pointer (some ⟨w.heap.size, 0, none⟩), .pointer (some ⟨w.heap.size + 1 + 1 + 1, 0, none⟩)]) (by simp) (by simp [go_sem]) ?_
      refine Q10.out.mono ?_
      rintro e u' w12 ⟨rfl, rfl, F12, hM12, hT12⟩
      have HF := HEND.out (.returned (.int .i64 r)) w12 (by rw [HEQ.out]; exact ⟨F12, HTX.out.trans hT12, by rw [HRJ.out], hM12⟩)
      exact ⟨_, results_tmp rfl _ _ _, by simpa using HF⟩
end
end Go.Proofs.Ytocfaffiifhggaa
