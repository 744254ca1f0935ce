/- Files on a machine: each call. Files on a machine: names become others, each call. Files on a machine: Remove, Rename. -/
import Derived.Test.YtgagcncmlonciaaGreatDoorSimJ
import Derived.Test.YtgagcncmlonciaaGreatDoorGD
namespace Go.Proofs.YtgagcncmlonciaaGreatDoor
open Go.RowKit Go.Maps Go.WideMaps
attribute [local go_sem] bs_toList bs_size

/-- What a call comes to: the machine behind it, and its answer. -/
def Did (w w' : World) (G : Nat) (F : Nat → Prop) (e : Ending) (x : FsS × Int) : Prop := ∃ F', Turn w w' F F' ∧ e = .returned (.int .i64 x.2) ∧ FsMem w' G x.1 F'

theorem FsS.of_cases (S : FsS) (l : List UInt8) : (S.of l = .inr 13 ∧ S.dead = true) ∨ (S.of l = .inr 11 ∧ S.dead = false ∧ S.names.at l = none) ∨ ∃ g, S.of l = .inl g ∧ S.dead = false ∧ S.names.at l = some g := by
  unfold FsS.of
  cases hd : S.dead
  · cases hn : S.names.at l with
    | none => exact .inr (.inl ⟨by simp, rfl, rfl⟩)
    | some g => exact .inr (.inr ⟨g, by simp, rfl, rfl⟩)
  · exact .inl ⟨by simp, rfl⟩

def ofVal : Nat ⊕ Int → Value
  | .inl g => .tuple #[.pointer (some ⟨g, 0, none⟩), .int .i64 0]
  | .inr e => .tuple #[.pointer none, .int .i64 e]

section
variable {w : World} {G : Nat} {S : FsS} {F : Nat → Prop}

theorem Did.before {w0 : World} {e : Ending} {w' : World} {x : FsS × Int} (hk : Below w0.heap.size w0 w) (h : Did w w' G F e x) : Did w0 w' G F e x := by
  obtain ⟨F', h1, h2⟩ := h
  exact ⟨F', (Turn.of_below hk).trans h1, h2⟩
theorem did_none {w0 : World} (h : FsMem w G S F) (hb : Below w0.heap.size w0 w) (r : Int) : Did w0 w G F (.returned (.int .i64 r)) (S, r) := ⟨F, Turn.of_below hb, rfl, h⟩
theorem Stepped.did {w' : World} {e : Ending} {f : FsS → FsS} (h : Stepped w w' G S F e fun T => T = f S.tick) : Did w w' G F e (S.step f) := by
  obtain ⟨F', h1, h2⟩ := h
  unfold FsS.step
  rcases h2 with ⟨h0, he, hM⟩ | ⟨h0, he, T, rfl, hM⟩
  · rw [if_pos h0]; exact ⟨F', h1, he, hM⟩
  · rw [if_neg h0]; exact ⟨F', h1, he, hM⟩
theorem Did.form {e : Ending} {w' : World} {x : FsS × Int} (h : Did w w' G F e x) : e = .returned (.int .i64 x.2) := by
  obtain ⟨F', _, h2, _⟩ := h
  exact h2

theorem Fs_of_mem (h : FsMem w G S F) (l : List UInt8) (hl : l.length ≤ 1048576) :
    Calls Tryz.prog 26 #[.pointer (some ⟨G, 0, none⟩), .string (bs l)] w fun e w' => e = .returned (ofVal (S.of l)) ∧ w = w' := by
  obtain ⟨nb, sb, mv, mbs, chv, h⟩ := h
  refine (Fs_of_any S.names.data l (by unfold maxLen; omega) h.fs h.nm).mono ?_
  rintro e w' ⟨⟨v, rfl, hv⟩, rfl⟩
  refine ⟨?_, rfl⟩
  unfold ofV at hv
  rw [Nm.has_data, Nm.atKey_data] at hv
  rcases S.of_cases l with ⟨h1, h2⟩ | ⟨h1, h2, h3⟩ | ⟨g, h1, h2, h3⟩
  · rw [h2, if_pos rfl] at hv
    rw [h1, hv]
    rfl
  · rw [h2, h3, if_neg (by simp), if_pos Option.isSome_none] at hv
    rw [h1, hv]
    rfl
  · rw [h2, h3, if_neg (by simp), if_neg (by simp)] at hv
    obtain ⟨x, ps, hx, rfl⟩ := hv
    obtain ⟨g', e1, rfl⟩ := ptrR_lit hx
    rw [h1]
    obtain rfl : g = g' := by omega
    rfl

set_option maxRecDepth 100000 in
theorem Fs_Sync_mem (h : FsMem w G S F) (hok : S.ok) (hs : S.steps ≤ 500000) (l : List UInt8) (hl : l.length ≤ 1048576) :
    Calls Tryz.prog 50 #[.pointer (some ⟨G, 0, none⟩), .string (bs l)] w fun e w' => Did w w' G F e (S.sync l) := by
  have q := Lib.hid (Fs_of_mem h l hl)
  rcases S.of_cases l with ⟨h1, h2⟩ | ⟨h1, h2, h3⟩ | ⟨g, h1, h2, h3⟩
  all_goals
    unfold FsS.sync
    rw [h1]
    rw [h1] at q
    simp only [ofVal] at q
  · go_enter Tryz.func50, Tryz.ntmps50
    go_wp2_with fail
    refine q.out.mono ?_
    rintro e w' ⟨rfl, rfl⟩
    go_wp2
    go_ret
    exact did_none h (Below.refl _ _) _
  · go_enter Tryz.func50, Tryz.ntmps50
    go_wp2_with fail
    refine q.out.mono ?_
    rintro e w' ⟨rfl, rfl⟩
    go_wp2
    go_ret
    exact did_none h (Below.refl _ _) _
  · have q2 : Calls Tryz.prog 97 #[.pointer (some ⟨G, 0, none⟩), .func (.func 100) #[.pointer (some ⟨g, 0, none⟩)] #[]] w fun e w' => Did w w' G F e (S.step fun T => T.setFl g (T.fl g).sync) := by
      refine (Fs_step_mem 100 _ #[] #[.pointer (some ⟨g, 0, none⟩)] Array.append_empty (fun T => T = S.tick.setFl g (S.tick.fl g).sync) (fun W => by go_simp) h hok hs ?_).mono fun e w' h => h.did
      rintro w1 ⟨nb, sb, mv, mbs, chv, h1⟩ hk
      have hlive : S.tick.live g := h1.liveN h3
      refine (file_sync_any (h1.fl g hlive).1).mono ?_
      rintro e w' ⟨rfl, hF, hg⟩
      obtain ⟨F', e1, e2⟩ := h1.file (x := (S.tick.fl g).sync) hlive hF (World.ownsRow_nil _ _ _ _) (fun k hk => by cases hk) ((Kept.of_grown hg fun k hk => .inl (Option.some.inj hk).symm))
      exact ⟨rfl, _, F', rfl, ⟨_, _, _, _, _, e1⟩, e2⟩
    have Q2 := Lib.hid q2
    have H := Lib.hid h
    clear q2 h
    go_enter Tryz.func50, Tryz.ntmps50
    go_wp2_with fail
    refine q.out.mono ?_
    rintro e w' ⟨rfl, rfl⟩
    go_wp2_with fail
    refine Q2.out.mono ?_
    intro e w' hd
    have hD := Lib.hid hd
    obtain rfl := hd.form
    clear hd
    go_wp2
    go_ret
    exact hD.out

set_option maxRecDepth 100000 in
theorem Fs_Read_mem (h : FsMem w G S F) (l : List UInt8) (hl : l.length ≤ 1048576) :
    Calls Tryz.prog 10 #[.pointer (some ⟨G, 0, none⟩), .string (bs l)] w fun e w' => e = .returned (.tuple #[.string (bs (S.read l).1), .int .i64 (S.read l).2]) ∧ w = w' := by
  have q := Lib.hid (Fs_of_mem h l hl)
  rcases S.of_cases l with ⟨h1, h2⟩ | ⟨h1, h2, h3⟩ | ⟨g, h1, h2, h3⟩
  all_goals
    unfold FsS.read
    rw [h1]
    rw [h1] at q
    simp only [ofVal] at q ⊢
  · go_enter Tryz.func10, Tryz.ntmps10
    go_wp2_with fail
    refine q.out.mono ?_
    rintro e w' ⟨rfl, rfl⟩
    go_wp2
    go_ret2
    exact ⟨rfl, rfl⟩
  · go_enter Tryz.func10, Tryz.ntmps10
    go_wp2_with fail
    refine q.out.mono ?_
    rintro e w' ⟨rfl, rfl⟩
    go_wp2
    go_ret2
    exact ⟨rfl, rfl⟩
  · obtain ⟨nb, sb, mv, mbs, chv, h⟩ := h
    obtain ⟨c0, c1, c2⟩ := (h.fl g (h.liveN h3)).1.c
    go_enter Tryz.func10, Tryz.ntmps10
    go_wp2_with fail
    refine q.out.mono ?_
    rintro e w' ⟨rfl, rfl⟩
    go_wp2
    go_ret2
    exact ⟨rfl, rfl⟩

theorem Fs_Dead_mem (h : FsMem w G S F) : Calls Tryz.prog 61 #[.pointer (some ⟨G, 0, none⟩)] w fun e w' => e = .returned (.bool S.dead) ∧ w = w' := by
  obtain ⟨nb, sb, mv, mbs, chv, h⟩ := h
  exact Fs_Dead_any h.fs

theorem Fs_move_args {cf : FuncId} {cc : Array Value} (ar : Nat → Array Value) (ha : ∀ b, #[.map (some b)] ++ cc = ar b) (RN : Nm → Prop) (h : FsMem w G S F) (hok : S.ok) (hs : S.steps ≤ 500000)
    (hcf : ∀ b W, (callFunc cf (ar b)).run Tryz.prog W = .ok (.enter cf (ar b)) W)
    (hch : ∀ w1 b, Kept w w1 (fun k => k = G) → w.heap.size ≤ b → Dir w1 b S.names.length S.names.data → Calls Tryz.prog cf (ar b) w1 fun e w' => e = .returned (.tuple #[]) ∧
      ∃ N : Nm, RN N ∧ Dir w' b N.length N.data ∧ w1.grownBy w' (some b) ∧ ∀ g ∈ N.ids, S.live g ∨ (w1.heap.size ≤ g ∧ FileAt w' g [] [] (.slice none 0 0))) :
    Calls Tryz.prog 152 #[.pointer (some ⟨G, 0, none⟩), .func (.func cf) #[] cc] w fun e w' => Stepped w w' G S F e fun T => ∃ N, RN N ∧ T = S.tick.moved N :=
  Fs_move_any RN h hok hs (fun b W => by rw [ha]; exact hcf b W) fun w1 b e1 e2 e3 => by rw [ha]; exact hch w1 b e1 e2 e3
end
end Go.Proofs.YtgagcncmlonciaaGreatDoor
namespace Go.Proofs.YtgagcncmlonciaaGreatDoor
open Go.RowKit Go.Maps Go.WideMaps
attribute [local go_sem] bs_toList bs_size

theorem new_cell (w : World) (v : Value) (t : TypeId) : (w.alloc (.cells #[v] t)).cell? ⟨w.heap.size, 0, none⟩ = some v := by rw [World.cell?_alloc_new]; rfl
theorem one_step (w : World) (o : Obj) : Below w.heap.size w (w.alloc o) := (Below.refl _ w).alloc (Nat.le_refl _) o
section
variable {w : World} {G : Nat} {S : FsS} {F : Nat → Prop}

theorem FsMem.tags (h : FsMem w G S F) : tag w G = some (some 50) := by
  obtain ⟨nb, sb, mv, mbs, chv, h⟩ := h
  exact h.tagG

/-- Create's step. -/
theorem Create_step (h : FsMem w G S F) (hok : S.ok) (hs : S.steps ≤ 500000) (l : List UInt8) (hl : l.length ≤ 1048576) (hn : S.names.length < 64) :
    Calls Tryz.prog 152 #[.pointer (some ⟨G, 0, none⟩), .func (.func 155) #[] #[.pointer (some ⟨w.heap.size, 0, none⟩)]] (w.alloc (.cells #[.string (bs l)] 9)) fun e w' =>
      ∃ g, w.heap.size ≤ g ∧ Did w w' G F e (S.step fun T => T.moved (T.names.put l g)) := by
  have hb := one_step w (.cells #[.string (bs l)] 9)
  refine (Fs_move_args (fun b => #[.map (some b), .pointer (some ⟨w.heap.size, 0, none⟩)]) (fun _ => rfl) (fun N => ∃ g, w.heap.size ≤ g ∧ N = S.names.put l g) (h.below hb) hok hs (fun b W => by go_simp) ?_).mono ?_
  · intro w1 b hk hbb hD
    have hG : w.heap.size ≠ G := by have := h.lt _ h.gG; omega
    refine (Create_do_any l (by unfold maxLen; omega) (by unfold maxLen; omega) hD (hk.cell (new_cell w _ _) hG)).mono ?_
    rintro e w' ⟨rfl, hD', hF, hg⟩
    refine ⟨rfl, _, ⟨w1.heap.size, Nat.le_trans hb.size hk.size, rfl⟩, ?_, hg, ?_⟩
    · rw [← Nm.data_put] at hD'
      exact hD'.tight
    · intro g hg
      obtain ⟨p, hp, rfl⟩ := List.mem_map.1 hg
      rcases Nm.mem_put.1 hp with rfl | hp
      · exact .inr ⟨Nat.le_refl _, hF⟩
      · exact .inl ⟨S.names, by simp [FsS.dirs], List.mem_map.2 ⟨p, hp.1, rfl⟩⟩
  · intro e w' hst
    obtain ⟨F', h1, h2⟩ := hst.before hb
    rcases h2 with ⟨h0, he, hM⟩ | ⟨h0, he, T, ⟨N, ⟨g, hg, rfl⟩, rfl⟩, hM⟩
    · refine ⟨w.heap.size, Nat.le_refl _, ?_⟩
      unfold FsS.step
      rw [if_pos h0]
      exact ⟨F', h1, he, hM⟩
    · refine ⟨g, hg, ?_⟩
      unfold FsS.step
      rw [if_neg h0]
      exact ⟨F', h1, he, hM⟩

/-- No such file was ever. -/
def FsS.fresh (S : FsS) (g : Nat) : Prop := ¬ S.live g ∧ S.fl g = Fl.new
theorem FsMem.fresh (h : FsMem w G S F) {g : Nat} (hg : w.heap.size ≤ g) : S.fresh g := by
  obtain ⟨nb, sb, mv, mbs, chv, h⟩ := h
  exact ⟨fun e => by have := h.live_lt e; omega, h.new g hg⟩

def DidNew (w w' : World) (G : Nat) (F : Nat → Prop) (e : Ending) (S : FsS) (l : List UInt8) : Prop := ∃ g, S.fresh g ∧ Did w w' G F e (S.create l g)

set_option maxRecDepth 100000 in
set_option maxHeartbeats 1000000 in
theorem Fs_Create_mem (h : FsMem w G S F) (hok : S.ok) (hs : S.steps ≤ 500000) (l : List UInt8) (hl : l.length ≤ 1048576) :
    Calls Tryz.prog 89 #[.pointer (some ⟨G, 0, none⟩), .string (bs l)] w fun e w' => DidNew w w' G F e S l := by
  have hb := one_step w (.cells #[.string (bs l)] 9)
  have hM := h.below hb
  have hfr := h.fresh (Nat.le_refl _)
  have q := Lib.hid (Fs_of_mem hM l hl)
  have qr := Lib.hid (right_any l (w.alloc (.cells #[.string (bs l)] 9)))
  have none : ∀ r, S.create l w.heap.size = (S, r) → DidNew w (w.alloc (.cells #[.string (bs l)] 9)) G F (.returned (.int .i64 r)) S l := fun r e => ⟨w.heap.size, hfr, by rw [e]; exact did_none hM hb r⟩
  have N0 := Lib.hid none
  clear none
  unfold FsS.create at N0
  rcases S.of_cases l with ⟨h1, h2⟩ | ⟨h1, h2, h3⟩ | ⟨g, h1, h2, h3⟩
  · rw [h1] at q
    simp only [ofVal] at q
    go_enter Tryz.func89, Tryz.ntmps89
    go_wp2_with fail
    refine q.out.mono ?_
    rintro e w' ⟨rfl, rfl⟩
    go_wp2
    go_ret
    exact N0.out 13 (by simp [h2])
  · rw [h1] at q
    simp only [ofVal] at q
    cases hr : rightN l with
    | false =>
      unfold rightN at hr
      rw [hr] at qr
      go_enter Tryz.func89, Tryz.ntmps89
      go_wp2_with fail
      refine q.out.mono ?_
      rintro e w' ⟨rfl, rfl⟩
      go_wp2_with fail
      refine qr.out.mono ?_
      rintro e w' ⟨rfl, rfl⟩
      go_wp2
      go_ret
      exact N0.out 1 (by simp [h2, rightN, hr])
    | true =>
      unfold rightN at hr
      rw [hr] at qr
      by_cases hn : 64 ≤ S.names.length
      · have HL : (((S.names.length : Nat) : Int) ≥ 64) := by omega
        obtain ⟨nb, sb, mv, mbs, chv, h⟩ := hM
        obtain ⟨c0, _⟩ := h.fs.c
        have hD : World.ownsMap (w.alloc (.cells #[.string (bs l)] 9)) Tryz.prog 9 ptrR nb S.names.length S.names.data := h.nm
        have hsz := Lib.hid (Nm.size_data S.names)
        go_enter Tryz.func89, Tryz.ntmps89
        go_wp2_with fail
        refine q.out.mono ?_
        rintro e w' ⟨rfl, rfl⟩
        go_wp2_with fail
        refine qr.out.mono ?_
        rintro e w' ⟨rfl, rfl⟩
        go_wp2_with (at_len; refine wpList_len_own _ rfl _ 47 rfl 9 79 Tryz.underlying47 ptrR nb _ _ rfl hD ?_; rw [hsz.out])
        go_ret
        exact N0.out 7 (by simp [h2, rightN, hr, h3, hn])
      · have HL : (((S.names.length : Nat) : Int) < 64) := by omega
        have qm := Lib.hid (Create_step h hok hs l hl (by omega))
        have hX : ∀ e w', (∃ g, w.heap.size ≤ g ∧ Did w w' G F e (S.step fun T => T.moved (T.names.put l g))) → DidNew w w' G F e S l := fun e w' ⟨g, hg, hd⟩ => ⟨g, h.fresh hg, by
          unfold FsS.create
          simpa [h2, rightN, hr, h3, hn] using hd⟩
        have HX := Lib.hid hX
        clear hX
        obtain ⟨nb, sb, mv, mbs, chv, h⟩ := hM
        obtain ⟨c0, _⟩ := h.fs.c
        have hD : World.ownsMap (w.alloc (.cells #[.string (bs l)] 9)) Tryz.prog 9 ptrR nb S.names.length S.names.data := h.nm
        have hsz := Lib.hid (Nm.size_data S.names)
        go_enter Tryz.func89, Tryz.ntmps89
        go_wp2_with fail
        refine q.out.mono ?_
        rintro e w' ⟨rfl, rfl⟩
        go_wp2_with fail
        refine qr.out.mono ?_
        rintro e w' ⟨rfl, rfl⟩
        go_wp2_with (at_len; refine wpList_len_own _ rfl _ 47 rfl 9 79 Tryz.underlying47 ptrR nb _ _ rfl hD ?_; rw [hsz.out])
        refine qm.out.mono ?_
        intro e w' hd
        have hR := Lib.hid (HX.out _ _ hd)
        obtain ⟨g, _, hd⟩ := hd
        obtain rfl := hd.form
        clear hd
        go_wp2
        go_ret
        exact hR.out
  · rw [h1] at q
    simp only [ofVal] at q
    cases hr : rightN l with
    | false =>
      unfold rightN at hr
      rw [hr] at qr
      go_enter Tryz.func89, Tryz.ntmps89
      go_wp2_with fail
      refine q.out.mono ?_
      rintro e w' ⟨rfl, rfl⟩
      go_wp2_with fail
      refine qr.out.mono ?_
      rintro e w' ⟨rfl, rfl⟩
      go_wp2
      go_ret
      exact N0.out 1 (by simp [h2, rightN, hr])
    | true =>
      unfold rightN at hr
      rw [hr] at qr
      go_enter Tryz.func89, Tryz.ntmps89
      go_wp2_with fail
      refine q.out.mono ?_
      rintro e w' ⟨rfl, rfl⟩
      go_wp2_with fail
      refine qr.out.mono ?_
      rintro e w' ⟨rfl, rfl⟩
      go_wp2
      go_ret
      exact N0.out 12 (by simp [h2, rightN, hr, h3])
end
end Go.Proofs.YtgagcncmlonciaaGreatDoor
namespace Go.Proofs.YtgagcncmlonciaaGreatDoor
open Go.RowKit Go.Maps Go.WideMaps
attribute [local go_sem] bs_toList bs_size

section
variable {w : World} {G : Nat} {S : FsS} {F : Nat → Prop}

theorem Remove_step (h : FsMem w G S F) (hok : S.ok) (hs : S.steps ≤ 500000) (l : List UInt8) (hl : l.length ≤ 1048576) :
    Calls Tryz.prog 152 #[.pointer (some ⟨G, 0, none⟩), .func (.func 153) #[] #[.pointer (some ⟨w.heap.size, 0, none⟩)]] (w.alloc (.cells #[.string (bs l)] 9)) fun e w' =>
      Did w w' G F e (S.step fun T => T.moved (T.names.del l)) := by
  have hb := one_step w (.cells #[.string (bs l)] 9)
  refine (Fs_move_args (fun b => #[.map (some b), .pointer (some ⟨w.heap.size, 0, none⟩)]) (fun _ => rfl) (fun N => N = S.names.del l) (h.below hb) hok hs (fun b W => by go_simp) ?_).mono ?_
  · intro w1 b hk hbb hD
    have hG : w.heap.size ≠ G := by have := h.lt _ h.gG; omega
    refine (Remove_do_any l (by unfold maxLen; omega) hD (hk.cell (new_cell w _ _) hG)).mono ?_
    rintro e w' ⟨rfl, hD', hg⟩
    refine ⟨rfl, _, rfl, ?_, hg.grown, ?_⟩
    · rw [← Nm.data_del] at hD'
      exact hD'.tight
    · intro g hg
      obtain ⟨p, hp, rfl⟩ := List.mem_map.1 hg
      exact .inl ⟨S.names, by simp [FsS.dirs], List.mem_map.2 ⟨p, (Nm.mem_del.1 hp).1, rfl⟩⟩
  · intro e w' hst
    obtain ⟨F', h1, h2⟩ := hst.before hb
    unfold FsS.step
    rcases h2 with ⟨h0, he, hM⟩ | ⟨h0, he, T, ⟨N, rfl, rfl⟩, hM⟩
    · rw [if_pos h0]
      exact ⟨F', h1, he, hM⟩
    · rw [if_neg h0]
      exact ⟨F', h1, he, hM⟩

set_option maxRecDepth 100000 in
theorem Fs_Remove_mem (h : FsMem w G S F) (hok : S.ok) (hs : S.steps ≤ 500000) (l : List UInt8) (hl : l.length ≤ 1048576) :
    Calls Tryz.prog 88 #[.pointer (some ⟨G, 0, none⟩), .string (bs l)] w fun e w' => Did w w' G F e (S.remove l) := by
  have hb := one_step w (.cells #[.string (bs l)] 9)
  have hM := h.below hb
  have q := Lib.hid (Fs_of_mem hM l hl)
  have qm := Lib.hid (Remove_step h hok hs l hl)
  unfold FsS.remove
  rcases S.of_cases l with ⟨h1, h2⟩ | ⟨h1, h2, h3⟩ | ⟨g, h1, h2, h3⟩
  all_goals
    rw [h1] at q ⊢
    simp only [ofVal] at q ⊢
    go_enter Tryz.func88, Tryz.ntmps88
    go_wp2_with fail
    refine q.out.mono ?_
    rintro e w' ⟨rfl, rfl⟩
  · go_wp2
    go_ret
    exact did_none hM hb _
  · go_wp2
    go_ret
    exact did_none hM hb _
  · go_wp2_with fail
    refine qm.out.mono ?_
    intro e w' hd
    have hR := Lib.hid hd
    obtain rfl := hd.form
    clear hd
    go_wp2
    go_ret
    exact hR.out

set_option maxRecDepth 100000 in
theorem Rename_do_any {b n p1 p2 p3 g : Nat} {D : DataW Unit} (l k : List UInt8) (hl : l.length ≤ maxLen) (hk : k.length ≤ maxLen) (hn : n < maxLen) (hD : Dir w b n D) (hp1 : w.cell? ⟨p1, 0, none⟩ = some (.string (bs l)))
    (hp2 : w.cell? ⟨p2, 0, none⟩ = some (.pointer (some ⟨g, 0, none⟩))) (hp3 : w.cell? ⟨p3, 0, none⟩ = some (.string (bs k))) :
    Calls Tryz.prog 158 #[.map (some b), .pointer (some ⟨p1, 0, none⟩), .pointer (some ⟨p2, 0, none⟩), .pointer (some ⟨p3, 0, none⟩)] w fun e w' =>
      e = .returned (.tuple #[]) ∧ Dir w' b (n + 1) ((D.del (.string l)).put (.string k) (.lit (.int .u64 (g : Int)))) ∧ w.grownBy w' (some b) := by
  unfold Dir at *
  have hkey := nameKey l hl
  have hkey2 := nameKey k hk
  have hb2 : ∀ p v, w.cell? ⟨p, 0, none⟩ = some v → p ≠ b := fun p v hp e => by
    subst e
    obtain ⟨es, clock, hb, _⟩ := hD
    simp [World.cell?, hb] at hp
  have n2 := hb2 _ _ hp2
  have n3 := hb2 _ _ hp3
  go_enter Tryz.func158, Tryz.ntmps158
  go_wp2_with (first | (at_delete; refine wpList_delete_own _ rfl _ _ 47 9 rfl 79 (string_keyed Tryz.underlying9) Tryz.underlying47 _ b n D rfl hD _ _ rfl hkey ?_; intro w1 hown1 hturn1; have d2 := (World.cell?_of_block (hturn1.grown.block p2 (World.block_lt_of_cell? _ _ hp2) (fun e => n2 (Option.some.inj e)))).trans hp2; have d3 := (World.cell?_of_block (hturn1.grown.block p3 (World.block_lt_of_cell? _ _ hp3) (fun e => n3 (Option.some.inj e)))).trans hp3) | (at_mapUpdate; refine wpList_mapUpdate_own _ rfl _ _ _ 47 rfl 9 79 (string_keyed Tryz.underlying9) Tryz.underlying47 ptrR b n _ rfl hown1 hn _ _ _ rfl rfl hkey2 (.lit (.int .u64 (g : Int))) [] rfl ?_; intro w2 hown2 hgrow2))
  go_end0
  exact ⟨rfl, hown2, grown_trans' hturn1.grown hgrow2⟩

/-- Rename's step, its names and the file's address boxed. -/
theorem Rename_step (h : FsMem w G S F) (hok : S.ok) (hs : S.steps ≤ 500000) (l k : List UInt8) (hl : l.length ≤ 1048576) (hk : k.length ≤ 1048576) {g : Nat} (hg : S.names.at l = some g) {w0 : World} (hb : Below w0.heap.size w0 w) {p1 p2 p3 : Nat}
    (hp1 : w.cell? ⟨p1, 0, none⟩ = some (.string (bs l))) (hp2 : w.cell? ⟨p2, 0, none⟩ = some (.pointer (some ⟨g, 0, none⟩))) (hp3 : w.cell? ⟨p3, 0, none⟩ = some (.string (bs k))) (n1 : p1 ≠ G) (n2 : p2 ≠ G) (n3 : p3 ≠ G) :
    Calls Tryz.prog 152 #[.pointer (some ⟨G, 0, none⟩), .func (.func 158) #[] #[.pointer (some ⟨p1, 0, none⟩), .pointer (some ⟨p2, 0, none⟩), .pointer (some ⟨p3, 0, none⟩)]] w fun e w' =>
      Did w0 w' G F e (S.step fun T => T.moved ((T.names.del l).put k g)) := by
  refine (Fs_move_args (fun b => #[.map (some b), .pointer (some ⟨p1, 0, none⟩), .pointer (some ⟨p2, 0, none⟩), .pointer (some ⟨p3, 0, none⟩)]) (fun _ => rfl) (fun N => N = (S.names.del l).put k g) h hok hs (fun b W => by go_simp) ?_).mono ?_
  · intro w1 b hkk hbb hD
    have := (hok.dirs S.names (by simp [FsS.dirs])).2
    refine (Rename_do_any l k (by unfold maxLen; omega) (by unfold maxLen; omega) (by unfold maxLen; omega) hD (hkk.cell hp1 n1) (hkk.cell hp2 n2) (hkk.cell hp3 n3)).mono ?_
    rintro e w' ⟨rfl, hD', hg'⟩
    refine ⟨rfl, _, rfl, ?_, hg', ?_⟩
    · rw [← Nm.data_del, ← Nm.data_put] at hD'
      exact hD'.tight
    · intro i hi
      obtain ⟨p, hp, rfl⟩ := List.mem_map.1 hi
      rcases Nm.mem_put.1 hp with rfl | hp
      · exact .inl ⟨S.names, by simp [FsS.dirs], Nm.at_ids hg⟩
      · exact .inl ⟨S.names, by simp [FsS.dirs], List.mem_map.2 ⟨p, (Nm.mem_del.1 hp.1).1, rfl⟩⟩
  · intro e w' hst
    obtain ⟨F', h1, h2⟩ := hst.before hb
    unfold FsS.step
    rcases h2 with ⟨h0, he, hM⟩ | ⟨h0, he, T, ⟨N, rfl, rfl⟩, hM⟩
    · rw [if_pos h0]
      exact ⟨F', h1, he, hM⟩
    · rw [if_neg h0]
      exact ⟨F', h1, he, hM⟩

theorem boxes2 (w : World) (a b : Value) (s t : TypeId) : Below w.heap.size w ((w.alloc (.cells #[a] s)).alloc (.cells #[b] t)) ∧
    ((w.alloc (.cells #[a] s)).alloc (.cells #[b] t)).cell? ⟨w.heap.size, 0, none⟩ = some a ∧ ((w.alloc (.cells #[a] s)).alloc (.cells #[b] t)).cell? ⟨w.heap.size + 1, 0, none⟩ = some b := by
  have h2 : Blk ((w.alloc (.cells #[a] s)).alloc (.cells #[b] t)) (w.heap.size + 1) t #[b] := by
    have := Blk.new (w.alloc (.cells #[a] s)) t #[b]
    rwa [World.size_alloc] at this
  exact ⟨((Below.refl _ w).alloc (Nat.le_refl _) _).alloc (by simp) _, (Blk.cell (Blk.alloc (Blk.new w _ _) _) 0).trans rfl, (Blk.cell h2 0).trans rfl⟩
theorem boxes3 (w : World) (a b c : Value) (s t u : TypeId) : Below w.heap.size w (((w.alloc (.cells #[a] s)).alloc (.cells #[b] t)).alloc (.cells #[c] u)) ∧
    (((w.alloc (.cells #[a] s)).alloc (.cells #[b] t)).alloc (.cells #[c] u)).cell? ⟨w.heap.size, 0, none⟩ = some a ∧ (((w.alloc (.cells #[a] s)).alloc (.cells #[b] t)).alloc (.cells #[c] u)).cell? ⟨w.heap.size + 1, 0, none⟩ = some b ∧
    (((w.alloc (.cells #[a] s)).alloc (.cells #[b] t)).alloc (.cells #[c] u)).cell? ⟨w.heap.size + 1 + 1, 0, none⟩ = some c := by
  obtain ⟨h1, h2, h3⟩ := boxes2 w a b s t
  have hs : ((w.alloc (.cells #[a] s)).alloc (.cells #[b] t)).heap.size = w.heap.size + 1 + 1 := by simp
  have h4 : Blk (((w.alloc (.cells #[a] s)).alloc (.cells #[b] t)).alloc (.cells #[c] u)) (w.heap.size + 1 + 1) u #[c] := by
    have := Blk.new ((w.alloc (.cells #[a] s)).alloc (.cells #[b] t)) u #[c]
    rwa [hs] at this
  have hk := one_step ((w.alloc (.cells #[a] s)).alloc (.cells #[b] t)) (.cells #[c] u)
  exact ⟨h1.trans (hk.mono (by rw [hs]; omega)), (Below.cell hk (World.block_lt_of_cell? _ _ h2)).trans h2, (Below.cell hk (World.block_lt_of_cell? _ _ h3)).trans h3, (Blk.cell h4 0).trans rfl⟩

set_option maxRecDepth 100000 in
set_option maxHeartbeats 1000000 in
theorem Fs_Rename_mem (h : FsMem w G S F) (hok : S.ok) (hs : S.steps ≤ 500000) (l k : List UInt8) (hl : l.length ≤ 1048576) (hk : k.length ≤ 1048576) :
    Calls Tryz.prog 95 #[.pointer (some ⟨G, 0, none⟩), .string (bs l), .string (bs k)] w fun e w' => Did w w' G F e (S.rename l k) := by
  have hG := h.lt _ h.gG
  have q : ∀ W, FsMem W G S F → Calls Tryz.prog 26 #[.pointer (some ⟨G, 0, none⟩), .string (bs l)] W fun e w' => e = .returned (ofVal (S.of l)) ∧ W = w' := fun W hW => Fs_of_mem hW l hl
  have qr := Lib.hid (right_any k)
  have HA := Lib.hid (h.below (boxes2 w (.string (bs l)) (.string (bs k)) 9 9).1)
  have stay : ∀ v r, Did w (((w.alloc (.cells #[.string (bs l)] 9)).alloc (.cells #[.string (bs k)] 9)).alloc (.cells #[v] 79)) G F (.returned (.int .i64 r)) (S, r) := fun v r =>
    did_none (h.below (boxes3 w _ _ v _ _ _).1) (boxes3 w _ _ v _ _ _).1 r
  have N0 := Lib.hid stay
  have qm : ∀ g, S.names.at l = some g → Calls Tryz.prog 152 #[.pointer (some ⟨G, 0, none⟩), .func (.func 158) #[] #[.pointer (some ⟨w.heap.size, 0, none⟩), .pointer (some ⟨w.heap.size + 1 + 1, 0, none⟩), .pointer (some ⟨w.heap.size + 1, 0, none⟩)]]
      (((w.alloc (.cells #[.string (bs l)] 9)).alloc (.cells #[.string (bs k)] 9)).alloc (.cells #[.pointer (some ⟨g, 0, none⟩)] 79)) fun e w' => Did w w' G F e (S.step fun T => T.moved ((T.names.del l).put k g)) := fun g hg => by
    obtain ⟨e1, e2, e3, e4⟩ := boxes3 w (.string (bs l)) (.string (bs k)) (.pointer (some ⟨g, 0, none⟩)) 9 9 79
    exact Rename_step (h.below e1) hok hs l k hl hk hg e1 e2 e4 e3 (by omega) (by omega) (by omega)
  unfold FsS.rename
  rcases S.of_cases l with ⟨h1, h2⟩ | ⟨h1, h2, h3⟩ | ⟨g, h1, h2, h3⟩
  · rw [h1] at q ⊢
    simp only [ofVal] at q ⊢
    have Q := Lib.hid q
    clear q stay qm
    go_enter Tryz.func95, Tryz.ntmps95
    go_wp2_with fail
    refine (Q.out _ HA.out).mono ?_
    rintro e w' ⟨rfl, rfl⟩
    go_wp2
    go_ret
    exact N0.out _ _
  · rw [h1] at q ⊢
    simp only [ofVal] at q ⊢
    have Q := Lib.hid q
    clear q stay qm
    go_enter Tryz.func95, Tryz.ntmps95
    go_wp2_with fail
    refine (Q.out _ HA.out).mono ?_
    rintro e w' ⟨rfl, rfl⟩
    go_wp2
    go_ret
    exact N0.out _ _
  · rw [h1] at q ⊢
    have QM := Lib.hid (qm g h3)
    simp only [ofVal] at q ⊢
    have Q := Lib.hid q
    clear q stay qm
    cases hr : rightN k with
    | false =>
      rw [show (!k.isEmpty && decide (k.length ≤ 40)) = false from hr] at qr
      go_enter Tryz.func95, Tryz.ntmps95
      go_wp2_with fail
      refine (Q.out _ HA.out).mono ?_
      rintro e w' ⟨rfl, rfl⟩
      go_wp2_with fail
      refine (qr.out _).mono ?_
      rintro e w' ⟨rfl, rfl⟩
      go_wp2
      go_ret
      exact N0.out _ _
    | true =>
      rw [show (!k.isEmpty && decide (k.length ≤ 40)) = true from hr] at qr
      go_enter Tryz.func95, Tryz.ntmps95
      go_wp2_with fail
      refine (Q.out _ HA.out).mono ?_
      rintro e w' ⟨rfl, rfl⟩
      go_wp2_with fail
      refine (qr.out _).mono ?_
      rintro e w' ⟨rfl, rfl⟩
      go_wp2_with fail
      refine QM.out.mono ?_
      intro e w' hd
      have hR := Lib.hid hd
      obtain rfl := hd.form
      clear hd
      go_wp2
      go_ret
      exact hR.out
end
end Go.Proofs.YtgagcncmlonciaaGreatDoor
