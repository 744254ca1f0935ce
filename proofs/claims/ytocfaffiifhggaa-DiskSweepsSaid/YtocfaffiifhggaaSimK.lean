/- Files on a machine: each call. -/
import Derived.Test.YtocfaffiifhggaaSimJ
namespace Go.Proofs.Ytocfaffiifhggaa
open Go.RowKit Go.Maps Go.WideMaps
attribute [local go_sem] bs_toList bs_size

/-- What a call comes to: the machine behind it, and its answer. -/
def Did (w w' : World) (G : Nat) (F : Nat → Prop) (e : Ending) (x : FsS × Int) : Prop := ∃ F', Turn w w' F F' ∧ e = .returned (.int .i64 x.2) ∧ FsMem w' G x.1 F'

theorem FsS.of_cases (S : FsS) (l : List UInt8) : (S.of l = .inr 13 ∧ S.dead = true) ∨ (S.of l = .inr 11 ∧ S.dead = false ∧ S.names.at l = none) ∨ ∃ g, S.of l = .inl g ∧ S.dead = false ∧ S.names.at l = some g := by
  unfold FsS.of
  cases hd : S.dead
  · cases hn : S.names.at l with
    | none => exact .inr (.inl ⟨by simp, rfl, rfl⟩)
    | some g => exact .inr (.inr ⟨g, by simp, rfl, rfl⟩)
  · exact .inl ⟨by simp, rfl⟩

def ofVal : Nat ⊕ Int → Value
  | .inl g => .tuple #[.pointer (some ⟨g, 0, none⟩), .int .i64 0]
  | .inr e => .tuple #[.pointer none, .int .i64 e]

section
variable {w : World} {G : Nat} {S : FsS} {F : Nat → Prop}

theorem Did.before {w0 : World} {e : Ending} {w' : World} {x : FsS × Int} (hk : Below w0.heap.size w0 w) (h : Did w w' G F e x) : Did w0 w' G F e x := by
  obtain ⟨F', h1, h2⟩ := h
  exact ⟨F', (Turn.of_below hk).trans h1, h2⟩
theorem did_none {w0 : World} (h : FsMem w G S F) (hb : Below w0.heap.size w0 w) (r : Int) : Did w0 w G F (.returned (.int .i64 r)) (S, r) := ⟨F, Turn.of_below hb, rfl, h⟩
theorem Stepped.did {w' : World} {e : Ending} {f : FsS → FsS} (h : Stepped w w' G S F e fun T => T = f S.tick) : Did w w' G F e (S.step f) := by
  obtain ⟨F', h1, h2⟩ := h
  unfold FsS.step
  rcases h2 with ⟨h0, he, hM⟩ | ⟨h0, he, T, rfl, hM⟩
  · rw [if_pos h0]; exact ⟨F', h1, he, hM⟩
  · rw [if_neg h0]; exact ⟨F', h1, he, hM⟩
theorem Did.form {e : Ending} {w' : World} {x : FsS × Int} (h : Did w w' G F e x) : e = .returned (.int .i64 x.2) := by
  obtain ⟨F', _, h2, _⟩ := h
  exact h2

theorem Fs_of_mem (h : FsMem w G S F) (l : List UInt8) (hl : l.length ≤ 1048576) :
    Calls Try.prog 23 #[.pointer (some ⟨G, 0, none⟩), .string (bs l)] w fun e w' => e = .returned (ofVal (S.of l)) ∧ w = w' := by
  obtain ⟨nb, sb, mv, mbs, chv, h⟩ := h
  refine (Fs_of_any S.names.data l (by unfold maxLen; omega) h.fs h.nm).mono ?_
  rintro e w' ⟨⟨v, rfl, hv⟩, rfl⟩
  refine ⟨?_, rfl⟩
  unfold ofV at hv
  rw [Nm.has_data, Nm.atKey_data] at hv
  rcases S.of_cases l with ⟨h1, h2⟩ | ⟨h1, h2, h3⟩ | ⟨g, h1, h2, h3⟩
  · rw [h2, if_pos rfl] at hv
    rw [h1, hv]
    rfl
  · rw [h2, h3, if_neg (by simp), if_pos Option.isSome_none] at hv
    rw [h1, hv]
    rfl
  · rw [h2, h3, if_neg (by simp), if_neg (by simp)] at hv
    obtain ⟨x, ps, hx, rfl⟩ := hv
    obtain ⟨g', e1, rfl⟩ := ptrR_lit hx
    rw [h1]
    obtain rfl : g = g' := by omega
    rfl

set_option maxRecDepth 100000 in
theorem Fs_Sync_mem (h : FsMem w G S F) (hok : S.ok) (hs : S.steps ≤ 500000) (l : List UInt8) (hl : l.length ≤ 1048576) :
    Calls Try.prog 42 #[.pointer (some ⟨G, 0, none⟩), .string (bs l)] w fun e w' => Did w w' G F e (S.sync l) := by
  have q := Lib.hid (Fs_of_mem h l hl)
  rcases S.of_cases l with ⟨h1, h2⟩ | ⟨h1, h2, h3⟩ | ⟨g, h1, h2, h3⟩
  all_goals
    unfold FsS.sync
    rw [h1]
    rw [h1] at q
    simp only [ofVal] at q
  · go_enter Try.func42, Try.ntmps42
    go_wp2_with fail
    refine q.out.mono ?_
    rintro e w' ⟨rfl, rfl⟩
    go_wp2
    go_ret
    exact did_none h (Below.refl _ _) _
  · go_enter Try.func42, Try.ntmps42
    go_wp2_with fail
    refine q.out.mono ?_
    rintro e w' ⟨rfl, rfl⟩
    go_wp2
    go_ret
    exact did_none h (Below.refl _ _) _
  · have q2 : Calls Try.prog 28 #[.pointer (some ⟨G, 0, none⟩), .func (.func 58) #[.pointer (some ⟨g, 0, none⟩)] #[]] w fun e w' => Did w w' G F e (S.step fun T => T.setFl g (T.fl g).sync) := by
      refine (Fs_step_mem 58 _ #[] #[.pointer (some ⟨g, 0, none⟩)] Array.append_empty (fun T => T = S.tick.setFl g (S.tick.fl g).sync) (fun W => by go_simp) h hok hs ?_).mono fun e w' h => h.did
      rintro w1 ⟨nb, sb, mv, mbs, chv, h1⟩ hk
      have hlive : S.tick.live g := h1.liveN h3
      refine (file_sync_any (h1.fl g hlive).1).mono ?_
      rintro e w' ⟨rfl, hF, hg⟩
      obtain ⟨F', e1, e2⟩ := h1.file (x := (S.tick.fl g).sync) hlive hF (World.ownsRow_nil _ _ _ _) (fun k hk => by cases hk) ((Kept.of_grown hg fun k hk => .inl (Option.some.inj hk).symm))
      exact ⟨rfl, _, F', rfl, ⟨_, _, _, _, _, e1⟩, e2⟩
    have Q2 := Lib.hid q2
    have H := Lib.hid h
    clear q2 h
    go_enter Try.func42, Try.ntmps42
    go_wp2_with fail
    refine q.out.mono ?_
    rintro e w' ⟨rfl, rfl⟩
    go_wp2_with fail
    refine Q2.out.mono ?_
    intro e w' hd
    have hD := Lib.hid hd
    obtain rfl := hd.form
    clear hd
    go_wp2
    go_ret
    exact hD.out

set_option maxRecDepth 100000 in
theorem Fs_Read_mem (h : FsMem w G S F) (l : List UInt8) (hl : l.length ≤ 1048576) :
    Calls Try.prog 14 #[.pointer (some ⟨G, 0, none⟩), .string (bs l)] w fun e w' => e = .returned (.tuple #[.string (bs (S.read l).1), .int .i64 (S.read l).2]) ∧ w = w' := by
  have q := Lib.hid (Fs_of_mem h l hl)
  rcases S.of_cases l with ⟨h1, h2⟩ | ⟨h1, h2, h3⟩ | ⟨g, h1, h2, h3⟩
  all_goals
    unfold FsS.read
    rw [h1]
    rw [h1] at q
    simp only [ofVal] at q ⊢
  · go_enter Try.func14, Try.ntmps14
    go_wp2_with fail
    refine q.out.mono ?_
    rintro e w' ⟨rfl, rfl⟩
    go_wp2
    go_ret2
    exact ⟨rfl, rfl⟩
  · go_enter Try.func14, Try.ntmps14
    go_wp2_with fail
    refine q.out.mono ?_
    rintro e w' ⟨rfl, rfl⟩
    go_wp2
    go_ret2
    exact ⟨rfl, rfl⟩
  · obtain ⟨nb, sb, mv, mbs, chv, h⟩ := h
    obtain ⟨c0, c1, c2⟩ := (h.fl g (h.liveN h3)).1.c
    go_enter Try.func14, Try.ntmps14
    go_wp2_with fail
    refine q.out.mono ?_
    rintro e w' ⟨rfl, rfl⟩
    go_wp2
    go_ret2
    exact ⟨rfl, rfl⟩

theorem Fs_Room_mem (h : FsMem w G S F) (n : Int) :
    Calls Try.prog 18 #[.pointer (some ⟨G, 0, none⟩), .int .i64 n] w fun e w' => e = .returned (.tuple #[]) ∧ FsMem w' G (S.setRoom n) F ∧ Turn w w' F F := by
  obtain ⟨nb, sb, mv, mbs, chv, h⟩ := h
  refine (Fs_Room_any n h.fs).mono ?_
  rintro e w' ⟨rfl, h1, h2⟩
  exact ⟨rfl, ⟨_, _, _, _, _, h.head h2 h1⟩, Turn.of_kept (Kept.of_grown h2 fun k hk => Option.some.inj hk ▸ h.oG)⟩
theorem Fs_Fuse_mem (h : FsMem w G S F) (n : Int) :
    Calls Try.prog 21 #[.pointer (some ⟨G, 0, none⟩), .int .i64 n] w fun e w' => e = .returned (.tuple #[]) ∧ FsMem w' G (S.setFuse n) F ∧ Turn w w' F F := by
  obtain ⟨nb, sb, mv, mbs, chv, h⟩ := h
  refine (Fs_Fuse_any n h.fs).mono ?_
  rintro e w' ⟨rfl, h1, h2⟩
  exact ⟨rfl, ⟨_, _, _, _, _, h.head h2 h1⟩, Turn.of_kept (Kept.of_grown h2 fun k hk => Option.some.inj hk ▸ h.oG)⟩
theorem Fs_Steps_mem (h : FsMem w G S F) : Calls Try.prog 19 #[.pointer (some ⟨G, 0, none⟩)] w fun e w' => e = .returned (.int .i64 (S.steps : Int)) ∧ w = w' := by
  obtain ⟨nb, sb, mv, mbs, chv, h⟩ := h
  exact Fs_Steps_any h.fs
theorem Fs_Dead_mem (h : FsMem w G S F) : Calls Try.prog 22 #[.pointer (some ⟨G, 0, none⟩)] w fun e w' => e = .returned (.bool S.dead) ∧ w = w' := by
  obtain ⟨nb, sb, mv, mbs, chv, h⟩ := h
  exact Fs_Dead_any h.fs

theorem Fs_move_args {cf : FuncId} {cc : Array Value} (ar : Nat → Array Value) (ha : ∀ b, #[.map (some b)] ++ cc = ar b) (RN : Nm → Prop) (h : FsMem w G S F) (hok : S.ok) (hs : S.steps ≤ 500000)
    (hcf : ∀ b W, (callFunc cf (ar b)).run Try.prog W = .ok (.enter cf (ar b)) W)
    (hch : ∀ w1 b, Kept w w1 (fun k => k = G) → w.heap.size ≤ b → Dir w1 b S.names.length S.names.data → Calls Try.prog cf (ar b) w1 fun e w' => e = .returned (.tuple #[]) ∧
      ∃ N : Nm, RN N ∧ Dir w' b N.length N.data ∧ w1.grownBy w' (some b) ∧ ∀ g ∈ N.ids, S.live g ∨ (w1.heap.size ≤ g ∧ FileAt w' g [] [] (.slice none 0 0))) :
    Calls Try.prog 25 #[.pointer (some ⟨G, 0, none⟩), .func (.func cf) #[] cc] w fun e w' => Stepped w w' G S F e fun T => ∃ N, RN N ∧ T = S.tick.moved N :=
  Fs_move_any RN h hok hs (fun b W => by rw [ha]; exact hcf b W) fun w1 b e1 e2 e3 => by rw [ha]; exact hch w1 b e1 e2 e3
end
end Go.Proofs.Ytocfaffiifhggaa
