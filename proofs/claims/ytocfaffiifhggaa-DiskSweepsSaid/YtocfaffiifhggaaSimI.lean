/- Files on a machine: a step that lets names be others; then each call. -/
import Derived.Test.YtocfaffiifhggaaSimH
namespace Go.Proofs.Ytocfaffiifhggaa
open Go.RowKit Go.Maps Go.WideMaps
attribute [local go_sem] bs_toList bs_size

theorem FsAt.steps_eq {w : World} {G nb sb : Nat} {mv : Value} {room s s' fuse : Int} {dead : Bool} (h : FsAt w G nb sb mv room s fuse dead) (e : s = s') : FsAt w G nb sb mv room s' fuse dead := e ▸ h

/-- What a step comes to. -/
def Stepped (w w' : World) (G : Nat) (S : FsS) (F : Nat → Prop) (e : Ending) (R : FsS → Prop) : Prop :=
  ∃ F', Turn w w' F F' ∧ ((S.fuse = 0 ∧ e = .returned (.int .i64 13) ∧ FsMem w' G S.die F') ∨ (S.fuse ≠ 0 ∧ e = .returned (.int .i64 0) ∧ ∃ T, R T ∧ FsMem w' G T F'))

section
variable {w : World} {G : Nat} {S : FsS} {F : Nat → Prop}

/-- A step, by what is done in it. -/
theorem Fs_step_mem (f : FuncId) (bd cp capt : Array Value) (ha : bd ++ cp = capt) (R : FsS → Prop) (hcf : ∀ W, (callFunc f capt).run Try.prog W = .ok (.enter f capt) W) (h : FsMem w G S F) (hok : S.ok) (hs : S.steps ≤ 500000)
    (hdo : ∀ w1, FsMem w1 G S.tick F → Kept w w1 (fun k => k = G) → Calls Try.prog f capt w1 fun e w' => e = .returned (.tuple #[]) ∧ ∃ T F', R T ∧ FsMem w' G T F' ∧ Turn w1 w' F F') :
    Calls Try.prog 28 #[.pointer (some ⟨G, 0, none⟩), .func (.func f) bd cp] w fun e w' => Stepped w w' G S F e R := by
  obtain ⟨nb, sb, mv, mbs, chv, h⟩ := h
  by_cases h0 : S.fuse = 0
  · have hF := h.fs
    rw [h0] at hF
    refine (Fs_step_dead f bd cp hF).mono ?_
    rintro e w' ⟨rfl, h1, h2⟩
    have h3 := h.head h2 h1
    refine ⟨F, Turn.of_kept (Kept.of_grown h2 fun k hk => Option.some.inj hk ▸ h.oG), .inl ⟨h0, rfl, nb, sb, mv, mbs, chv, ?_⟩⟩
    unfold FsS.die
    rw [show S = { S with fuse := 0 } by cases S; simp at h0; simp [h0]]
    exact h3
  · refine (Fs_step_any f bd cp capt ha (fun w' => ∃ T F', R T ∧ FsMem w' G T F' ∧ Turn w w' F F') hcf h.fs h0 hok.fuse1 hok.fuse2 (by omega) (by omega) ?_).mono ?_
    · intro w1 h1 h2
      have hk : Kept w w1 (fun k => k = G) := Kept.of_grown h2 fun k hk => (Option.some.inj hk).symm
      have h3 := h.head h2 (h1.steps_eq (s' := ((S.steps + 1 : Nat) : Int)) (by omega))
      refine (hdo w1 ⟨nb, sb, mv, mbs, chv, h3⟩ hk).mono ?_
      rintro e w' ⟨rfl, T, F', h4, h5, h6⟩
      exact ⟨rfl, T, F', h4, h5, (Turn.of_kept (hk.weaken fun k hk => hk ▸ h.oG)).trans h6⟩
    · rintro e w' ⟨rfl, T, F', h4, h5, h6⟩
      exact ⟨F', h6, .inr ⟨h0, rfl, T, h4, h5⟩⟩

theorem FsS.ok.tick_moves (hok : S.ok) (hs : S.steps ≤ 500000) : S.tick.moves.length ≤ 1000000 := by
  have := hok.moves
  show S.moves.length ≤ _
  omega

theorem Stepped.before {w0 : World} {e : Ending} {w' : World} {R : FsS → Prop} (hk : Below w0.heap.size w0 w) (h : Stepped w w' G S F e R) : Stepped w0 w' G S F e R := by
  obtain ⟨F', h1, h2⟩ := h
  exact ⟨F', (Turn.of_below hk).trans h1, h2⟩

set_option maxRecDepth 100000 in
theorem Fs_move_any {cf : FuncId} {cc : Array Value} (RN : Nm → Prop) (h : FsMem w G S F) (hok : S.ok) (hs : S.steps ≤ 500000)
    (hcf : ∀ b W, (callFunc cf (#[.map (some b)] ++ cc)).run Try.prog W = .ok (.enter cf (#[.map (some b)] ++ cc)) W)
    (hch : ∀ w1 b, Kept w w1 (fun k => k = G) → w.heap.size ≤ b → Dir w1 b S.names.length S.names.data → Calls Try.prog cf (#[.map (some b)] ++ cc) w1 fun e w' => e = .returned (.tuple #[]) ∧
      ∃ N : Nm, RN N ∧ Dir w' b N.length N.data ∧ w1.grownBy w' (some b) ∧ ∀ g ∈ N.ids, S.live g ∨ (w1.heap.size ≤ g ∧ FileAt w' g [] [] (.slice none 0 0))) :
    Calls Try.prog 25 #[.pointer (some ⟨G, 0, none⟩), .func (.func cf) #[] cc] w fun e w' => Stepped w w' G S F e fun T => ∃ N, RN N ∧ T = S.tick.moved N := by
  have hlt := h.lt
  have hb2 : Below w.heap.size w ((w.alloc (.cells #[.pointer (some ⟨G, 0, none⟩)] 24)).alloc (.cells #[.func (.func cf) #[] cc] 58)) := ((Below.refl _ w).alloc (Nat.le_refl _) _).alloc (by simp) _
  have hp2 : Blk ((w.alloc (.cells #[.pointer (some ⟨G, 0, none⟩)] 24)).alloc (.cells #[.func (.func cf) #[] cc] 58)) w.heap.size 24 #[.pointer (some ⟨G, 0, none⟩)] := Blk.alloc (Blk.new w _ _) _
  have hp3 : Blk ((w.alloc (.cells #[.pointer (some ⟨G, 0, none⟩)] 24)).alloc (.cells #[.func (.func cf) #[] cc] 58)) (w.heap.size + 1) 58 #[.func (.func cf) #[] cc] := by
    have := Blk.new (w.alloc (.cells #[.pointer (some ⟨G, 0, none⟩)] 24)) 58 #[.func (.func cf) #[] cc]
    rwa [World.size_alloc] at this
  have q : ∀ W2, Below w.heap.size w W2 → Blk W2 w.heap.size 24 #[.pointer (some ⟨G, 0, none⟩)] → Blk W2 (w.heap.size + 1) 58 #[.func (.func cf) #[] cc] →
      Calls Try.prog 28 #[.pointer (some ⟨G, 0, none⟩), .func (.func 50) #[] #[.pointer (some ⟨w.heap.size, 0, none⟩), .pointer (some ⟨w.heap.size + 1, 0, none⟩)]] W2 fun e w' => Stepped w w' G S F e fun T => ∃ N, RN N ∧ T = S.tick.moved N := by
    intro W2 hB hP2 hP3
    refine (Fs_step_mem 50 #[] _ _ Array.empty_append (fun T => ∃ N, RN N ∧ T = S.tick.moved N) (fun W => ?_) (h.below hB) hok hs ?_).mono fun e w' hst => hst.before hB
    · go_simp
    · rintro w1 ⟨nb, sb, mv, mbs, chv, h1⟩ hk
      have hG : G < w.heap.size := hlt _ h.gG
      refine (Fs_move_do_any (cf := cf) (cc := cc) RN h1 (hok.tick_moves hs) (Blk.keptK hP2 hk (by omega)) (Blk.keptK hP3 hk (by omega)) hcf ?_).mono ?_
      · intro w2 b hk2 hb hD
        have hkk : Kept w w2 (fun k => k = G) := ((Kept.of_below hB).trans hk).trans hk2
        refine (hch w2 b hkk (Nat.le_trans (Nat.le_trans hB.size hk.size) hb) hD).mono ?_
        rintro e w' ⟨rfl, N, hN, hD', hg, hids⟩
        exact ⟨rfl, N, hN, hD', hg, fun g hg => (hids g hg).imp id fun ⟨e1, e2⟩ => ⟨Nat.le_trans hk2.size e1, e2⟩⟩
      · rintro e w' ⟨rfl, N, F', hN, hM, hT⟩
        exact ⟨rfl, _, F', ⟨N, hN, rfl⟩, hM, hT⟩
  have Q := Lib.hid (q _ hb2 hp2 hp3)
  clear q hcf hch hb2 hp2 hp3 hlt
  go_enter Try.func25, Try.ntmps25
  go_wp2_with fail
  refine Q.out.mono ?_
  rintro e w' ⟨F', hT, hcase⟩
  rcases hcase with ⟨h0, rfl, hM⟩ | ⟨h0, rfl, T, hR, hM⟩
  · go_wp2
    go_ret
    exact ⟨F', hT, .inl ⟨h0, rfl, hM⟩⟩
  · have HR := Lib.hid hR
    clear hR
    go_wp2
    go_ret
    exact ⟨F', hT, .inr ⟨h0, rfl, T, HR.out, hM⟩⟩
end
end Go.Proofs.Ytocfaffiifhggaa
