/- The laws on machines: the document's example. -/
import Derived.Test.YtphkmhajjnnbaaaSimY
namespace Go.Proofs.Ytphkmhajjnnbaaa
open Go.RowKit Go.Maps Go.WideMaps
attribute [local go_sem] bs_toList bs_size

def xN : List UInt8 := [120]
def abc : List UInt8 := [97, 98, 99]
theorem ex1 (g : Nat) : (FsS.new 100).create xN g = (⟨[(xN, g)], [], [[(xN, g)]], fun _ => Fl.new, 100, 1, -1, false⟩, 0) := rfl
theorem ex2 (g : Nat) : FsS.append ⟨[(xN, g)], [], [[(xN, g)]], fun _ => Fl.new, 100, 1, -1, false⟩ xN abc = (⟨[(xN, g)], [], [[(xN, g)]], fun k => if k = g then ⟨[], abc, [.app abc]⟩ else Fl.new, 100, 2, -1, false⟩, 0) := rfl
def exFl (g : Nat) : Nat → Fl := fun k => if k = g then ⟨abc, abc, []⟩ else if k = g then ⟨[], abc, [.app abc]⟩ else Fl.new
theorem ex3 (g : Nat) : FsS.sync ⟨[(xN, g)], [], [[(xN, g)]], fun k => if k = g then ⟨[], abc, [.app abc]⟩ else Fl.new, 100, 2, -1, false⟩ xN =
    (⟨[(xN, g)], [], [[(xN, g)]], exFl g, 100, 3, -1, false⟩, 0) := by
  simp [FsS.sync, FsS.of, FsS.step, FsS.tick, FsS.setFl, Nm.at, Fl.sync]
  exact ⟨rfl, by omega⟩
theorem ex3s (g : Nat) : FsS.size ⟨[(xN, g)], [], [[(xN, g)]], exFl g, 100, 3, -1, false⟩ = 3 := by simp [FsS.size, sizeIn, exFl, abc]
theorem ex4 (g : Nat) : FsS.crash ⟨[(xN, g)], [], [[(xN, g)]], exFl g, 100, 3, -1, false⟩ [] = ⟨[], [], [], exFl g, 100, 3, -1, false⟩ := rfl
theorem ex5 (g : Nat) (fl : Nat → Fl) : FsS.create ⟨[], [], [], fl, 100, 3, -1, false⟩ xN g = (⟨[(xN, g)], [], [[(xN, g)]], fl, 100, 4, -1, false⟩, 0) := rfl
theorem ex6 (g : Nat) (fl : Nat → Fl) : FsS.syncDir ⟨[(xN, g)], [], [[(xN, g)]], fl, 100, 4, -1, false⟩ = (⟨[(xN, g)], [(xN, g)], [], fl, 100, 5, -1, false⟩, 0) := rfl
theorem ex7 (g : Nat) (fl : Nat → Fl) (h : fl g = Fl.new) : FsS.append ⟨[(xN, g)], [(xN, g)], [], fl, 100, 5, -1, false⟩ xN abc = (⟨[(xN, g)], [(xN, g)], [], fun k => if k = g then ⟨[], abc, [.app abc]⟩ else fl k, 100, 6, -1, false⟩, 0) := by
  simp [FsS.append, FsS.of, FsS.step, FsS.tick, FsS.setFl, Nm.at, Fl.do, FsS.size, sizeIn, h, Fl.new, abc, Chg.to]
  try omega
theorem ex8 (g : Nat) (fl : Nat → Fl) : (FsS.crash ⟨[(xN, g)], [(xN, g)], [], fun k => if k = g then ⟨[], abc, [.app abc]⟩ else fl k, 100, 6, -1, false⟩ [1, 0, 2]).read xN = ([97, 98], 0) := by
  simp [FsS.crash, FsS.crashDir, crashFl, keptN, absN, FsS.read, FsS.of, Nm.at, Fl.survive, Fl.left, replay, Chg.part, abc]
theorem ex8s (g : Nat) (fl : Nat → Fl) : (FsS.crash ⟨[(xN, g)], [(xN, g)], [], fl, 100, 6, -1, false⟩ [1, 0, 2]).names.keys.length = 1 := by simp [FsS.crash, FsS.crashDir, keptN, absN, Nm.keys]

/-- A machine in the midst of a law. -/
structure Mach (W w : World) (G : Nat) (S : FsS) (F : Nat → Prop) : Prop where
  mem : FsMem w G S F
  bel : Below W.heap.size W w
  base : ∀ k, F k → W.heap.size ≤ k
  ok : S.ok
section
variable {W w w' : World} {G : Nat} {S T : FsS} {F F' : Nat → Prop}
theorem Mach.turn (m : Mach W w G S F) (h : FsMem w' G T F') (ht : Turn w w' F F') (hok : T.ok) : Mach W w' G T F' :=
  ⟨h, m.bel.trans (ht.kept.below m.bel.size m.base), fun k hk => (ht.grow k hk).elim (m.base k) fun e => Nat.le_trans m.bel.size e, hok⟩
theorem Mach.below (m : Mach W w G S F) (h : Below w.heap.size w w') : Mach W w' G S F := ⟨m.mem.below h, m.bel.trans (h.mono m.bel.size), m.base, m.ok⟩
theorem Mach.did {e : Ending} {x : FsS × Int} (m : Mach W w G S F) (h : Did w w' G F e x) (hok : x.1.ok) : ∃ F', Mach W w' G x.1 F' := by
  obtain ⟨F', h1, _, h3⟩ := h
  exact ⟨F', m.turn h3 h1 hok⟩
end

theorem nil_keep (w : World) : KeepAt w (.slice none 0 0) [] := ⟨none, 0, rfl, by simp, fun i x h => by simp at h⟩

set_option maxRecDepth 100000 in
set_option maxHeartbeats 4000000 in
theorem works_any (W : World) : Calls Try.prog 8 #[] W fun e w' => e = .returned (.bool true) ∧ Below W.heap.size W w' := by
  go_enter Try.func8, Try.ntmps8
  have q := Lib.hid (New_any W 100)
  go_wp2_with fail
  refine q.out.mono ?_
  rintro e w1 ⟨G, F1, rfl, hM, hT, hF⟩
  have m1 : Mach W w1 G (FsS.new 100) F1 := ⟨hM, hT.kept.below (Nat.le_refl _) (fun k hk => hk.elim), hF, new_ok 100⟩
  clear hM hT hF q
  have q := Lib.hid (show Calls Try.prog 23 #[.pointer (some ⟨G, 0, none⟩), .string ⟨#[120]⟩] w1 _ from Fs_Create_mem m1.mem m1.ok (by show 0 ≤ 500000; omega) xN (by simp [xN]))
  go_wp2_with fail
  refine q.out.mono ?_
  rintro e w2 ⟨g, hg, hd⟩
  obtain ⟨F2, m2⟩ := m1.did hd (m1.ok.create _ hg)
  rw [ex1] at hd m2
  obtain rfl := hd.form
  clear hd q hg m1
  simp only at m2 ⊢
  have q := Lib.hid (show Calls Try.prog 24 #[.pointer (some ⟨G, 0, none⟩), .string ⟨#[120]⟩, .string ⟨#[97, 98, 99]⟩] w2 _ from Fs_Append_mem m2.mem m2.ok (by show 1 ≤ 500000; omega) xN abc (by simp [xN]) (by simp [abc]))
  go_wp2_with fail
  refine q.out.mono ?_
  intro e w3 hd
  obtain ⟨F3, m3⟩ := m2.did hd (m2.ok.append _ _ (by simp [abc]))
  rw [ex2] at hd m3
  obtain rfl := hd.form
  clear hd q m2
  simp only at m3 ⊢
  have q := Lib.hid (show Calls Try.prog 20 #[.pointer (some ⟨G, 0, none⟩), .string ⟨#[120]⟩] w3 _ from Fs_Sync_mem m3.mem m3.ok (by show 2 ≤ 500000; omega) xN (by simp [xN]))
  go_wp2_with fail
  refine q.out.mono ?_
  intro e w4 hd
  obtain ⟨F4, m4⟩ := m3.did hd (m3.ok.sync _)
  rw [ex3] at hd m4
  obtain rfl := hd.form
  clear hd q m3
  simp only at m4 ⊢
  have q := Lib.hid (Fs_Size_mem m4.mem m4.ok (by show 3 ≤ 500000; omega))
  rw [show FsS.size _ = 3 from ex3s g] at q
  go_wp2_with fail
  refine q.out.mono ?_
  rintro e w5 ⟨rfl, hb⟩
  have m5 := m4.below hb
  clear m4 hb q
  have q := Lib.hid (Fs_Crash_mem (v := .slice none 0 0) (ks := []) m5.mem m5.ok (by show 3 ≤ 500000; omega) fun w' F' _ => nil_keep w')
  go_wp2_with fail
  refine q.out.mono ?_
  rintro e w6 ⟨rfl, F6, hM, hT⟩
  have m6 := m5.turn hM hT (m5.ok.crash [])
  rw [show FsS.crash _ [] = _ from ex4 g] at m6
  clear m5 hM hT q
  have q := Lib.hid (show Calls Try.prog 14 #[.pointer (some ⟨G, 0, none⟩), .string ⟨#[120]⟩] w6 (fun e w' => e = .returned (.tuple #[.string (bs []), .int .i64 11]) ∧ w6 = w') from Fs_Read_mem m6.mem xN (by simp [xN]))
  go_wp2_with fail
  refine q.out.mono ?_
  rintro e w7 ⟨rfl, rfl⟩
  clear q
  have q := Lib.hid (show Calls Try.prog 23 #[.pointer (some ⟨G, 0, none⟩), .string ⟨#[120]⟩] w6 _ from Fs_Create_mem m6.mem m6.ok (by show 3 ≤ 500000; omega) xN (by simp [xN]))
  go_wp2_with fail
  refine q.out.mono ?_
  rintro e w8 ⟨g1, hg, hd⟩
  obtain ⟨F8, m8⟩ := m6.did hd (m6.ok.create _ hg)
  have hnew : exFl g g1 = Fl.new := hg.2
  rw [ex5] at hd m8
  obtain rfl := hd.form
  clear hd q hg m6
  simp only at m8 ⊢
  have q := Lib.hid (Fs_SyncDir_mem m8.mem m8.ok (by show 4 ≤ 500000; omega))
  go_wp2_with fail
  refine q.out.mono ?_
  intro e w9 hd
  obtain ⟨F9, m9⟩ := m8.did hd m8.ok.syncDir
  rw [ex6] at hd m9
  obtain rfl := hd.form
  clear hd q m8
  simp only at m9 ⊢
  have q := Lib.hid (show Calls Try.prog 24 #[.pointer (some ⟨G, 0, none⟩), .string ⟨#[120]⟩, .string ⟨#[97, 98, 99]⟩] w9 _ from Fs_Append_mem m9.mem m9.ok (by show 5 ≤ 500000; omega) xN abc (by simp [xN]) (by simp [abc]))
  go_wp2_with fail
  refine q.out.mono ?_
  intro e w10 hd
  obtain ⟨F10, m10⟩ := m9.did hd (m9.ok.append _ _ (by simp [abc]))
  rw [ex7 g1 _ hnew] at hd m10
  obtain rfl := hd.form
  clear hd q m9 hnew
  simp only at m10 ⊢
  go_wp2_with fail
  have hkeep : ∀ w' F', Turn (w10.alloc (.cells #[.int .i64 1, .int .i64 0, .int .i64 2] 3)) w' F10 F' → KeepAt w' (.slice (some ⟨w10.heap.size, 0, none⟩) 3 3) [1, 0, 2] := fun w' F' ht => by
    have hB : Blk (w10.alloc (.cells #[.int .i64 1, .int .i64 0, .int .i64 2] 3)) w10.heap.size 3 #[.int .i64 1, .int .i64 0, .int .i64 2] := Blk.new _ _ _
    have hlt := m10.mem.lt
    have hB' := Blk.keptK hB ht.kept (fun h => by have := hlt _ h; omega)
    refine ⟨some ⟨w10.heap.size, 0, none⟩, 3, rfl, by simp [maxLen], fun i x hx => ?_⟩
    have hc := Blk.cell hB' i
    match i, hx with
    | 0, hx =>
      obtain rfl : 1 = x := by simpa using hx
      exact ⟨_, 0, rfl, by simpa using hc, by omega, by omega⟩
    | 1, hx =>
      obtain rfl : 0 = x := by simpa using hx
      exact ⟨_, 0, rfl, by simpa using hc, by omega, by omega⟩
    | 2, hx =>
      obtain rfl : 2 = x := by simpa using hx
      exact ⟨_, 0, rfl, by simpa using hc, by omega, by omega⟩
  have Q := Lib.hid (Fs_Crash_mem (v := .slice (some ⟨w10.heap.size, 0, none⟩) 3 3) (ks := [1, 0, 2]) (m10.below (one_step w10 _)).mem m10.ok (by show 6 ≤ 500000; omega) hkeep)
  clear hkeep
  refine Q.out.mono ?_
  rintro e w11 ⟨rfl, F11, hM, hT⟩
  have m11 := (m10.below (one_step w10 _)).turn hM hT (m10.ok.crash _)
  clear m10 hM hT Q
  have q := Lib.hid (show Calls Try.prog 14 #[.pointer (some ⟨G, 0, none⟩), .string ⟨#[120]⟩] w11 _ from Fs_Read_mem m11.mem xN (by simp [xN]))
  rw [ex8] at q
  go_wp2_with fail
  refine q.out.mono ?_
  rintro e w12 ⟨rfl, rfl⟩
  clear q
  have he : (bs [97, 98] == (⟨#[97, 98]⟩ : ByteArray)) = true := by decide +kernel
  have q := Lib.hid (Fs_Steps_mem m11.mem)
  go_wp2_with fail
  refine q.out.mono ?_
  rintro e w12 ⟨rfl, rfl⟩
  clear q
  simp only [show (FsS.crash ⟨[(xN, g1)], [(xN, g1)], [], fun k => if k = g1 then ⟨[], abc, [.app abc]⟩ else exFl g k, 100, 6, -1, false⟩ [1, 0, 2]).steps = 6 from rfl]
  have q := Lib.hid (Fs_List_mem m11.mem m11.ok)
  go_wp2_with fail
  refine q.out.mono ?_
  rintro e w13 ⟨⟨lv, rfl, hT⟩, hb⟩
  obtain ⟨la, lc, rfl, _⟩ := hT.form
  rw [ex8s]
  have m13 := m11.below hb
  clear m11 hb hT q
  have q := Lib.hid (Fs_Dead_mem m13.mem)
  go_wp2_with fail
  refine q.out.mono ?_
  rintro e w14 ⟨rfl, rfl⟩
  clear q
  simp only [show (FsS.crash ⟨[(xN, g1)], [(xN, g1)], [], fun k => if k = g1 then ⟨[], abc, [.app abc]⟩ else exFl g k, 100, 6, -1, false⟩ [1, 0, 2]).dead = false from rfl]
  go_wp2
  go_ret
  exact ⟨rfl, m13.bel⟩
end Go.Proofs.Ytphkmhajjnnbaaa
