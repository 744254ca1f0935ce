/- The laws on machines: an act. -/
import Derived.Test.YtphkmhajjnnbaaaSimX
namespace Go.Proofs.Ytphkmhajjnnbaaa
open Go.RowKit Go.Maps Go.WideMaps
attribute [local go_sem] bs_toList bs_size

def ActPost (w : World) (G : Nat) (S : FsS) (F : Nat → Prop) (a : ActD) (e : Ending) (w' : World) : Prop := ∃ T r F', e = .returned (.int .i64 r) ∧ ActStep S a (T, r) ∧ FsMem w' G T F' ∧ Turn w w' F F'

theorem Did.act {w0 w w' : World} {G : Nat} {S : FsS} {F : Nat → Prop} {a : ActD} {e : Ending} {x : FsS × Int} (h : Did w w' G F e x) (hb : Below w0.heap.size w0 w) (ha : ActStep S a x) : ActPost w0 G S F a e w' := by
  obtain ⟨F', h1, h2, h3⟩ := h.before hb
  obtain ⟨T, r⟩ := x
  exact ⟨T, r, F', h2, ha, h3, h1⟩
theorem ActPost.form {w w' : World} {G : Nat} {S : FsS} {F : Nat → Prop} {a : ActD} {e : Ending} (h : ActPost w G S F a e w') : ∃ r, e = .returned (.int .i64 r) := by
  obtain ⟨T, r, F', h1, _⟩ := h
  exact ⟨r, h1⟩

section
variable {w : World} {G : Nat} {S : FsS} {F : Nat → Prop}

set_option maxRecDepth 100000 in
set_option maxHeartbeats 4000000 in
theorem act_any {a : ActD} {kv : Value} (h : FsMem w G S F) (hok : S.ok) (hs : S.steps ≤ 500000) (ha : a.small) (hk : ∀ w' F', Turn w w' F F' → KeepAt w' kv a.Keep) :
    Calls Try.prog 11 #[.pointer (some ⟨G, 0, none⟩), .agg #[.int .i64 a.K, .string (bs a.A), .string (bs a.B), .int .i64 a.N, kv]] w (ActPost w G S F a) := by
  obtain ⟨K, A, B, N, ks⟩ := a
  obtain ⟨hA, hB, _⟩ := ha
  simp only at hA hB hk ⊢
  have hb := one_step w (.cells #[.int .i64 K, .string (bs A), .string (bs B), .int .i64 N, kv] 31)
  have hM := h.below hb
  rcases (show K = 0 ∨ K = 1 ∨ K = 2 ∨ K = 3 ∨ K = 4 ∨ K = 5 ∨ K = 6 ∨ K = 7 ∨ K = 8 ∨ K = 9 ∨ (K < 0 ∨ 9 < K) by omega) with rfl | rfl | rfl | rfl | rfl | rfl | rfl | rfl | rfl | rfl | hK
  · have q := Lib.hid (Fs_Create_mem hM hok hs A (by omega))
    go_enter Try.func11, Try.ntmps11
    go_wp2_with fail
    refine q.out.mono ?_
    rintro e w' ⟨g, hg, hd⟩
    have hR := Lib.hid (hd.act hb (S := S) (a := ⟨0, A, B, N, ks⟩) (.inl ⟨rfl, g, hg, rfl⟩))
    obtain rfl := hd.form
    clear hd
    go_wp2
    go_ret
    exact hR.out
  · have q := Lib.hid (Fs_Append_mem hM hok hs A B (by omega) (by omega))
    go_enter Try.func11, Try.ntmps11
    go_wp2_with fail
    refine q.out.mono ?_
    intro e w' hd
    have hR := Lib.hid (hd.act hb (S := S) (a := ⟨1, A, B, N, ks⟩) (.inr (.inl ⟨rfl, rfl⟩)))
    obtain rfl := hd.form
    clear hd
    go_wp2
    go_ret
    exact hR.out
  · have q := Lib.hid (Fs_Cut_mem hM hok hs A N (by omega))
    go_enter Try.func11, Try.ntmps11
    go_wp2_with fail
    refine q.out.mono ?_
    intro e w' hd
    have hR := Lib.hid (hd.act hb (S := S) (a := ⟨2, A, B, N, ks⟩) (.inr (.inr (.inl ⟨rfl, rfl⟩))))
    obtain rfl := hd.form
    clear hd
    go_wp2
    go_ret
    exact hR.out
  · have q := Lib.hid (Fs_Sync_mem hM hok hs A (by omega))
    go_enter Try.func11, Try.ntmps11
    go_wp2_with fail
    refine q.out.mono ?_
    intro e w' hd
    have hR := Lib.hid (hd.act hb (S := S) (a := ⟨3, A, B, N, ks⟩) (.inr (.inr (.inr (.inl ⟨rfl, rfl⟩)))))
    obtain rfl := hd.form
    clear hd
    go_wp2
    go_ret
    exact hR.out
  · have q := Lib.hid (Fs_SyncDir_mem hM hok hs)
    go_enter Try.func11, Try.ntmps11
    go_wp2_with fail
    refine q.out.mono ?_
    intro e w' hd
    have hR := Lib.hid (hd.act hb (S := S) (a := ⟨4, A, B, N, ks⟩) (.inr (.inr (.inr (.inr (.inl ⟨rfl, rfl⟩))))))
    obtain rfl := hd.form
    clear hd
    go_wp2
    go_ret
    exact hR.out
  · have q := Lib.hid (Fs_Rename_mem hM hok hs A B (by omega) (by omega))
    go_enter Try.func11, Try.ntmps11
    go_wp2_with fail
    refine q.out.mono ?_
    intro e w' hd
    have hR := Lib.hid (hd.act hb (S := S) (a := ⟨5, A, B, N, ks⟩) (.inr (.inr (.inr (.inr (.inr (.inl ⟨rfl, rfl⟩)))))))
    obtain rfl := hd.form
    clear hd
    go_wp2
    go_ret
    exact hR.out
  · have q := Lib.hid (Fs_Remove_mem hM hok hs A (by omega))
    go_enter Try.func11, Try.ntmps11
    go_wp2_with fail
    refine q.out.mono ?_
    intro e w' hd
    have hR := Lib.hid (hd.act hb (S := S) (a := ⟨6, A, B, N, ks⟩) (.inr (.inr (.inr (.inr (.inr (.inr (.inl ⟨rfl, rfl⟩))))))))
    obtain rfl := hd.form
    clear hd
    go_wp2
    go_ret
    exact hR.out
  · have q := Lib.hid (Fs_Room_mem hM N)
    go_enter Try.func11, Try.ntmps11
    go_wp2_with fail
    refine q.out.mono ?_
    rintro e w' ⟨rfl, r1, r2⟩
    have hR := Lib.hid (show ActPost w G S F ⟨7, A, B, N, ks⟩ (.returned (.int .i64 0)) w' from ⟨_, _, F, rfl, .inr (.inr (.inr (.inr (.inr (.inr (.inr (.inl ⟨rfl, rfl⟩))))))), r1, (Turn.of_below hb).trans r2⟩)
    clear r1 r2
    go_wp2
    go_ret
    exact hR.out
  · have q := Lib.hid (Fs_Fuse_mem hM N)
    go_enter Try.func11, Try.ntmps11
    go_wp2_with fail
    refine q.out.mono ?_
    rintro e w' ⟨rfl, r1, r2⟩
    have hR := Lib.hid (show ActPost w G S F ⟨8, A, B, N, ks⟩ (.returned (.int .i64 0)) w' from ⟨_, _, F, rfl, .inr (.inr (.inr (.inr (.inr (.inr (.inr (.inr (.inl ⟨rfl, rfl⟩)))))))), r1, (Turn.of_below hb).trans r2⟩)
    clear r1 r2
    go_wp2
    go_ret
    exact hR.out
  · have q := Lib.hid (Fs_Crash_mem (v := kv) (ks := ks) hM hok hs fun w' F' ht => hk w' F' ((Turn.of_below hb).trans ht))
    go_enter Try.func11, Try.ntmps11
    go_wp2_with fail
    refine q.out.mono ?_
    rintro e w' ⟨rfl, F', r1, r2⟩
    have hR := Lib.hid (show ActPost w G S F ⟨9, A, B, N, ks⟩ (.returned (.int .i64 0)) w' from ⟨_, _, F', rfl, .inr (.inr (.inr (.inr (.inr (.inr (.inr (.inr (.inr (.inl ⟨rfl, rfl⟩))))))))), r1, (Turn.of_below hb).trans r2⟩)
    clear r1 r2
    go_wp2
    go_ret
    exact hR.out
  · have hR := Lib.hid (show ActPost w G S F ⟨K, A, B, N, ks⟩ (.returned (.int .i64 0)) _ from ⟨_, _, F, rfl, .inr (.inr (.inr (.inr (.inr (.inr (.inr (.inr (.inr (.inr ⟨hK, rfl⟩))))))))), hM, Turn.of_below hb⟩)
    have e0 : (K == 0) = false := by simp; omega
    have e1 : (K == 1) = false := by simp; omega
    have e2 : (K == 2) = false := by simp; omega
    have e3 : (K == 3) = false := by simp; omega
    have e4 : (K == 4) = false := by simp; omega
    have e5 : (K == 5) = false := by simp; omega
    have e6 : (K == 6) = false := by simp; omega
    have e7 : (K == 7) = false := by simp; omega
    have e8 : (K == 8) = false := by simp; omega
    have e9 : (K == 9) = false := by simp; omega
    go_enter Try.func11, Try.ntmps11
    go_wp2
    go_ret
    exact hR.out
end
end Go.Proofs.Ytphkmhajjnnbaaa
