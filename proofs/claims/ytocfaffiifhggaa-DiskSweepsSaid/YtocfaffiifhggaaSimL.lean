/- Files on a machine: names become others, each call. -/
import Derived.Test.YtocfaffiifhggaaSimK
namespace Go.Proofs.Ytocfaffiifhggaa
open Go.RowKit Go.Maps Go.WideMaps
attribute [local go_sem] bs_toList bs_size

theorem new_cell (w : World) (v : Value) (t : TypeId) : (w.alloc (.cells #[v] t)).cell? ⟨w.heap.size, 0, none⟩ = some v := by rw [World.cell?_alloc_new]; rfl
theorem one_step (w : World) (o : Obj) : Below w.heap.size w (w.alloc o) := (Below.refl _ w).alloc (Nat.le_refl _) o
theorem Kept.cell {a b : World} {S : Nat → Prop} (h : Kept a b S) {p : Addr} {v : Value} (hp : a.cell? p = some v) (hS : ¬ S p.block) : b.cell? p = some v :=
  (World.cell?_of_block (h.block p.block (World.block_lt_of_cell? _ _ hp) hS)).trans hp

section
variable {w : World} {G : Nat} {S : FsS} {F : Nat → Prop}

theorem FsMem.tags (h : FsMem w G S F) : tag w G = some (some 49) := by
  obtain ⟨nb, sb, mv, mbs, chv, h⟩ := h
  exact h.tagG

/-- Create's step. -/
theorem Create_step (h : FsMem w G S F) (hok : S.ok) (hs : S.steps ≤ 500000) (l : List UInt8) (hl : l.length ≤ 1048576) (hn : S.names.length < 64) :
    Calls Try.prog 25 #[.pointer (some ⟨G, 0, none⟩), .func (.func 26) #[] #[.pointer (some ⟨w.heap.size, 0, none⟩)]] (w.alloc (.cells #[.string (bs l)] 9)) fun e w' =>
      ∃ g, w.heap.size ≤ g ∧ Did w w' G F e (S.step fun T => T.moved (T.names.put l g)) := by
  have hb := one_step w (.cells #[.string (bs l)] 9)
  refine (Fs_move_args (fun b => #[.map (some b), .pointer (some ⟨w.heap.size, 0, none⟩)]) (fun _ => rfl) (fun N => ∃ g, w.heap.size ≤ g ∧ N = S.names.put l g) (h.below hb) hok hs (fun b W => by go_simp) ?_).mono ?_
  · intro w1 b hk hbb hD
    have hG : w.heap.size ≠ G := by have := h.lt _ h.gG; omega
    refine (Create_do_any l (by unfold maxLen; omega) (by unfold maxLen; omega) hD (hk.cell (new_cell w _ _) hG)).mono ?_
    rintro e w' ⟨rfl, hD', hF, hg⟩
    refine ⟨rfl, _, ⟨w1.heap.size, Nat.le_trans hb.size hk.size, rfl⟩, ?_, hg, ?_⟩
    · rw [← Nm.data_put] at hD'
      exact hD'.tight
    · intro g hg
      obtain ⟨p, hp, rfl⟩ := List.mem_map.1 hg
      rcases Nm.mem_put.1 hp with rfl | hp
      · exact .inr ⟨Nat.le_refl _, hF⟩
      · exact .inl ⟨S.names, by simp [FsS.dirs], List.mem_map.2 ⟨p, hp.1, rfl⟩⟩
  · intro e w' hst
    obtain ⟨F', h1, h2⟩ := hst.before hb
    rcases h2 with ⟨h0, he, hM⟩ | ⟨h0, he, T, ⟨N, ⟨g, hg, rfl⟩, rfl⟩, hM⟩
    · refine ⟨w.heap.size, Nat.le_refl _, ?_⟩
      unfold FsS.step
      rw [if_pos h0]
      exact ⟨F', h1, he, hM⟩
    · refine ⟨g, hg, ?_⟩
      unfold FsS.step
      rw [if_neg h0]
      exact ⟨F', h1, he, hM⟩

/-- No such file was ever. -/
def FsS.fresh (S : FsS) (g : Nat) : Prop := ¬ S.live g ∧ S.fl g = Fl.new
theorem FsMem.fresh (h : FsMem w G S F) {g : Nat} (hg : w.heap.size ≤ g) : S.fresh g := by
  obtain ⟨nb, sb, mv, mbs, chv, h⟩ := h
  exact ⟨fun e => by have := h.live_lt e; omega, h.new g hg⟩

def DidNew (w w' : World) (G : Nat) (F : Nat → Prop) (e : Ending) (S : FsS) (l : List UInt8) : Prop := ∃ g, S.fresh g ∧ Did w w' G F e (S.create l g)

set_option maxRecDepth 100000 in
set_option maxHeartbeats 1000000 in
theorem Fs_Create_mem (h : FsMem w G S F) (hok : S.ok) (hs : S.steps ≤ 500000) (l : List UInt8) (hl : l.length ≤ 1048576) :
    Calls Try.prog 10 #[.pointer (some ⟨G, 0, none⟩), .string (bs l)] w fun e w' => DidNew w w' G F e S l := by
  have hb := one_step w (.cells #[.string (bs l)] 9)
  have hM := h.below hb
  have hfr := h.fresh (Nat.le_refl _)
  have q := Lib.hid (Fs_of_mem hM l hl)
  have qr := Lib.hid (right_any l (w.alloc (.cells #[.string (bs l)] 9)))
  have none : ∀ r, S.create l w.heap.size = (S, r) → DidNew w (w.alloc (.cells #[.string (bs l)] 9)) G F (.returned (.int .i64 r)) S l := fun r e => ⟨w.heap.size, hfr, by rw [e]; exact did_none hM hb r⟩
  have N0 := Lib.hid none
  clear none
  unfold FsS.create at N0
  rcases S.of_cases l with ⟨h1, h2⟩ | ⟨h1, h2, h3⟩ | ⟨g, h1, h2, h3⟩
  · rw [h1] at q
    simp only [ofVal] at q
    go_enter Try.func10, Try.ntmps10
    go_wp2_with fail
    refine q.out.mono ?_
    rintro e w' ⟨rfl, rfl⟩
    go_wp2
    go_ret
    exact N0.out 13 (by simp [h2])
  · rw [h1] at q
    simp only [ofVal] at q
    cases hr : rightN l with
    | false =>
      unfold rightN at hr
      rw [hr] at qr
      go_enter Try.func10, Try.ntmps10
      go_wp2_with fail
      refine q.out.mono ?_
      rintro e w' ⟨rfl, rfl⟩
      go_wp2_with fail
      refine qr.out.mono ?_
      rintro e w' ⟨rfl, rfl⟩
      go_wp2
      go_ret
      exact N0.out 1 (by simp [h2, rightN, hr])
    | true =>
      unfold rightN at hr
      rw [hr] at qr
      by_cases hn : 64 ≤ S.names.length
      · have HL : (((S.names.length : Nat) : Int) ≥ 64) := by omega
        obtain ⟨nb, sb, mv, mbs, chv, h⟩ := hM
        obtain ⟨c0, _⟩ := h.fs.c
        have hD : World.ownsMap (w.alloc (.cells #[.string (bs l)] 9)) Try.prog 9 ptrR nb S.names.length S.names.data := h.nm
        have hsz := Lib.hid (Nm.size_data S.names)
        go_enter Try.func10, Try.ntmps10
        go_wp2_with fail
        refine q.out.mono ?_
        rintro e w' ⟨rfl, rfl⟩
        go_wp2_with fail
        refine qr.out.mono ?_
        rintro e w' ⟨rfl, rfl⟩
        go_wp2_with (at_len; refine wpList_len_own _ rfl _ 46 rfl 9 50 Try.underlying46 ptrR nb _ _ rfl hD ?_; rw [hsz.out])
        go_ret
        exact N0.out 7 (by simp [h2, rightN, hr, h3, hn])
      · have HL : (((S.names.length : Nat) : Int) < 64) := by omega
        have qm := Lib.hid (Create_step h hok hs l hl (by omega))
        have hX : ∀ e w', (∃ g, w.heap.size ≤ g ∧ Did w w' G F e (S.step fun T => T.moved (T.names.put l g))) → DidNew w w' G F e S l := fun e w' ⟨g, hg, hd⟩ => ⟨g, h.fresh hg, by
          unfold FsS.create
          simpa [h2, rightN, hr, h3, hn] using hd⟩
        have HX := Lib.hid hX
        clear hX
        obtain ⟨nb, sb, mv, mbs, chv, h⟩ := hM
        obtain ⟨c0, _⟩ := h.fs.c
        have hD : World.ownsMap (w.alloc (.cells #[.string (bs l)] 9)) Try.prog 9 ptrR nb S.names.length S.names.data := h.nm
        have hsz := Lib.hid (Nm.size_data S.names)
        go_enter Try.func10, Try.ntmps10
        go_wp2_with fail
        refine q.out.mono ?_
        rintro e w' ⟨rfl, rfl⟩
        go_wp2_with fail
        refine qr.out.mono ?_
        rintro e w' ⟨rfl, rfl⟩
        go_wp2_with (at_len; refine wpList_len_own _ rfl _ 46 rfl 9 50 Try.underlying46 ptrR nb _ _ rfl hD ?_; rw [hsz.out])
        refine qm.out.mono ?_
        intro e w' hd
        have hR := Lib.hid (HX.out _ _ hd)
        obtain ⟨g, _, hd⟩ := hd
        obtain rfl := hd.form
        clear hd
        go_wp2
        go_ret
        exact hR.out
  · rw [h1] at q
    simp only [ofVal] at q
    cases hr : rightN l with
    | false =>
      unfold rightN at hr
      rw [hr] at qr
      go_enter Try.func10, Try.ntmps10
      go_wp2_with fail
      refine q.out.mono ?_
      rintro e w' ⟨rfl, rfl⟩
      go_wp2_with fail
      refine qr.out.mono ?_
      rintro e w' ⟨rfl, rfl⟩
      go_wp2
      go_ret
      exact N0.out 1 (by simp [h2, rightN, hr])
    | true =>
      unfold rightN at hr
      rw [hr] at qr
      go_enter Try.func10, Try.ntmps10
      go_wp2_with fail
      refine q.out.mono ?_
      rintro e w' ⟨rfl, rfl⟩
      go_wp2_with fail
      refine qr.out.mono ?_
      rintro e w' ⟨rfl, rfl⟩
      go_wp2
      go_ret
      exact N0.out 12 (by simp [h2, rightN, hr, h3])
end
end Go.Proofs.Ytocfaffiifhggaa
