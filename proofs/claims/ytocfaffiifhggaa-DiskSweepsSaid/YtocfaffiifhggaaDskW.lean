/- The laws on files that are written as a whole: the document's example. -/
import Derived.Test.YtocfaffiifhggaaDskR
namespace Go.Proofs.Ytocfaffiifhggaa
open Go.RowKit Go.Maps Go.WideMaps
attribute [local go_sem] bs_toList bs_size

def xN : List UInt8 := [120]
def yN : List UInt8 := [121]
def oldB : List UInt8 := [111, 108, 100]
def newB : List UInt8 := [110, 101, 119]

section
variable {g1 g2 : Nat} {fl : Nat → Fl} {mv : List Nm}
theorem ew_create : FsS.create ⟨[(xN, g1)], [(xN, g1)], [], fl, 100, 10, -1, false⟩ yN g2 = (⟨[(xN, g1), (yN, g2)], [(xN, g1)], [[(xN, g1), (yN, g2)]], fl, 100, 11, -1, false⟩, 0) := rfl
theorem ew_sweep : FsS.sweep ⟨[(xN, g1), (yN, g2)], [(xN, g1)], mv, fl, 100, 11, -1, false⟩ [xN] = (⟨[(xN, g1)], [(xN, g1)], [], fl, 100, 13, -1, false⟩, 1, 0) := by
  have h1 : sweepLoop [xN] (Nm.keys [(xN, g1), (yN, g2)]) ⟨[(xN, g1), (yN, g2)], [(xN, g1)], mv, fl, 100, 11, -1, false⟩ 0 = (⟨[(xN, g1)], [(xN, g1)], mv ++ [[(xN, g1)]], fl, 100, 12, -1, false⟩, 1, 0) := by
    show sweepLoop [xN] [xN, yN] _ 0 = _
    rw [sweepLoop_cons, if_pos (by simp), sweepLoop_cons, if_neg (by decide), remove_go (g := g2) (by simp [Nm.at, xN, yN]), if_neg (show ¬ ((-1 : Int) = 0) by decide)]
    simp only
    rw [if_neg (by simp)]
    rfl
  rw [sweep_eq]
  simp only [h1]
  rw [if_neg (by simp), if_neg (by simp), syncDir_go]
  rfl
theorem ew_repair (h : fl g1 = ⟨newB, newB, []⟩) : FsS.repair ⟨[(xN, g1)], [(xN, g1)], [], fl, 100, 13, -1, false⟩ xN 1 = (⟨[(xN, g1)], [(xN, g1)], [], flSet fl g1 ⟨[110], [110], []⟩, 100, 15, -1, false⟩, 0) := by
  have ha : Nm.at [(xN, g1)] xN = some g1 := rfl
  have hr : FsS.read ⟨[(xN, g1)], [(xN, g1)], [], fl, 100, 13, -1, false⟩ xN = (newB, 0) := by
    unfold FsS.read FsS.of
    simp only [Bool.false_eq_true, if_false, ha, h]
  have hc := cut_go (N := [(xN, g1)]) (sy := [(xN, g1)]) (mv := []) (fl := fl) (room := 100) (st := 13) (f := -1) (l := xN) (n := 1) ha (by omega) (by rw [h]; decide)
  rw [if_neg (show ¬ ((-1 : Int) = 0) by decide), h] at hc
  unfold FsS.repair
  rw [hr, hc]
  simp only
  rw [if_neg (by simp), if_neg (by decide), if_neg (by simp), sync_go ha, if_neg (by decide), flSet_same, flSet_twice]
  rfl
end
theorem ew_read {g1 : Nat} {fl : Nat → Fl} {N sy : Nm} {mv : List Nm} {room f : Int} {st : Nat} {l : List UInt8} {x : Fl} (ha : N.at l = some g1) (h : fl g1 = x) : FsS.read ⟨N, sy, mv, fl, room, st, f, false⟩ l = (x.nw, 0) := by
  unfold FsS.read FsS.of
  simp only [Bool.false_eq_true, if_false, ha, h]

set_option maxRecDepth 100000 in
set_option maxHeartbeats 4000000 in
theorem works_any (W : World) : Calls Try.prog 8 #[] W fun e w' => e = .returned (.bool true) ∧ Below W.heap.size W w' := by
  go_enter Try.func8, Try.ntmps8
  have q := Lib.hid (New_any W 100)
  go_wp2_with fail
  refine q.out.mono ?_
  rintro e w1 ⟨G, F1, rfl, hM, hT, hF⟩
  have m1 : Mach W w1 G ⟨[], [], [], fun _ => Fl.new, 100, 0, -1, false⟩ F1 := ⟨hM, hT.kept.below (Nat.le_refl _) (fun k hk => hk.elim), hF, new_ok 100⟩
  clear hM hT hF q
  have q := Lib.hid (show Calls Try.prog 15 #[.pointer (some ⟨G, 0, none⟩), .string ⟨#[120]⟩, .string ⟨#[111, 108, 100]⟩] w1 _ from m1.saved xN oldB (by omega) (by decide) (by decide) (by decide) (by decide) (by decide) (by decide))
  go_wp2_with fail
  refine q.out.mono ?_
  rintro e w2 ⟨g, F2, _, _, rfl, m2, _⟩
  rw [show Nm.put [] xN g = [(xN, g)] from rfl] at m2
  clear q m1
  have q := Lib.hid (Fs_Steps_mem m2.mem)
  go_wp2_with fail
  refine q.out.mono ?_
  rintro e w3 ⟨rfl, rfl⟩
  clear q
  simp only
  have q := Lib.hid (show Calls Try.prog 15 #[.pointer (some ⟨G, 0, none⟩), .string ⟨#[120]⟩, .string ⟨#[110, 101, 119]⟩] w2 _ from
    m2.saved xN newB (by omega) (by decide) (by decide) (by decide) (by simp [Nm.at, xN, tmpB]) (by simp) (by simp [sizeIn, flSet, oldB, newB]))
  go_wp2_with fail
  refine q.out.mono ?_
  rintro e w4 ⟨g1, F4, _, _, rfl, m4, _⟩
  rw [show Nm.put [(xN, g)] xN g1 = [(xN, g1)] from rfl] at m4
  have hfl : flSet (flSet (fun _ => Fl.new) g ⟨oldB, oldB, []⟩) g1 ⟨newB, newB, []⟩ g1 = ⟨newB, newB, []⟩ := flSet_same _ _ _
  generalize flSet (flSet (fun _ => Fl.new) g ⟨oldB, oldB, []⟩) g1 ⟨newB, newB, []⟩ = fl at *
  clear q m2
  have q := Lib.hid (Fs_Steps_mem m4.mem)
  go_wp2_with fail
  refine q.out.mono ?_
  rintro e w5 ⟨rfl, rfl⟩
  clear q
  simp only
  have q := Lib.hid (show Calls Try.prog 14 #[.pointer (some ⟨G, 0, none⟩), .string ⟨#[120]⟩] w4 _ from m4.read xN (by simp [xN]))
  rw [ew_read (g1 := g1) (by rfl) hfl] at q
  go_wp2_with fail
  refine q.out.mono ?_
  rintro e w5 ⟨rfl, rfl⟩
  clear q
  have q := Lib.hid (show Calls Try.prog 10 #[.pointer (some ⟨G, 0, none⟩), .string ⟨#[121]⟩] w4 _ from Fs_Create_mem m4.mem m4.ok (by show 10 ≤ 500000; omega) yN (by simp [yN]))
  go_wp2_with fail
  refine q.out.mono ?_
  rintro e w6 ⟨g2, hg, hd⟩
  obtain ⟨F6, m6⟩ := m4.did hd (m4.ok.create _ hg)
  rw [ew_create] at hd m6
  obtain rfl := hd.form
  clear hd q hg m4
  simp only at m6 ⊢
  go_wp2_with fail
  have hkeep : ∀ w' F', Turn (w6.alloc (.cells #[.string ⟨#[120]⟩] 9)) w' F6 F' → StrsAt w' (.slice (some ⟨w6.heap.size, 0, none⟩) 1 1) [xN] := fun w' F' ht => by
    have hB : Blk (w6.alloc (.cells #[.string ⟨#[120]⟩] 9)) w6.heap.size 9 #[.string ⟨#[120]⟩] := Blk.new _ _ _
    have hlt := m6.mem.lt
    have hB' := Blk.keptK hB ht.kept (fun h => by have := hlt _ h; omega)
    refine ⟨some ⟨w6.heap.size, 0, none⟩, 1, rfl, by simp [maxLen], fun i x hx => ?_⟩
    have hc := Blk.cell hB' i
    match i, hx with
    | 0, hx =>
      obtain rfl : xN = x := by simpa using hx
      exact ⟨_, 0, rfl, show w'.cell? ⟨w6.heap.size, 0, none⟩ = some (.string ⟨#[120]⟩) by simpa using hc, by simp [xN, maxLen]⟩
  have q := Lib.hid ((m6.below (one_step w6 _)).sweep (by show 11 + 100 ≤ 500000; omega) hkeep)
  rw [ew_sweep] at q
  go_wp2_with fail
  refine q.out.mono ?_
  rintro e w7 ⟨F7, rfl, m7, _⟩
  simp only at m7 ⊢
  clear q m6 hkeep
  have q := Lib.hid (show Calls Try.prog 17 #[.pointer (some ⟨G, 0, none⟩), .string ⟨#[120]⟩, .int .i64 1] w7 _ from m7.repair xN 1 (by show 13 + 20 ≤ 500000; omega) (by decide))
  rw [ew_repair hfl] at q
  go_wp2_with fail
  refine q.out.mono ?_
  rintro e w8 ⟨F8, rfl, m8, _⟩
  simp only at m8 ⊢
  clear q m7
  have q := Lib.hid (m8.crash (v := .slice none 0 0) (ks := []) (by show 15 ≤ 500000; omega) fun w' F' _ => nil_keep w')
  go_wp2_with fail
  refine q.out.mono ?_
  rintro e w9 ⟨F9, rfl, m9, _⟩
  clear q m8
  have hfl9 : crashFl [] 0 [(xN, g1)] (flSet fl g1 ⟨[110], [110], []⟩) g1 = ⟨[110], [110], []⟩ := by
    rw [crashFl_at _ _ _ _ (by rw [flSet_same]; exact ⟨rfl, rfl⟩), flSet_same]
  rw [show FsS.crash ⟨[(xN, g1)], [(xN, g1)], [], flSet fl g1 ⟨[110], [110], []⟩, 100, 15, -1, false⟩ [] = ⟨[(xN, g1)], [(xN, g1)], [], crashFl [] 0 [(xN, g1)] (flSet fl g1 ⟨[110], [110], []⟩), 100, 15, -1, false⟩ from rfl] at m9
  generalize crashFl [] 0 [(xN, g1)] (flSet fl g1 ⟨[110], [110], []⟩) = fl9 at *
  have q := Lib.hid (show Calls Try.prog 14 #[.pointer (some ⟨G, 0, none⟩), .string ⟨#[120]⟩] w9 _ from m9.read xN (by simp [xN]))
  rw [ew_read (g1 := g1) (by rfl) hfl9] at q
  go_wp2_with fail
  refine q.out.mono ?_
  rintro e w10 ⟨rfl, rfl⟩
  clear q
  have he1 : (bs newB == (⟨#[110, 101, 119]⟩ : ByteArray)) = true := by decide +kernel
  have he2 : (bs [110] == (⟨#[110]⟩ : ByteArray)) = true := by decide +kernel
  simp only
  have q := Lib.hid m9.list
  have q2 := Lib.hid (fun w' (hb : Below w9.heap.size w9 w') => show Calls Try.prog 20 #[.pointer (some ⟨G, 0, none⟩), .string ⟨#[120]⟩] w' _ from Cost_any (m9.below hb).mem m9.ok xN (by decide))
  go_wp2_with fail
  refine q.out.mono ?_
  rintro e w11 ⟨lv, rfl, hs, m11, hb⟩
  obtain ⟨la, lc, rfl⟩ := hs.len
  rw [show (Nm.keys [(xN, g1)]).length = 1 from rfl]
  clear q hs
  go_wp2_with fail
  refine (q2.out _ hb).mono ?_
  rintro e w12 ⟨rfl, hb12⟩
  rw [show (Nm.at [(xN, g1)] (tmpB ++ xN)).isSome = false by simp [Nm.at, xN, tmpB]]
  have m12 := m11.below hb12
  clear q2 m11 m9
  simp only [Bool.false_eq_true, if_false]
  go_wp2
  go_ret
  exact ⟨rfl, m12.bel⟩
end Go.Proofs.Ytocfaffiifhggaa
