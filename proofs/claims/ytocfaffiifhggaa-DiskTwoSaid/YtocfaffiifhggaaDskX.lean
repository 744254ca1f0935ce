/- The law DiskRepairs: the walk. -/
import Derived.Test.YtocfaffiifhggaaDskW
namespace Go.Proofs.Ytocfaffiifhggaa
open Go.RowKit Go.Maps Go.WideMaps Go.WideShapes Go.Deep
attribute [local go_sem] bs_toList bs_size

/-- A repair of the one file: in plain words. -/
theorem repair_one {g : Nat} {fl : Nat → Fl} {b : List UInt8} (n : Int) (h : fl g = ⟨b, b, []⟩) : ∃ fl' st' r c, FsS.repair ⟨[(xN, g)], [(xN, g)], [], fl, 1000, 5, -1, false⟩ xN n = (⟨[(xN, g)], [(xN, g)], [], fl', 1000, st', -1, false⟩, r) ∧
    st' ≤ 7 ∧ fl' g = ⟨c, c, []⟩ ∧ (((n < 0 ∨ (b.length : Int) < n) ∧ r = 1 ∧ c = b) ∨ (0 ≤ n ∧ n ≤ (b.length : Int) ∧ r = 0 ∧ c = b.take n.toNat)) := by
  have ha : Nm.at [(xN, g)] xN = some g := rfl
  have hr : FsS.read ⟨[(xN, g)], [(xN, g)], [], fl, 1000, 5, -1, false⟩ xN = (b, 0) := ew_read ha h
  unfold FsS.repair
  rw [hr]
  simp only
  rw [if_neg (by simp)]
  by_cases e1 : (b.length : Int) = n
  · rw [if_pos e1]
    exact ⟨fl, 5, 0, b, rfl, by omega, h, .inr ⟨by omega, by omega, rfl, by rw [← e1]; simp⟩⟩
  rw [if_neg e1]
  by_cases e2 : n < 0 ∨ (b.length : Int) < n
  · have hc : FsS.cut ⟨[(xN, g)], [(xN, g)], [], fl, 1000, 5, -1, false⟩ xN n = (⟨[(xN, g)], [(xN, g)], [], fl, 1000, 5, -1, false⟩, 1) := by
      unfold FsS.cut FsS.of
      simp only [Bool.false_eq_true, if_false, ha]
      rw [if_pos (by rw [h]; simpa using e2)]
    rw [hc]
    simp only
    rw [if_pos (by simp)]
    exact ⟨fl, 5, 1, b, rfl, by omega, h, .inl ⟨e2, rfl, rfl⟩⟩
  · have hc := cut_go (N := [(xN, g)]) (sy := [(xN, g)]) (mv := []) (fl := fl) (room := 1000) (st := 5) (f := -1) (l := xN) (n := n) ha (by omega) (by rw [h]; simp only; omega)
    rw [if_neg (show ¬ ((-1 : Int) = 0) by decide), h] at hc
    rw [hc]
    simp only
    rw [if_neg (by simp), sync_go ha, if_neg (by decide), flSet_same, flSet_twice]
    exact ⟨_, 7, 0, b.take n.toNat, rfl, by omega, flSet_same _ _ _, .inr ⟨by omega, by omega, rfl, rfl⟩⟩

set_option maxRecDepth 100000 in
set_option maxHeartbeats 4000000 in
theorem DiskRepairs_keep {W : World} {kv : Value} {ks : List Int} (b : List UInt8) (n : Int) (hb0 : b.length ≤ maxLen) (h : KeepAt W kv ks) :
    Calls Try.prog 5 #[.string (bs b), .int .i64 n, kv] W fun e w' => e = .returned (.bool true) ∧ Below W.heap.size W w' := by
  obtain ⟨sa, sc, rfl, hkl, _⟩ := id h
  have q0 := Lib.hid (works_any W)
  go_enter Try.func5, Try.ntmps5
  go_wp2_with fail
  refine q0.out.mono ?_
  rintro e w0 ⟨rfl, hbl⟩
  have qn := Lib.hid (New_any w0 1000)
  go_wp2_with fail
  refine qn.out.mono ?_
  rintro e w1 ⟨G, F1, rfl, hM, hT, hF⟩
  have m1 : Mach W w1 G ⟨[], [], [], fun _ => Fl.new, 1000, 0, -1, false⟩ F1 := ⟨hM, hbl.trans (hT.kept.below hbl.size (fun k hk => hk.elim)), fun k hk => Nat.le_trans hbl.size (hF k hk), new_ok 1000⟩
  clear hM hT hF q0 qn hbl
  by_cases hb : 300 < b.length
  · have hd : decide (300 < b.length) = true := by simpa using hb
    go_wp2
    go_ret
    exact ⟨rfl, m1.bel⟩
  by_cases hk : 20 < ks.length
  · go_wp2
    go_ret
    exact ⟨rfl, m1.bel⟩
  have q := Lib.hid (show Calls Try.prog 15 #[.pointer (some ⟨G, 0, none⟩), .string ⟨#[120]⟩, .string (bs b)] w1 _ from m1.saved xN b (by omega) (by omega) (by decide) (by decide) (by decide) (by decide) (by simp [sizeIn]; omega))
  go_wp2_with fail
  refine q.out.mono ?_
  rintro e w2 ⟨g, F2, _, _, rfl, m2, _⟩
  rw [show Nm.put [] xN g = [(xN, g)] from rfl] at m2
  obtain ⟨fl', st', r, c, hrep, hst, hfl, hcase⟩ := repair_one (g := g) (fl := flSet (fun _ => Fl.new) g ⟨b, b, []⟩) n (flSet_same _ _ _)
  clear q m1
  have q := Lib.hid (show Calls Try.prog 17 #[.pointer (some ⟨G, 0, none⟩), .string ⟨#[120]⟩, .int .i64 n] w2 _ from m2.repair xN n (by show 5 + 20 ≤ 500000; omega) (by decide))
  rw [hrep] at q
  clear hrep
  go_wp2_with fail
  refine q.out.mono ?_
  rintro e w3 ⟨F3, rfl, m3, _⟩
  simp only at m3 ⊢
  clear q m2
  have q := Lib.hid (m3.crash (by show st' ≤ 500000; omega) fun w' F' ht => h.below (m3.reach ht))
  go_wp2_with fail
  refine q.out.mono ?_
  rintro e w4 ⟨F4, rfl, m4, _⟩
  have hfl4 : crashFl ks 0 [(xN, g)] fl' g = ⟨c, c, []⟩ := by rw [crashFl_at _ _ _ _ (by rw [hfl]; exact ⟨rfl, rfl⟩), hfl]
  rw [show FsS.crash ⟨[(xN, g)], [(xN, g)], [], fl', 1000, st', -1, false⟩ ks = ⟨[(xN, g)], [(xN, g)], [], crashFl ks 0 [(xN, g)] fl', 1000, st', -1, false⟩ by
    unfold FsS.crash FsS.crashDir
    simp only [List.length_nil, Nat.zero_add, Nat.mod_one]] at m4
  generalize crashFl ks 0 [(xN, g)] fl' = fl4 at *
  clear q m3
  have q := Lib.hid (show Calls Try.prog 14 #[.pointer (some ⟨G, 0, none⟩), .string ⟨#[120]⟩] w4 _ from m4.read xN (by simp [xN]))
  rw [ew_read (g1 := g) (by rfl) hfl4] at q
  go_wp2_with fail
  refine q.out.mono ?_
  rintro e w5 ⟨rfl, rfl⟩
  clear q hfl hfl4
  rcases hcase with ⟨hn, rfl, rfl⟩ | ⟨hn0, hn1, rfl, rfl⟩
  · by_cases hn0 : n < 0
    · go_wp2
      go_ret
      exact ⟨rfl, m4.bel⟩
    · have hn1 : (c.length : Int) < n := by omega
      go_wp2
      go_ret
      exact ⟨rfl, m4.bel⟩
  · have hx : ((bs b).extract 0 n.toNat).toList = b.take n.toNat := by rw [bs_extract, bs_toList]; simp
    go_wp2
    go_ret
    exact ⟨rfl, m4.bel⟩

theorem DiskRepairs_walk {H : Type} {enc : TypeId × Value → H} {d2 : DataW H} {p2 : List MemPlace} (b : List UInt8) (n : Int) (sa2 : Option Addr) (sl2 sc2 : Nat) (W : World) (hb : b.length ≤ maxLen) (_h1 : -9223372036854775808 ≤ n) (_h2 : n ≤ 9223372036854775807)
    (k2 : DataW.Trod enc Try.prog W 0 (fun _ => true) true 35 (.slice sa2 sl2 sc2) d2 p2) :
    Calls Try.prog 5 #[.string (bs b), .int .i64 n, .slice sa2 sl2 sc2] W fun e w' => e = .returned (.bool true) ∧ Below W.heap.size W w' := by
  obtain ⟨_, k2⟩ := k2
  obtain ⟨ks, h⟩ := keep_of_trod k2 ⟨_, _, _, rfl⟩
  exact DiskRepairs_keep b n hb h
end Go.Proofs.Ytocfaffiifhggaa
