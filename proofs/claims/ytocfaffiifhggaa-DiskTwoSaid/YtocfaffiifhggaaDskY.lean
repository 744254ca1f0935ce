/- The law DiskFull: the walk. -/
import Derived.Test.YtocfaffiifhggaaDskX
namespace Go.Proofs.Ytocfaffiifhggaa
open Go.RowKit Go.Maps Go.WideMaps Go.WideShapes Go.Deep
attribute [local go_sem] bs_toList bs_size

theorem one_put (name : List UInt8) (g g1 : Nat) : Nm.put [(name, g)] name g1 = [(name, g1)] := by simp [Nm.put, Nm.del, Nm.ins]
theorem one_at (name : List UInt8) (g : Nat) : Nm.at [(name, g)] name = some g := by simp [Nm.at]
theorem one_tmp (name : List UInt8) (g : Nat) : Nm.at [(name, g)] (tmpB ++ name) = none := by
  have : (name == tmpB ++ name) = false := by simpa using fun e : name = tmpB ++ name => tmp_ne name e.symm
  simp [Nm.at, this]
theorem one_size (name : List UInt8) (g : Nat) (fl : Nat → Fl) : sizeIn fl [(name, g)] = (fl g).nw.length := by simp [sizeIn]
theorem Mach.full {W w : World} {G : Nat} {F : Nat → Prop} {N sy : Nm} {mv : List Nm} {fl : Nat → Fl} {room : Int} {st : Nat} (m : Mach W w G ⟨N, sy, mv, fl, room, st, -1, false⟩ F) (name b : List UInt8) (hs : st + 20 ≤ 500000) (hb : b.length ≤ 1048576)
    (hl : name.length ≤ 36) (ht : N.at (tmpB ++ name) = none) (hn : N.length < 64) (hroom : room < (sizeIn fl N : Int) + b.length) :
    Calls Try.prog 15 #[.pointer (some ⟨G, 0, none⟩), .string (bs name), .string (bs b)] w fun e w' =>
      ∃ mv' F', e = .returned (.int .i64 8) ∧ Mach W w' G ⟨N, sy, mv', fl, room, st + 2, -1, false⟩ F' ∧ Turn w w' F F' := by
  refine (m.save name b hs (by omega) hb).mono ?_
  rintro e w' ⟨g, F', hg, rfl, m', hT⟩
  rw [pre_none ht] at hg
  have hN : N.ok := m.ok.names
  have h := save_full (sy := sy) (mv := mv) (st := st) hN hl ht hn hg.2 hroom
  rw [h] at m' ⊢
  exact ⟨_, F', rfl, m', hT⟩

set_option maxRecDepth 100000 in
set_option maxHeartbeats 4000000 in
theorem DiskFull_walk (name old b : List UInt8) (room : Int) (W : World) (_hn0 : name.length ≤ maxLen) (_ho0 : old.length ≤ maxLen) (_hb0 : b.length ≤ maxLen) (_hr1 : -9223372036854775808 ≤ room) (_hr2 : room ≤ 9223372036854775807) :
    Calls Try.prog 6 #[.string (bs name), .string (bs old), .string (bs b), .int .i64 room] W fun e w' => e = .returned (.bool true) ∧ Below W.heap.size W w' := by
  have q0 := Lib.hid (works_any W)
  go_enter Try.func6, Try.ntmps6
  go_wp2_with fail
  refine q0.out.mono ?_
  rintro e w0 ⟨rfl, hbl⟩
  have qn := Lib.hid (New_any w0 (wrap64 ((old.length : Int) + 1)))
  go_wp2_with fail
  refine qn.out.mono ?_
  rintro e w1 ⟨G, F1, rfl, hM, hT, hF⟩
  have m1 : Mach W w1 G ⟨[], [], [], fun _ => Fl.new, max (wrap64 ((old.length : Int) + 1)) 0, 0, -1, false⟩ F1 := ⟨hM, hbl.trans (hT.kept.below hbl.size (fun k hk => hk.elim)), fun k hk => Nat.le_trans hbl.size (hF k hk), new_ok _⟩
  clear hM hT hF q0 qn hbl
  by_cases hne : name = []
  · subst hne
    go_wp2
    go_ret
    exact ⟨rfl, m1.bel⟩
  by_cases hl : 36 < name.length
  · go_wp2
    go_ret
    exact ⟨rfl, m1.bel⟩
  by_cases ho : 300 < old.length
  · go_wp2
    go_ret
    exact ⟨rfl, m1.bel⟩
  by_cases hb : 300 < b.length
  · go_wp2
    go_ret
    exact ⟨rfl, m1.bel⟩
  rw [show wrap64 ((old.length : Int) + 1) = (old.length : Int) + 1 by unfold wrap64; omega] at m1
  have hne' : name.isEmpty = false := by simpa using hne
  have hr : rightN name = true := by
    unfold rightN
    simp [hne]
    omega
  have q := Lib.hid (m1.saved name old (by omega) (by omega) hr (by omega) (by rfl) (by decide) (by simp [sizeIn]; omega))
  go_wp2_with fail
  refine q.out.mono ?_
  rintro e w2 ⟨g, F2, _, _, rfl, m2, _⟩
  rw [show Nm.put [] name g = [(name, g)] from rfl] at m2
  have hfl : flSet (fun _ => Fl.new) g ⟨old, old, []⟩ g = ⟨old, old, []⟩ := flSet_same _ _ _
  generalize flSet (fun _ => Fl.new) g ⟨old, old, []⟩ = fl at *
  clear q m1
  have q := Lib.hid (Fs_Room_mem m2.mem room)
  go_wp2_with fail
  refine q.out.mono ?_
  rintro e w3 ⟨rfl, hM, hT⟩
  have m3 : Mach W w3 G ⟨[(name, g)], [(name, g)], [], fl, max room 0, 5, -1, false⟩ F2 := m2.turn hM hT (m2.ok.setRoom room)
  clear q m2 hM hT
  have q := Lib.hid (Fs_Steps_mem m3.mem)
  go_wp2_with fail
  refine q.out.mono ?_
  rintro e w4 ⟨rfl, rfl⟩
  simp only
  clear q
  have q := Lib.hid (Cost_any m3.mem m3.ok name (by omega))
  rw [show (Nm.at [(name, g)] (tmpB ++ name)) = none from one_tmp name g] at q
  go_wp2_with fail
  refine q.out.mono ?_
  rintro e w4 ⟨rfl, hb4⟩
  simp only [Option.isSome_none, Bool.false_eq_true, if_false]
  have m4 := m3.below hb4
  clear q m3 hb4
  have hz : sizeIn fl [(name, g)] = old.length := by rw [one_size, hfl]
  by_cases hc : ((old.length : Int) + b.length) ≤ max room 0
  · have q := Lib.hid (m4.saved name b (by omega) (by omega) hr (by omega) (one_tmp name g) (by simp) (by rw [hz]; exact hc))
    go_wp2_with fail
    refine q.out.mono ?_
    rintro e w5 ⟨g1, F5, _, _, rfl, m5, _⟩
    rw [one_put] at m5
    have hfl1 : flSet fl g1 ⟨b, b, []⟩ g1 = ⟨b, b, []⟩ := flSet_same _ _ _
    generalize flSet fl g1 ⟨b, b, []⟩ = fl1 at *
    clear q m4
    have q := Lib.hid (m5.read name (by omega))
    rw [ew_read (g1 := g1) (one_at name g1) hfl1] at q
    go_wp2_with fail
    refine q.out.mono ?_
    rintro e w6 ⟨rfl, rfl⟩
    clear q
    have q := Lib.hid (Fs_Steps_mem m5.mem)
    go_wp2_with fail
    refine q.out.mono ?_
    rintro e w6 ⟨rfl, rfl⟩
    clear q
    go_wp2
    go_ret
    exact ⟨rfl, m5.bel⟩
  · have q := Lib.hid (m4.full name b (by omega) (by omega) (by omega) (one_tmp name g) (by simp) (by rw [hz]; omega))
    go_wp2_with fail
    refine q.out.mono ?_
    rintro e w5 ⟨mv', F5, rfl, m5, _⟩
    clear q m4
    have q := Lib.hid (m5.read name (by omega))
    rw [ew_read (g1 := g) (one_at name g) hfl] at q
    go_wp2_with fail
    refine q.out.mono ?_
    rintro e w6 ⟨rfl, rfl⟩
    clear q
    have q := Lib.hid m5.list
    go_wp2_with fail
    refine q.out.mono ?_
    rintro e w6 ⟨lv, rfl, hs, m6, _⟩
    obtain ⟨la, lc, rfl⟩ := hs.len
    rw [show (Nm.keys [(name, g)]).length = 1 from rfl]
    go_wp2
    go_ret
    exact ⟨rfl, m6.bel⟩
end Go.Proofs.Ytocfaffiifhggaa
