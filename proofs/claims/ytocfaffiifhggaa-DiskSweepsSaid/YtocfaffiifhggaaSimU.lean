/- Files on a machine: New. -/
import Derived.Test.YtocfaffiifhggaaSimT
namespace Go.Proofs.Ytocfaffiifhggaa
open Go.RowKit Go.Maps Go.WideMaps

theorem new_ok (room : Int) : (FsS.new room).ok where
  room := by show 0 ≤ max room 0; omega
  fuse1 := by show -1 ≤ -1; omega
  fuse2 := by show -1 ≤ 1073741824; omega
  moves := Nat.le_refl _
  dirs := fun N hN => by
    simp only [FsS.new, FsS.dirs, List.mem_cons, List.not_mem_nil, or_false, or_self] at hN
    subst hN
    exact ⟨Nm.ok_nil, by simp⟩
  files := fun _ => Fl.ok_new _ _

theorem new_live {room : Int} {g : Nat} (h : (FsS.new room).live g) : False := by
  obtain ⟨N, hN, hg⟩ := h
  simp only [FsS.new, FsS.dirs, List.mem_cons, List.not_mem_nil, or_false, or_self] at hN
  subst hN
  cases hg

/-- A machine made of new blocks. -/
theorem new_mem {w w' : World} {G nb sb : Nat} {room : Int} (hb : Below w.heap.size w w') (hF : FsAt w' G nb sb (.slice none 0 0) (max room 0) 0 (-1) false) (hn : Dir w' nb 0 (.map [])) (hs : Dir w' sb 0 (.map [])) (h1 : w.heap.size ≤ G) (h2 : w.heap.size ≤ nb) (h3 : w.heap.size ≤ sb) :
    ∃ F, FsMem w' G (FsS.new room) F ∧ Turn w w' (fun _ => False) F ∧ ∀ k, F k → w.heap.size ≤ k := by
  refine ⟨fun k => w.heap.size ≤ k ∧ k < w'.heap.size, ⟨nb, sb, .slice none 0 0, [], fun _ => .slice none 0 0, ?_⟩, ⟨Kept.of_below hb, fun k hk => .inr hk.1⟩, fun k hk => hk.1⟩
  exact {
    fs := hF
    nm := hn
    sy := hs
    mr := World.ownsRow_nil _ _ _ _
    ml := rfl
    md := fun i b h => by simp at h
    fl := fun g hg => (new_live hg).elim
    apart := fun g g' k hg => (new_live hg).elim
    new := fun _ _ => rfl
    oG := ⟨h1, Blk.lt hF⟩
    oN := ⟨h2, World.ownsMap.lt hn⟩
    oS := ⟨h3, World.ownsMap.lt hs⟩
    oM := fun b hb => by cases hb
    oR := fun k hk => by cases hk
    oF := fun g hg => (new_live hg).elim
    oC := fun g k hg => (new_live hg).elim
    lt := fun k hk => hk.2 }

set_option maxRecDepth 100000 in
theorem New_any (w : World) (room : Int) : Calls Try.prog 9 #[.int .i64 room] w fun e w' => ∃ G F, e = .returned (.pointer (some ⟨G, 0, none⟩)) ∧ FsMem w' G (FsS.new room) F ∧ Turn w w' (fun _ => False) F ∧ ∀ k, F k → w.heap.size ≤ k := by
  have hmm := @run_makeMap Try.prog
  have h0 : Dir (w.alloc (.map #[] 0)) w.heap.size 0 (.map []) := World.ownsMap_made _ _ _ _
  have h1 : Dir ((w.alloc (.map #[] 0)).alloc (.map #[] 0)) (w.heap.size + 1) 0 (.map []) := by
    have := World.ownsMap_made (w.alloc (.map #[] 0)) Try.prog 9 ptrR
    rwa [World.size_alloc] at this
  have hs : ((w.alloc (.map #[] 0)).alloc (.map #[] 0)).heap.size = w.heap.size + 1 + 1 := by simp
  have hF : FsAt (((w.alloc (.map #[] 0)).alloc (.map #[] 0)).alloc (.cells #[.map (some w.heap.size), .map (some (w.heap.size + 1)), .slice none 0 0, .int .i64 (max room 0), .int .i64 0, .int .i64 (-1), .bool false] 49)) (w.heap.size + 1 + 1) w.heap.size (w.heap.size + 1) (.slice none 0 0) (max room 0) 0 (-1) false := by
    have := Blk.new ((w.alloc (.map #[] 0)).alloc (.map #[] 0)) 49 #[.map (some w.heap.size), .map (some (w.heap.size + 1)), .slice none 0 0, .int .i64 (max room 0), .int .i64 0, .int .i64 (-1), .bool false]
    rwa [hs] at this
  have R := Lib.hid (new_mem (w := w) ((((Below.refl _ w).alloc (Nat.le_refl _) _).alloc (by simp) _).alloc (by simp; omega) _) hF ((World.ownsMap.alloc (World.ownsMap.alloc h0 _)) _) (World.ownsMap.alloc h1 _) (by omega) (by omega) (by omega))
  clear h0 h1 hs hF
  go_enter Try.func9, Try.ntmps9
  go_wp2
  all_goals
    go_ret
    obtain ⟨F, r⟩ := R.out
    exact ⟨_, F, rfl, r⟩
end Go.Proofs.Ytocfaffiifhggaa
