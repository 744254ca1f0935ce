/- Files on a machine: a crash. -/
import Derived.Test.YtocfaffiifhggaaSimR
namespace Go.Proofs.Ytocfaffiifhggaa
open Go.RowKit Go.Maps Go.WideMaps
attribute [local go_sem] bs_toList bs_size

theorem crashFl_snoc (ks : List Int) (p : List UInt8 × Nat) : ∀ (N : Nm) (i : Nat) (fl : Nat → Fl), crashFl ks i (N ++ [p]) fl =
    fun k => if k = p.2 then (crashFl ks i N fl p.2).survive (keptN ks (1 + 2 * (i + N.length))) (keptN ks (2 + 2 * (i + N.length))) else crashFl ks i N fl k
  | [], i, fl => rfl
  | q :: N, i, fl => by
    show crashFl ks (i + 1) (N ++ [p]) _ = _
    rw [crashFl_snoc ks p N (i + 1)]
    simp only [List.length_cons, show i + 1 + N.length = i + (N.length + 1) by omega]
    rfl
theorem crashFl_ok (ks : List Int) {B n : Nat} : ∀ (N : Nm) (i : Nat) (fl : Nat → Fl), (∀ k, (fl k).ok B n) → ∀ k, (crashFl ks i N fl k).ok B n
  | [], _, _, h => h
  | p :: N, i, fl, h => crashFl_ok ks N (i + 1) _ fun k => by
    split
    · exact (h p.2).survive _ _
    · exact h k

section
variable {w : World} {G : Nat} {S : FsS} {F : Nat → Prop}

theorem survive_mem {g B : Nat} (k n : Nat) (h : FsMem w G S F) (hg : S.live g) (hok : (S.fl g).ok B 1000000) (hB : B ≤ 549755813888) (hk : k ≤ 9223372036854775807) (hn : n ≤ 9223372036854775807) :
    Calls Try.prog 46 #[.pointer (some ⟨g, 0, none⟩), .int .i64 (k : Int), .int .i64 (n : Int)] w fun e w' => e = .returned (.tuple #[]) ∧ ∃ F', FsMem w' G (S.setFl g ((S.fl g).survive k n)) F' ∧ Turn w w' F F' := by
  obtain ⟨nb, sb, mv, mbs, chv, h⟩ := h
  obtain ⟨h1, h2⟩ := h.fl g hg
  have fin : ∀ e w', (e = Ending.returned (.tuple #[]) ∧ FileAt w' g ((S.fl g).left k n) ((S.fl g).left k n) (.slice none 0 0) ∧ w.grownBy w' (some g)) → e = Ending.returned (.tuple #[]) ∧ ∃ F', FsMem w' G (S.setFl g ((S.fl g).survive k n)) F' ∧ Turn w w' F F' := by
    rintro e w' ⟨rfl, e1, e2⟩
    obtain ⟨F', r1, r2⟩ := h.file (x := (S.fl g).survive k n) hg e1 (World.ownsRow_nil _ _ _ _) (fun k hk => by cases hk) (Kept.of_grown e2 fun k hk => .inl (Option.some.inj hk).symm)
    exact ⟨rfl, F', ⟨_, _, _, _, _, r1⟩, r2⟩
  rcases h2.2 with ⟨e1, e2⟩ | ⟨c, cap, cur, e1, e2⟩
  · rw [e1] at h1
    exact (survive_nil_any k n h1 (List.length_eq_zero_iff.1 e2)).mono fin
  · rw [e1] at h1 h2
    exact (survive_row_any k n h1 h2 hok hB hk hn).mono fin

theorem lookup_run {N : Nm} {b n g : Nat} {l : List UInt8} (hl : l.length ≤ maxLen) (hD : Dir w b n N.data) (hg : N.at l = some g) :
    (Instr.lookup 46 (.map (some b)) (.string (bs l)) false).run Try.prog w = .ok (.pointer (some ⟨g, 0, none⟩)) w := by
  obtain ⟨v, ps, h1, h2⟩ := World.ownsMap.lookup (t := 46) (e := 50) hD (string_keyed Try.underlying9) Try.underlying46 (z := .pointer none) (by kernel_rfl) (zd := .nil) (zp := []) rfl (nameKey l hl)
  rw [Nm.atKey_data, hg] at h2
  obtain ⟨g', e1, rfl⟩ := ptrR_lit h2
  obtain rfl : g = g' := by omega
  exact h1

def FsS.crashed (S : FsS) (ks : List Int) (i : Nat) : FsS := { S with names := S.crashDir ks, synced := S.crashDir ks, moves := [], dead := false, fuse := -1, fl := crashFl ks 0 ((S.crashDir ks).take i) S.fl }

theorem crashDir_mem (S : FsS) (ks : List Int) : S.crashDir ks ∈ S.dirs := by
  unfold FsS.crashDir
  have hlt : keptN ks 0 % (S.moves.length + 1) < S.moves.length + 1 := Nat.mod_lt _ (by omega)
  cases hm : keptN ks 0 % (S.moves.length + 1) with
  | zero => simp [FsS.dirs]
  | succ n =>
    have : n < S.moves.length := by omega
    simp only [FsS.dirs]
    rw [List.getD_eq_getElem?_getD, List.getElem?_eq_getElem this]
    simp

theorem crashed_succ (S : FsS) (ks : List Int) (i : Nat) {p : List UInt8 × Nat} (hp : (S.crashDir ks)[i]? = some p) :
    S.crashed ks (i + 1) = (S.crashed ks i).setFl p.2 (((S.crashed ks i).fl p.2).survive (keptN ks (1 + 2 * i)) (keptN ks (2 + 2 * i))) := by
  have hi : i < (S.crashDir ks).length := (List.getElem?_eq_some_iff.1 hp).1
  unfold FsS.crashed FsS.setFl
  rw [List.take_add_one, hp]
  simp only [Option.toList]
  rw [crashFl_snoc, List.length_take, Nat.min_eq_left (by omega), Nat.zero_add]

/-- A round of the crash. -/
theorem crash_round {i : Nat} {ks : List Int} {p : List UInt8 × Nat} (h : FsMem w G (S.crashed ks i) F) (hok : S.ok) (hs : S.steps ≤ 500000) (hp : (S.crashDir ks)[i]? = some p) {v : Value} (hk : KeepAt w v ks) :
    Calls Try.prog 46 #[.pointer (some ⟨p.2, 0, none⟩), .int .i64 (keptN ks (1 + 2 * i) : Nat), .int .i64 (keptN ks (2 + 2 * i) : Nat)] w fun e w' => e = .returned (.tuple #[]) ∧ ∃ F', FsMem w' G (S.crashed ks (i + 1)) F' ∧ Turn w w' F F' := by
  have hlive : (S.crashed ks i).live p.2 := ⟨S.crashDir ks, by simp [FsS.crashed, FsS.dirs], List.mem_map.2 ⟨p, List.mem_of_getElem? hp, rfl⟩⟩
  have hf : ((S.crashed ks i).fl p.2).ok (bytesMost S.steps) 1000000 := (crashFl_ok ks _ 0 S.fl hok.files p.2).mono (Nat.le_refl _) (by omega)
  rw [crashed_succ S ks i hp]
  exact survive_mem _ _ h hlive hf (by unfold bytesMost; omega) (hk.le _) (hk.le _)

set_option maxRecDepth 100000 in
set_option maxHeartbeats 2000000 in
/-- What stands behind the names' being set. -/
theorem crash_sets {ks : List Int} (h : FsMem w G S F) : ∃ nb sb mv, FsAt w G nb sb mv S.room S.steps S.fuse S.dead ∧
    (∃ mbs : List Nat, w.ownsRow 0 46 1 mv mbs.length (mbs.map fun b => .map (some b)) ∧ mbs.length = S.moves.length ∧
      ∃ cb, (∀ n, keptN ks 0 % (S.moves.length + 1) = n + 1 → mbs[n]? = some cb) ∧ (keptN ks 0 % (S.moves.length + 1) = 0 → cb = sb) ∧
        ∀ w', w.grownBy w' (some G) → FsAt w' G cb cb (.slice none 0 0) S.room S.steps (-1) false → FsMem w' G (S.crashed ks 0) F ∧ Dir w' cb (S.crashDir ks).length (S.crashDir ks).data) := by
  obtain ⟨nb, sb, mv, mbs, chv, h⟩ := h
  have hlt : keptN ks 0 % (S.moves.length + 1) < S.moves.length + 1 := Nat.mod_lt _ (by omega)
  have key : ∀ cb, F cb → Dir w cb (S.crashDir ks).length (S.crashDir ks).data → ∀ w', w.grownBy w' (some G) → FsAt w' G cb cb (.slice none 0 0) S.room S.steps (-1) false → FsMem w' G (S.crashed ks 0) F ∧ Dir w' cb (S.crashDir ks).length (S.crashDir ks).data := fun cb hc hD w' hg hF => by
    refine ⟨⟨_, _, _, _, _, h.settle hg hF (crashDir_mem S ks) (crashDir_mem S ks) hc hc hD hD⟩, hD.kept (Kept.of_grown (S := fun k => k = G) hg fun k hk => (Option.some.inj hk).symm) fun e => ?_⟩
    subst e
    exact absurd ((tag_dir hD).symm.trans h.tagG) (by simp)
  refine ⟨nb, sb, mv, h.fs, mbs, h.mr, h.ml, ?_⟩
  cases hm : keptN ks 0 % (S.moves.length + 1) with
  | zero =>
    have hd : S.crashDir ks = S.synced := by unfold FsS.crashDir; rw [hm]
    exact ⟨sb, fun n hn => by omega, fun _ => rfl, key sb h.oS (by rw [hd]; exact h.sy)⟩
  | succ n =>
    have hn : n < mbs.length := by rw [h.ml]; omega
    obtain ⟨N, e1, e2⟩ := h.md n mbs[n] (List.getElem?_eq_getElem hn)
    have hd : S.crashDir ks = N := by
      unfold FsS.crashDir
      rw [hm]
      simp only []
      rw [List.getD_eq_getElem?_getD, e1]
      rfl
    exact ⟨mbs[n], fun m hm => by
      obtain rfl : n = m := by omega
      exact List.getElem?_eq_getElem hn, fun e => by omega, key _ (h.oM _ (List.getElem_mem hn)) (by rw [hd]; exact e2)⟩
end
end Go.Proofs.Ytocfaffiifhggaa
