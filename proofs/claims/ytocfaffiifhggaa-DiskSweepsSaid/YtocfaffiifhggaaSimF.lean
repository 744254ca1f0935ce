/- Files on a machine: what the closures do to the names. -/
import Derived.Test.YtocfaffiifhggaaSimE
namespace Go.Proofs.Ytocfaffiifhggaa
open Go.RowKit Go.Maps Go.WideMaps

theorem nameKey (l : List UInt8) (hl : l.length ≤ maxLen) : keyOf Try.prog 9 (.string (bs l)) = some (.string l) := keyOf_string_mk Try.underlying9 (by rw [bs_size]; exact hl)

set_option maxRecDepth 100000 in
theorem Remove_do_any {w : World} {b n p : Nat} {D : DataW Unit} (l : List UInt8) (hl : l.length ≤ maxLen) (hD : Dir w b n D) (hp : w.cell? ⟨p, 0, none⟩ = some (.string (bs l))) :
    Calls Try.prog 56 #[.map (some b), .pointer (some ⟨p, 0, none⟩)] w fun e w' => e = .returned (.tuple #[]) ∧ Dir w' b n (D.del (.string l)) ∧ w.mapTurned w' b := by
  unfold Dir at *
  have hkey := nameKey l hl
  go_enter Try.func56, Try.ntmps56
  go_wp2_with (at_delete; refine wpList_delete_own _ rfl _ _ 46 9 rfl 50 (string_keyed Try.underlying9) Try.underlying46 _ b n D rfl hD _ _ rfl hkey ?_; intro w1 hown1 hturn1)
  go_end0
  exact ⟨rfl, hown1, hturn1⟩

set_option maxRecDepth 100000 in
theorem Create_do_any {w : World} {b n p : Nat} {D : DataW Unit} (l : List UInt8) (hl : l.length ≤ maxLen) (hn : n < maxLen) (hD : Dir w b n D) (hp : w.cell? ⟨p, 0, none⟩ = some (.string (bs l))) :
    Calls Try.prog 26 #[.map (some b), .pointer (some ⟨p, 0, none⟩)] w fun e w' => e = .returned (.tuple #[]) ∧ Dir w' b (n + 1) (D.put (.string l) (.lit (.int .u64 (w.heap.size : Int)))) ∧
      FileAt w' w.heap.size [] [] (.slice none 0 0) ∧ w.grownBy w' (some b) := by
  unfold Dir at *
  have hkey := nameKey l hl
  have hlt := hD.lt
  go_enter Try.func26, Try.ntmps26
  go_wp2_with (at_mapUpdate; refine wpList_mapUpdate_own _ rfl _ _ _ 46 rfl 9 50 (string_keyed Try.underlying9) Try.underlying46 ptrR b n D rfl (hD.alloc _) hn _ _ _ rfl rfl hkey (.lit (.int .u64 (w.heap.size : Int))) [] rfl ?_; intro w1 hown1 hgrow1)
  go_end0
  refine ⟨rfl, hown1, ?_, grown_trans' (World.grownBy_alloc w _ _) hgrow1⟩
  exact Blk.grown (Blk.new w _ _) hgrow1 (by simp; omega)

set_option maxRecDepth 100000 in
theorem Fs_Read_any {w : World} {G nb sb : Nat} {mv : Value} {room steps fuse : Int} {n g : Nat} {D : DataW Unit} {synced now : List UInt8} {ch : Value} (l : List UInt8) (hl : l.length ≤ maxLen) (h : FsAt w G nb sb mv room steps fuse false) (hD : Dir w nb n D)
    (hh : Maps.has D (.string l) = true) (ha : D.atKey (.string l) .nil = .lit (.int .u64 (g : Int))) (hF : FileAt w g synced now ch) :
    Calls Try.prog 14 #[.pointer (some ⟨G, 0, none⟩), .string (bs l)] w fun e w' => e = .returned (.tuple #[.string (bs now), .int .i64 0]) ∧ w = w' := by
  obtain ⟨c0, c1, c2⟩ := hF.c
  have q := Lib.hid (Fs_of_any D l hl h hD)
  go_enter Try.func14, Try.ntmps14
  go_wp2_with fail
  refine q.out.mono ?_
  rintro e w1 ⟨⟨v, rfl, hv⟩, rfl⟩
  unfold ofV at hv
  rw [if_neg (by simp), if_neg (by simp [hh])] at hv
  obtain ⟨x, ps, hx, rfl⟩ := hv
  rw [ha] at hx
  obtain ⟨g', hg, rfl⟩ := ptrR_lit hx
  obtain rfl : g = g' := by omega
  go_wp2
  go_ret2
  exact ⟨rfl, rfl⟩
end Go.Proofs.Ytocfaffiifhggaa
