/- A file is saved as a whole: the deferred call. -/
import Derived.Test.YtocfaffiifhggaaDskB
namespace Go.Proofs.Ytocfaffiifhggaa
open Go.RowKit Go.Maps Go.WideMaps Go.ChangeShapes Go.WideShapes
attribute [local go_sem] bs_toList bs_size

section
variable {w : World} {G : Nat} {S : FsS} {F : Nat → Prop}

set_option maxRecDepth 100000 in
theorem Save1_done {pd p0 p3 : Nat} (u : FrameMode) (cd : w.cell? ⟨pd, 0, none⟩ = some (.bool true)) :
    CallsD Try.prog 38 #[.pointer (some ⟨pd, 0, none⟩), .pointer (some ⟨p0, 0, none⟩), .pointer (some ⟨p3, 0, none⟩)] u w fun e u' w' => u' = u ∧ (e = .returned (.tuple #[]) ∧ w = w') := by
  go_enter_d Try.func38, Try.ntmps38
  go_wp2
  go_end0
  exact ⟨rfl, rfl⟩

set_option maxRecDepth 100000 in
theorem Save1_not {pd p0 p3 : Nat} (u : FrameMode) (tmp : List UInt8) (h : FsMem w G S F) (hok : S.ok) (hs : S.steps ≤ 500000) (ht : tmp.length ≤ 1048576) (cd : w.cell? ⟨pd, 0, none⟩ = some (.bool false))
    (c0 : w.cell? ⟨p0, 0, none⟩ = some (.pointer (some ⟨G, 0, none⟩))) (c3 : w.cell? ⟨p3, 0, none⟩ = some (.string (bs tmp))) :
    CallsD Try.prog 38 #[.pointer (some ⟨pd, 0, none⟩), .pointer (some ⟨p0, 0, none⟩), .pointer (some ⟨p3, 0, none⟩)] u w fun e u' w' => u' = u ∧ (e = .returned (.tuple #[]) ∧ ∃ F', FsMem w' G (S.remove tmp).1 F' ∧ Turn w w' F F') := by
  have q := Lib.hid (Fs_Remove_mem h hok hs tmp ht)
  go_enter_d Try.func38, Try.ntmps38
  go_wp2_with fail
  refine q.out.mono ?_
  intro e w' hd
  have hR := Lib.hid hd
  obtain rfl := hd.form
  clear hd
  go_wp2
  go_end0
  obtain ⟨F', h1, _, h3⟩ := hR.out
  exact ⟨rfl, F', h3, h1⟩
end
end Go.Proofs.Ytocfaffiifhggaa
