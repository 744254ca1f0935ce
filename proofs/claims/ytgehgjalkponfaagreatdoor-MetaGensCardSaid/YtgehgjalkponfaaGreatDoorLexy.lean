/- A region that draws its order, with a row of calls that turn the world: an operation one of whose slots is hidden. Over any program. -/
import Derived.Test.YtgehgjalkponfaaGreatDoorLexc
import Derived.Test.YtgehgjalkponfaaGreatDoorLexx
namespace Go.Proofs.YtgehgjalkponfaaGreatDoor
open Go.RowKit

section
variable {S : Phases} {ch : List Nat} {P : Program} {ops : Array Oper} {n k : Nat} {ds : List Deferred} {F : Act → World → Prop} {rest : List Oper} {H : List (Tmp × Held)} {a : Act} {o : Oper}
/-- An operation that only reckons, of a hidden slot: its value is known. -/
theorem lexc_valx (d : Tmp) {r : Held} {v : Value} (hi : ch.contains k = false) (hw : Region.wanted o (yielded ops a.tmps) = true) (hns : ∀ cs b, o.op ≠ .select cs b) (hh : heldBy H d = some r) (hz : d < a.tmps.size) (hm : (o.looksAt ops).contains d = true) (hl : looksBut ops H d o = true) (hg : guardFree ops H d o = true) (hd : writesFree H a o.dst = true)
    (hr : ∀ x w, (∃ q, S.ph q w) → r x w → (execOp (a.put (some d) x).eval o).run P w = .ok (.value v) w)
    (h : lexAtC S ch P ops n ds F (k + 1) rest H (a.put o.dst v)) : lexAtC S ch P ops n ds F k (o :: rest) H a := by
  refine ⟨fun x _ => x = v, fun _ _ _ h _ => h, svO hi fun c w hb hs => .inr ⟨by rw [wanted_but hg hs]; exact hw, fun K Q' hK => ?_⟩, by rw [fits_put hd]; exact h⟩
  have h1 := hs d (List.contains_iff_mem.1 hm)
  unfold fits at h1
  rw [hh] at h1
  unfold Oper.wp
  rw [exec_of_fits hns (eval_but hz hl hs), hr _ _ hb h1]
  exact hK _ _ (Turns.refl _) rfl
end
end Go.Proofs.YtgehgjalkponfaaGreatDoor
