/- A region that draws its order: an operation that is not waited for. -/
import Derived.Test.YtgehgjalkponfaaGreatDoorLexg
namespace Go.Proofs.YtgehgjalkponfaaGreatDoor
open Go.RowKit
section
variable {R : World → World → Prop} {P : Program} {ops : Array Oper} {w0 : World} {n : Nat} {ds : List Deferred} {F : Act → World → Prop} {rest : List Oper} {H : List (Tmp × Held)} {a : Act} {o : Oper}
/-- An operation that is not waited for. -/
theorem lex_none (hw : Region.wanted o (yielded ops a.tmps) = false) (hl : looksFree ops H o = true) (hd : writesFree H a o.dst = true)
    (h : ∀ K : Act → Prop, (∀ a', lexAt R P ops w0 n ds F rest H a' → K a') → wpQuiet P ops (fun w' => ∃ x : RW R w0, w' = x.w) K [o] a) : lexAt R P ops w0 n ds F (o :: rest) H a := by
  have h' := h _ fun _ h => h
  unfold wpQuiet at h'
  rw [if_neg (by simp [hw])] at h'
  exact lex_skip hw hl hd h'

end
end Go.Proofs.YtgehgjalkponfaaGreatDoor
