/- A cursor's states in a region that draws its order. (The templates of layer 10 have these too: Lexd.) -/
import Derived.Test.YtgehgjalkponfaaGreatDoorLexc
import Derived.Test.YtgehgjalkponfaaGreatDoorTurn
import Derived.Test.YtgehgjalkponfaaGreatDoorCurS
namespace Go.Proofs.YtgehgjalkponfaaGreatDoor
open Go.RowKit

/-- A cursor's states, one behind another, by calls of a row. -/
def curPh (w0 : World) (g : Nat) (cs : List CS) (c0 : CS) (h0 : cs[0]? = some c0) (hC : Cur w0 g c0.1 c0.2) : Phases where
  ph q w := Kept w0 w (fun k => k = g) ∧ ∃ c, cs[q]? = some c ∧ Cur w g c.1 c.2
  K a b := Kept a b (fun k => k = g)
  w0 := w0
  start := ⟨Kept.refl _ _, c0, h0, hC⟩
  refl w := Kept.refl w _
  trans h k := h.trans k
  grow h := Kept.of_below h
  stay h k := ⟨h.1.trans (Kept.of_below k), by obtain ⟨c, h1, h2⟩ := h.2; exact ⟨c, h1, Blk.below h2 k h2.lt⟩⟩
theorem cur_row {P : Program} {f : FuncId} {args : Array Value} {w0 w : World} {g q : Nat} {cs : List CS} {c0 c c' : CS} {h0 : cs[0]? = some c0} {hC : Cur w0 g c0.1 c0.2} {v : Value} (hw : (curPh w0 g cs c0 h0 hC).ph q w) (hc : cs[q]? = some c) (hc' : cs[q + 1]? = some c')
    (h : Cur w g c.1 c.2 → Calls P f args w fun e w' => e = .returned v ∧ Cur w' g c'.1 c'.2 ∧ w.grownBy w' (some g)) :
    Calls P f args w fun e w' => e = .returned v ∧ (curPh w0 g cs c0 h0 hC).K w w' ∧ (curPh w0 g cs c0 h0 hC).ph (q + 1) w' := by
  obtain ⟨h1, c2, h2, h3⟩ := hw
  obtain rfl : c2 = c := by rw [hc] at h2; exact (Option.some.inj h2).symm
  refine (h h3).mono ?_
  rintro e w' ⟨rfl, h4, h5⟩
  have hk : Kept w w' (fun k => k = g) := Kept.of_grown h5 fun k e => (Option.some.inj e).symm
  exact ⟨rfl, hk, h1.trans hk, c', hc', h4⟩

/-- An operation of the row that answers nothing. -/
theorem lexc_do {S : Phases} {ch : List Nat} {P : Program} {ops : Array Oper} {n k : Nat} {ds : List Deferred} {F : Act → World → Prop} {rest : List Oper} {H : List (Tmp × Held)} {a : Act} {o : Oper} (q : Nat) (hi : ch.contains k = true) (hq : ch.idxOf k = q) (hgd : o.guard = none) (hns : ∀ cs b, o.op ≠ .select cs b) (hl : looksFree ops H o = true) (hd : o.dst = none)
    (hr : ∀ w, S.ph q w → ∃ w', (execOp a.eval o).run P w = .ok .skip w' ∧ S.K w w' ∧ S.ph (q + 1) w')
    (h : lexAtC S ch P ops n ds F (k + 1) rest H a) : lexAtC S ch P ops n ds F k (o :: rest) H a := by
  refine ⟨fun _ _ => True, fun _ _ _ _ _ => trivial, svQ hi hq fun c w hb hs => ⟨by unfold Region.wanted; rw [hgd], fun K Q' hK => ?_⟩, ?_⟩
  · have he := eval_of_fits hl hs
    obtain ⟨w', h1, h2, h3⟩ := hr w hb
    unfold Oper.wp
    rw [exec_of_fits hns he, h1]
    exact hK _ _ h2 h3 trivial
  · have : (fun t => if o.dst = some t then (fun _ _ => True : Held) else fits H a t) = fits H a := by
      funext t
      rw [hd]
      simp
    rw [this]
    exact h
end Go.Proofs.YtgehgjalkponfaaGreatDoor
