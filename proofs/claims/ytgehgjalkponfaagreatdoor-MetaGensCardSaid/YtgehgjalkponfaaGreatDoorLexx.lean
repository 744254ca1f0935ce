/- A region that draws its order: a call one of whose arguments is hidden. Over any program. -/
import Derived.Test.YtgehgjalkponfaaGreatDoorLexg
namespace Go.Proofs.YtgehgjalkponfaaGreatDoor
open Go.RowKit

section
variable {R : World → World → Prop} {P : Program} {ops : Array Oper} {w0 : World} {n : Nat} {ds : List Deferred} {F : Act → World → Prop} {rest : List Oper} {H : List (Tmp × Held)} {a : Act} {o : Oper}

/-- All slots that an operation looks at but one are open. -/
def looksBut (ops : Array Oper) (H : List (Tmp × Held)) (d : Tmp) (o : Oper) : Bool := (o.looksAt ops).all fun t => t == d || (heldBy H t).isNone
def guardFree (ops : Array Oper) (H : List (Tmp × Held)) (d : Tmp) (o : Oper) : Bool := match o.guard with
  | none => true
  | some (g, _) => match (ops[g]?).bind (·.dst) with
    | none => true
    | some t => t != d && (heldBy H t).isNone
theorem eval_but {d : Tmp} (hz : d < a.tmps.size) (hl : looksBut ops H d o = true) {c : Act} {w : World} (h : ∀ t ∈ o.looksAt ops, fits H a t (c.eval (.tmp t)) w) : ∀ t ∈ o.looksAt ops, c.eval (.tmp t) = (a.put (some d) (c.eval (.tmp d))).eval (.tmp t) := fun t ht => by
  by_cases hd : d = t
  · subst hd
    rw [eval_put_same hz]
  · rw [eval_put_ne hd]
    have h1 := h t ht
    have h2 := List.all_eq_true.1 hl t ht
    unfold fits at h1
    cases he : heldBy H t with
    | none => rw [he] at h1; exact h1
    | some q =>
      rw [he] at h2
      simp only [Option.isNone_some, Bool.or_false, beq_iff_eq] at h2
      exact absurd h2.symm hd
theorem wanted_but {d : Tmp} (hg : guardFree ops H d o = true) {c : Act} {w : World} (h : ∀ t ∈ o.looksAt ops, fits H a t (c.eval (.tmp t)) w) : Region.wanted o (yielded ops c.tmps) = Region.wanted o (yielded ops a.tmps) :=
  wanted_of_fits fun g b u hgd hu => by
    unfold guardFree at hg
    rw [hgd] at hg
    simp only [hu] at hg
    have h1 := h u (guard_looks hgd hu)
    unfold fits at h1
    cases he : heldBy H u with
    | none => rw [he] at h1; exact h1
    | some q => rw [he] at hg; simp at hg
/-- A call, one of its arguments hidden; the answer is known. -/
theorem lex_callx (d : Tmp) {r : Held} {v : Value} (hw : Region.wanted o (yielded ops a.tmps) = true) (hns : ∀ cs b, o.op ≠ .select cs b) (hh : heldBy H d = some r) (hz : d < a.tmps.size) (hm : (o.looksAt ops).contains d = true) (hl : looksBut ops H d o = true) (hg : guardFree ops H d o = true) (hd : writesFree H a o.dst = true)
    (hr : ∀ x w, R w0 w → r x w → ∃ f args, (execOp (a.put (some d) x).eval o).run P w = .ok (.enter f args) w ∧ Calls P f args w fun e w' => e = .returned v ∧ R w w')
    (h : lexAt R P ops w0 n ds F rest H (a.put o.dst v)) : lexAt R P ops w0 n ds F (o :: rest) H a := by
  refine ⟨fun x _ => x = v, fun _ _ _ h _ => h, fun c w hb hs => .inr ⟨by rw [wanted_but hg hs]; exact hw, fun K Q' hK => ?_⟩, by rw [fits_put hd]; exact h⟩
  have h1 := hs d (List.contains_iff_mem.1 hm)
  unfold fits at h1
  rw [hh] at h1
  obtain ⟨f, args, h2, h3⟩ := hr _ _ hb h1
  unfold Oper.wp
  rw [exec_of_fits hns (eval_but hz hl hs), h2]
  exact h3.mono fun e w' ⟨e1, e2⟩ => by subst e1; exact hK _ _ e2 rfl
/-- A call, one of its arguments hidden; the answer is hidden. -/
theorem lex_callxh (d : Tmp) {e : Tmp} {r s : Held} (hk : s.keeps R) (hw : Region.wanted o (yielded ops a.tmps) = true) (hns : ∀ cs b, o.op ≠ .select cs b) (hh : heldBy H d = some r) (hz : d < a.tmps.size) (hm : (o.looksAt ops).contains d = true) (hl : looksBut ops H d o = true) (hg : guardFree ops H d o = true) (hd : o.dst = some e)
    (hr : ∀ x w, R w0 w → r x w → ∃ f args, (execOp (a.put (some d) x).eval o).run P w = .ok (.enter f args) w ∧ Calls P f args w fun e w' => ∃ y, e = .returned y ∧ R w w' ∧ s y w')
    (h : lexAt R P ops w0 n ds F rest ((e, s) :: H) a) : lexAt R P ops w0 n ds F (o :: rest) H a := by
  refine lex_any hk (fun c w hb hs => .inr ⟨by rw [wanted_but hg hs]; exact hw, fun K Q' hK => ?_⟩) hd h
  have h1 := hs d (List.contains_iff_mem.1 hm)
  unfold fits at h1
  rw [hh] at h1
  obtain ⟨f, args, h2, h3⟩ := hr _ _ hb h1
  unfold Oper.wp
  rw [exec_of_fits hns (eval_but hz hl hs), h2]
  exact h3.mono fun e w' ⟨y, e1, e2, e3⟩ => by subst e1; exact hK _ _ e2 e3
end
end Go.Proofs.YtgehgjalkponfaaGreatDoor
