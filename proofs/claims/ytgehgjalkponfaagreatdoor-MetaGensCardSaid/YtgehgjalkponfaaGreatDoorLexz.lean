/- A region that draws its order: an append of a known slice onto a fresh row that is full, in a hidden slot. Over any program. -/
import Derived.Test.YtgehgjalkponfaaGreatDoorLexx
import Derived.Test.YtgehgjalkponfaaGreatDoorGrow
import Derived.Test.YtgehgjalkponfaaGreatDoorLexa
import Derived.Deep.Upon
namespace Go.Proofs.YtgehgjalkponfaaGreatDoor
open Go.RowKit

/-- A row that is full, and its cells. -/
def FullRow (k : Nat) (olds : List Value) : Held := fun x W => ∃ p, x = .slice (some ⟨p, 0, none⟩) k k ∧ ∀ j u, olds[j]? = some u → W.cell? ((⟨p, 0, none⟩ : Addr).add j) = some u
theorem FullRow_keeps {k : Nat} {olds : List Value} : (FullRow k olds).keeps GrowR := fun _ _ _ ⟨p, h1, h2⟩ hR => ⟨p, h1, fun j u hu => (Below.cell hR (World.block_lt_of_cell? _ _ (h2 j u hu))).trans (h2 j u hu)⟩
/-- A row, and its cells. -/
def RowHeld (k : Nat) (vals : List Value) : Held := fun x W => ∃ p c, x = .slice (some ⟨p, 0, none⟩) k c ∧ ∀ j u, vals[j]? = some u → W.cell? ((⟨p, 0, none⟩ : Addr).add j) = some u
theorem RowHeld_keeps {k : Nat} {olds : List Value} : (RowHeld k olds).keeps GrowR := fun _ _ _ ⟨p, c, h1, h2⟩ hR => ⟨p, c, h1, fun j u hu => (Below.cell hR (World.block_lt_of_cell? _ _ (h2 j u hu))).trans (h2 j u hu)⟩
theorem add_at (p j : Nat) : (⟨p, 0, none⟩ : Addr).add j = ⟨p, j, none⟩ := by unfold Addr.add; split <;> simp_all

section
variable {P : Program} {ops : Array Oper} {w0 : World} {n : Nat} {ds : List Deferred} {F : Act → World → Prop} {rest : List Oper} {H : List (Tmp × Held)} {a : Act} {o : Oper}
theorem lex_full (d k : Nat) (news : List Value)
    (hw : Region.wanted o (yielded ops a.tmps) = true) (hns : ∀ cs b, o.op ≠ .select cs b) (hl : looksFree ops H o = true) (hd : o.dst = some d) (E : TypeId)
    (hr : ∀ w, (execOp a.eval o).run P w = .ok (.value (.slice (some ⟨w.heap.size, 0, none⟩) k k)) (w.alloc (.cells news.toArray E)))
    (h : lexAt GrowR P ops w0 n ds F rest ((d, FullRow k news) :: H) a) : lexAt GrowR P ops w0 n ds F (o :: rest) H a := by
  refine lex_make FullRow_keeps hw hns hl hd (fun w hW => ⟨_, _, hr w, (Below.refl _ w).alloc (Nat.le_refl _) _, w.heap.size, rfl, fun j u hu => ?_⟩) h
  rw [add_at, World.cell?_alloc_new]
  simpa using hu
theorem lex_appfull {s x d : Tmp} {t e : TypeId} {i : TypeInfo} {z : Value} {size bytes k m c : Nat} {ba : Option Addr} {olds news : List Value} (hgd : o.guard = none) (ho : o.op = .call { callee := .builtin .append, args := #[.tmp s, .tmp x], argTypes := #[t, t] }) (hd : o.dst = some d)
    (ht : P.underlying t = some (.slice e)) (hi : P.info? e = some i) (hz : i.zero = some z) (hsize : i.size = size) (hby : i.bytes = bytes) (_hzs : z.cells.size = size)
    (hsn : heldBy H s = some (FullRow k olds)) (hxn : heldBy H x = none) (hx : a.eval (.tmp x) = .slice ba m c) (h0 : ba = none → m = 0 ∧ c = 0) (hol : olds.length = k * size) (hl : news.length = m * size)
    (hnews : ∀ a', ba = some a' → ∀ j u, news[j]? = some u → w0.cell? (a'.add j) = some u) (h63 : k + m ≤ maxLen) (hbytes : (k + m) * bytes ≤ 140737488355328)
    (h : lexAt GrowR P ops w0 n ds F rest ((d, RowHeld (k + m) (olds ++ news)) :: H) a) : lexAt GrowR P ops w0 n ds F (o :: rest) H a := by
  refine lex_any RowHeld_keeps (fun cc w hR hf => .inr ⟨?_, fun K Q' hK => ?_⟩) hd h
  · unfold Region.wanted
    rw [hgd]
  · have hes := hf s (by simp [Oper.looksAt, ho, hgd, Op.operands, Call.operands])
    have hex := hf x (by simp [Oper.looksAt, ho, hgd, Op.operands, Call.operands])
    unfold fits at hes hex
    rw [hsn] at hes
    rw [hxn] at hex
    obtain ⟨p, hes, hc⟩ := hes
    simp only at hex
    rw [hx] at hex
    have hrun : ∃ v' w', (Builtin.append_ #[t, t] o.type #[.slice (some ⟨p, 0, none⟩) k k, .slice ba m c]).run P w = .ok v' w' ∧ GrowR w w' ∧ RowHeld (k + m) (olds ++ news) v' w' := by
      by_cases hm : m = 0
      · subst hm
        obtain rfl : news = [] := List.length_eq_zero_iff.1 (by simpa using hl)
        have hs : Src P i.size t (.slice ba 0 c) 0 [] w := by
          cases ba with
          | none => exact Src.ofNil w ht c
          | some a' => exact Src.ofSlice w ht a' 0 c [] (by simp) (fun j u hu => by simp at hu) (fun u hu => by cases hu)
        refine ⟨_, w, run_append_nothing w t t o.type e i ht hi (some ⟨p, 0, none⟩) k k (Nat.le_refl _) _ hs, Below.refl _ _, p, k, rfl, fun j u hu => hc j u (by simpa using hu)⟩
      · cases ba with
        | none => exact absurd (h0 rfl).1 hm
        | some a' =>
          have hn : ∀ j u, news[j]? = some u → w.cell? (a'.add j) = some u := fun j u hu => (Below.cell hR (World.block_lt_of_cell? _ _ (hnews a' rfl j u hu))).trans (hnews a' rfl j u hu)
          have hfit : Builtin.nextslicecap (k + m) k * i.bytes ≤ 281474976710656 := by
            have h1 := Nat.mul_le_mul_right i.bytes (nextslicecap_le (show k < k + m by omega))
            rw [hby] at h1 ⊢
            rw [Nat.mul_assoc] at h1
            omega
          have hr := run_append_grow (P := P) (w := w) t o.type e i z ht hi hz ⟨p, 0, none⟩ k k olds (by rw [hsize]; exact hol) hc a' m c news (by rw [hsize]; exact hl) hn (by omega) (by unfold maxLen at h63; omega) hfit
          refine ⟨_, _, hr, ((Below.refl w.heap.size w).drew).alloc (Nat.le_refl _) _, w.heap.size, _, rfl, fun j u hu => ?_⟩
          rw [add_at]
          have hj : j < (olds ++ news).length := (List.getElem?_eq_some_iff.1 hu).1
          rw [show w.heap.size = w.drew.heap.size from rfl, World.cell?_alloc_new]
          rw [Array.getElem?_append_left (by simpa using hj)]
          simpa using hu
    obtain ⟨v', w', hr, h2, h3⟩ := hrun
    unfold Oper.wp execOp
    simp only [ho, resolve, invoke, builtin, Sem.run_bind, Sem.run_pure, Result.andThen_ok, List.map_toArray, List.map_cons, List.map_nil, hes, hex, hr]
    exact hK _ _ h2 h3
end
end Go.Proofs.YtgehgjalkponfaaGreatDoor
