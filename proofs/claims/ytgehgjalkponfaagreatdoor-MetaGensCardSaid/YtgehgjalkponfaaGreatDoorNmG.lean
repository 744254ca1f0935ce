/- The walks of take, and of the closures that it is handed. -/
import Derived.Test.YtgehgjalkponfaaGreatDoorNmF
import Derived.Deep.QuietTactic
import Derived.BigQuiet
namespace Go.Proofs.YtgehgjalkponfaaGreatDoor
open Go.RowKit

/-- What a call on a cursor in block g, from cell o on, leaves. -/
def CurPost (w : World) (g o : Nat) (t : TypeId) (cs : Array Value) (c' : List UInt8 × Bool) (v : Value) (e : Ending) (w' : World) : Prop :=
  e = .returned v ∧ Blk w' g t ((cs.setIfInBounds o (.string (bs c'.1))).setIfInBounds (o + 1) (.bool c'.2)) ∧ w.grownBy w' (some g)

theorem set_same (cs : Array Value) (i : Nat) (v : Value) (h : cs[i]? = some v) : cs.setIfInBounds i v = cs := by
  apply Array.ext_getElem?
  intro j
  rw [Array.getElem?_setIfInBounds]
  split
  · rename_i hij; subst hij
    rw [h]; simp
    exact (Array.getElem?_eq_some_iff.1 h).1
  · rfl

theorem below_grown {w w' : World} (h : Below w.heap.size w w') (row : Option Nat) : w.grownBy w' row := ⟨h.os, h.tape, h.output, h.size, fun k hk _ => h.block k hk⟩
theorem grown_trans' {a b c : World} {row : Option Nat} (h : a.grownBy b row) (k : b.grownBy c row) : a.grownBy c row :=
  ⟨k.os.trans h.os, k.tape.trans h.tape, k.output.trans h.output, Nat.le_trans h.size k.size, fun i hi hne => (k.block i (Nat.lt_of_lt_of_le hi h.size) hne).trans (h.block i hi hne)⟩
theorem grown_set (w : World) (g o : Nat) (v : Value) : w.grownBy (w.setCell ⟨g, o, none⟩ v) (some g) :=
  ⟨rfl, rfl, rfl, by simp [World.setCell], fun k _ hne => Below.heap_setCell w ⟨g, o, none⟩ v k (fun e => hne (by simp [e]))⟩

def gsval : Option (List UInt8 × Nat) → List UInt8 | none => [] | some (t, _) => t

set_option maxRecDepth 100000 in
set_option maxHeartbeats 400000 in
theorem take_u64_any (g o : Nat) (t : TypeId) (cs : Array Value) (s : List UInt8) (bad : Bool) (f : FuncId) (capt : Array Value) (r : Option (Nat × Nat)) (w : World)
    (hB : Blk w g t cs) (h0 : cs[o]? = some (.string (bs s))) (h1 : cs[o + 1]? = some (.bool bad))
    (hget : bad = false → Calls Tryz.prog f (#[.string (bs s)] ++ capt) w fun e w' => e = .returned (.tuple #[.int .u64 (gval r), .int .i64 (gcnt r)]) ∧ Below w.heap.size w w')
    (hcf : ∀ W, (callFunc f (#[.string (bs s)] ++ capt)).run Tryz.prog W = .ok (.enter f (#[.string (bs s)] ++ capt)) W)
    (hr : ∀ v k, r = some (v, k) → k ≤ s.length) :
    Calls Tryz.prog 92 #[.pointer (some ⟨g, o, none⟩), .func (.func f) #[] capt] w (CurPost w g o t cs (Num.nxt (s, bad) r) (.int .u64 (if bad then 0 else gval r))) := by
  have e0 : w.cell? ⟨g, o, none⟩ = some (.string (bs s)) := (hB.cell o).trans h0
  have e1 : w.cell? ⟨g, o + 1, none⟩ = some (.bool bad) := (hB.cell (o + 1)).trans h1
  cases bad with
  | true =>
    go_enter Tryz.func92, Tryz.ntmps92
    go_wp2
    go_ret
    exact ⟨rfl, by simpa [Num.nxt, set_same _ _ _ h0, set_same _ _ _ h1] using hB, ⟨rfl, rfl, rfl, Nat.le_refl _, fun _ _ _ => rfl⟩⟩
  | false =>
    have hg := Lib.hid (hget rfl)
    clear hget
    go_enter Tryz.func92, Tryz.ntmps92
    go_wp2_with fail
    refine hg.out.mono ?_
    clear hg hcf
    rintro e w1 ⟨rfl, hb1⟩
    have hB1 := hB.below hb1 hB.lt
    have c0 : w1.cell? ⟨g, o, none⟩ = some (.string (bs s)) := (hB1.cell o).trans h0
    have c1 : w1.cell? ⟨g, o + 1, none⟩ = some (.bool false) := (hB1.cell (o + 1)).trans h1
    have f0 := hB1.frozen o
    have f1 := hB1.frozen (o + 1)
    have hG := below_grown hb1 (some g)
    cases r with
    | none =>
      have hk : gcnt (none : Option (Nat × Nat)) = -1 := rfl
      have hv : gval none = 0 := rfl
      rw [hk, hv]
      have hP := Lib.hid (hB1.set_ (o + 1) (.bool true))
      clear hB hB1 hr hb1 hk hv
      go_wp2
      go_ret
      exact ⟨rfl, by simpa [Num.nxt, set_same _ _ _ h0] using hP.out, grown_trans' hG (grown_set _ _ _ _)⟩
    | some x =>
      obtain ⟨v, k⟩ := x
      have hk : gcnt (some (v, k)) = (k : Int) := rfl
      have hks := hr v k rfl
      have hz := bs_size s
      have hx : (bs s).extract k s.length = bs (s.drop k) := by rw [bs_extract, List.take_of_length_le (by simp)]
      rw [hk]
      have hP := Lib.hid (hB1.set_ o (.string (bs (s.drop k))))
      have h1' := Lib.hid h1
      clear hB hB1 hr hb1 hk e0 e1 h0 h1
      go_wp2
      go_ret
      refine ⟨rfl, ?_, grown_trans' hG (grown_set _ _ _ _)⟩
      show Blk _ g t ((cs.setIfInBounds o (.string (bs (s.drop k)))).setIfInBounds (o + 1) (.bool false))
      rw [set_same _ (o + 1) (.bool false) (by rw [Array.getElem?_setIfInBounds, if_neg (by omega)]; exact h1'.out)]
      exact hP.out

set_option maxRecDepth 100000 in
set_option maxHeartbeats 400000 in
theorem take_str_any (g o : Nat) (t : TypeId) (cs : Array Value) (s : List UInt8) (bad : Bool) (f : FuncId) (capt : Array Value) (r : Option (List UInt8 × Nat)) (w : World)
    (hB : Blk w g t cs) (h0 : cs[o]? = some (.string (bs s))) (h1 : cs[o + 1]? = some (.bool bad))
    (hget : bad = false → Calls Tryz.prog f (#[.string (bs s)] ++ capt) w fun e w' => e = .returned (.tuple #[.string (bs (gsval r)), .int .i64 (gcnt r)]) ∧ Below w.heap.size w w')
    (hcf : ∀ W, (callFunc f (#[.string (bs s)] ++ capt)).run Tryz.prog W = .ok (.enter f (#[.string (bs s)] ++ capt)) W)
    (hr : ∀ v k, r = some (v, k) → k ≤ s.length) :
    Calls Tryz.prog 94 #[.pointer (some ⟨g, o, none⟩), .func (.func f) #[] capt] w (CurPost w g o t cs (Num.nxt (s, bad) r) (.string (bs (if bad then [] else gsval r)))) := by
  have e0 : w.cell? ⟨g, o, none⟩ = some (.string (bs s)) := (hB.cell o).trans h0
  have e1 : w.cell? ⟨g, o + 1, none⟩ = some (.bool bad) := (hB.cell (o + 1)).trans h1
  cases bad with
  | true =>
    go_enter Tryz.func94, Tryz.ntmps94
    go_wp2
    go_ret
    exact ⟨rfl, by simpa [Num.nxt, set_same _ _ _ h0, set_same _ _ _ h1] using hB, ⟨rfl, rfl, rfl, Nat.le_refl _, fun _ _ _ => rfl⟩⟩
  | false =>
    have hg := Lib.hid (hget rfl)
    clear hget
    go_enter Tryz.func94, Tryz.ntmps94
    go_wp2_with fail
    refine hg.out.mono ?_
    clear hg hcf
    rintro e w1 ⟨rfl, hb1⟩
    have hB1 := hB.below hb1 hB.lt
    have c0 : w1.cell? ⟨g, o, none⟩ = some (.string (bs s)) := (hB1.cell o).trans h0
    have c1 : w1.cell? ⟨g, o + 1, none⟩ = some (.bool false) := (hB1.cell (o + 1)).trans h1
    have f0 := hB1.frozen o
    have f1 := hB1.frozen (o + 1)
    have hG := below_grown hb1 (some g)
    cases r with
    | none =>
      have hk : gcnt (none : Option (List UInt8 × Nat)) = -1 := rfl
      have hv : bs (gsval none) = ⟨#[]⟩ := rfl
      rw [hk, hv]
      have hP := Lib.hid (hB1.set_ (o + 1) (.bool true))
      clear hB hB1 hr hb1 hk hv
      go_wp2
      go_ret
      exact ⟨rfl, by simpa [Num.nxt, set_same _ _ _ h0] using hP.out, grown_trans' hG (grown_set _ _ _ _)⟩
    | some x =>
      obtain ⟨v, k⟩ := x
      have hk : gcnt (some (v, k)) = (k : Int) := rfl
      have hks := hr v k rfl
      have hz := bs_size s
      have hx : (bs s).extract k s.length = bs (s.drop k) := by rw [bs_extract, List.take_of_length_le (by simp)]
      have hv : gsval (some (v, k)) = v := rfl
      rw [hk, hv]
      have hP := Lib.hid (hB1.set_ o (.string (bs (s.drop k))))
      have h1' := Lib.hid h1
      clear hB hB1 hr hb1 hk e0 e1 h0 h1
      go_wp2
      go_ret
      refine ⟨rfl, ?_, grown_trans' hG (grown_set _ _ _ _)⟩
      show Blk _ g t ((cs.setIfInBounds o (.string (bs (s.drop k)))).setIfInBounds (o + 1) (.bool false))
      rw [set_same _ (o + 1) (.bool false) (by rw [Array.getElem?_setIfInBounds, if_neg (by omega)]; exact h1'.out)]
      exact hP.out
end Go.Proofs.YtgehgjalkponfaaGreatDoor
