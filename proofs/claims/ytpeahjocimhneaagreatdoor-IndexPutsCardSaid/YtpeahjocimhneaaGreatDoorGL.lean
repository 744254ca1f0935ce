/- Entries that are read, in plain words: how long, how many; one after another by any reader of one. A reader's states, and a row that is appended to, in a region that draws its order; and a reader's states, and those of another block. An entry of generations 2 and 3 read: the walk. An entry of generation 1 read: the walk. All entries read: the walk. The entries that bytes are: the walk of Get. The fixed cases of the laws of layer 12, in plain words. The fixed cases of the laws of layer 12: the walk of works. -/
import Derived.Test.YtpeahjocimhneaaGreatDoorGJ
import Derived.Test.YtpeahjocimhneaaGreatDoorGD
import Derived.Test.YtpeahjocimhneaaGreatDoorGK
import Derived.Test.YtpeahjocimhneaaGreatDoorGG
import Derived.Test.YtpeahjocimhneaaGreatDoorGC
namespace Go.Proofs.YtpeahjocimhneaaGreatDoor
open Go.RowKit

theorem fxV_le (c : CS) : (fxV c).length ≤ 12 := by
  unfold fxV Num.ans
  cases h : c.2 with
  | true => simp
  | false =>
    cases hg : Num.getFixed c.1 12 with
    | none => simp
    | some p =>
      obtain ⟨t, k⟩ := p
      unfold Num.getFixed at hg
      cases hb : c.1[Num.szN 12]? with
      | none => rw [hb] at hg; cases hg
      | some b =>
        rw [hb] at hg
        simp only at hg
        split at hg
        · cases hg
        · simp only [Option.some.injEq, Prod.mk.injEq] at hg
          obtain ⟨rfl, _⟩ := hg
          simp only [Bool.false_eq_true, if_false, List.length_take]
          have : Num.szN 12 = 12 := rfl
          omega
theorem labs1_ok : ∀ (n : Nat) (c : CS), (labs1R n c).1.length = n ∧ (labs1R n c).2.1.length ≤ c.1.length ∧ ∀ y ∈ (labs1R n c).1, y.1.length ≤ 12 ∧ y.2.length ≤ 12
  | 0, c => ⟨rfl, Nat.le_refl _, fun y h => by cases h⟩
  | n + 1, c => by
    obtain ⟨h1, h2, h3⟩ := labs1_ok n (fxN (fxN c))
    have := fxN_len c
    have := fxN_len (fxN c)
    refine ⟨by rw [labs1R, List.length_cons, h1], by rw [labs1R]; simp only; omega, fun y hy => ?_⟩
    rw [labs1R] at hy
    rcases List.mem_cons.1 hy with rfl | hy
    · exact ⟨fxV_le _, fxV_le _⟩
    · exact h3 y hy
theorem symR_ok (S : List (List UInt8)) (c : CS) : ((symR S c).1 = [] ∨ (symR S c).1 ∈ S) ∧ (symR S c).2.1.length ≤ c.1.length := by
  have hs := sN_len c
  obtain ⟨n, hn, _⟩ := sV_nat c
  unfold symR
  rw [hn]
  split
  · exact ⟨.inl rfl, hs⟩
  · rename_i h
    have hl : n < S.length := by omega
    refine ⟨.inr ?_, hs⟩
    rw [Int.toNat_natCast, List.getD_eq_getElem?_getD, List.getElem?_eq_getElem hl]
    exact List.getElem_mem hl
theorem labs2_ok (S : List (List UInt8)) (m : Nat) (hS : ∀ s ∈ S, s.length ≤ m) : ∀ (n : Nat) (c : CS), (labs2R S n c).1.length = n ∧ (labs2R S n c).2.1.length ≤ c.1.length ∧ ∀ y ∈ (labs2R S n c).1, y.1.length ≤ m ∧ y.2.length ≤ m
  | 0, c => ⟨rfl, Nat.le_refl _, fun y h => by cases h⟩
  | n + 1, c => by
    obtain ⟨h1, h2, h3⟩ := labs2_ok S m hS n (symR S (symR S c).2).2
    have q1 := symR_ok S c
    have q2 := symR_ok S (symR S c).2
    have hb : ∀ s : List UInt8, (s = [] ∨ s ∈ S) → s.length ≤ m := fun s h => by
      rcases h with rfl | h
      · exact Nat.zero_le _
      · exact hS s h
    refine ⟨by rw [labs2R, List.length_cons, h1], by rw [labs2R]; simp only; omega, fun y hy => ?_⟩
    rw [labs2R] at hy
    rcases List.mem_cons.1 hy with rfl | hy
    · exact ⟨hb _ q1.1, hb _ q2.1⟩
    · exact h3 y hy
theorem wr64'_bd (n : Int) : -9223372036854775808 ≤ wr64' n ∧ wr64' n ≤ 9223372036854775807 := by
  unfold wr64' IntKind.wrap
  simp [IntKind.bits, IntKind.signed]
  omega
theorem ent1_ok (c : CS) : (ent1R c).1.ok ∧ (ent1R c).1.labels.length ≤ 6 ∧ (ent1R c).2.1.length ≤ c.1.length ∧ ∀ y ∈ (ent1R c).1.labels, y.1.length ≤ 12 ∧ y.2.length ≤ 12 := by
  have h1 := tkN_len c
  unfold ent1R
  split
  · exact ⟨by unfold En.ok zeroEn; simp, Nat.zero_le _, h1, fun y h => by cases h⟩
  · have hm := many_le (((tkV c).getD 0 0).toNat : Int) 6 (tkN c) (by omega)
    simp only
    generalize manyN (((tkV c).getD 0 0).toNat : Int) 6 (tkN c) = M at *
    obtain ⟨k1, k2, k3⟩ := labs1_ok M.1 M.2
    generalize labs1R M.1 M.2 = R at *
    have w1 := wN_len R.2
    have w2 := wN_len (wN R.2)
    have w3 := wN_len (wN (wN R.2))
    exact ⟨⟨wr64'_bd _, wr64'_bd _, wr64'_bd _⟩, by omega, by omega, k3⟩
theorem ent2_ok (g : Int) (S : List (List UInt8)) (m : Nat) (hS : ∀ s ∈ S, s.length ≤ m) (a : En) (c : CS) : (ent2R g S a c).1.ok ∧ (ent2R g S a c).1.labels.length ≤ 6 ∧ (ent2R g S a c).2.1.length ≤ c.1.length ∧ ∀ y ∈ (ent2R g S a c).1.labels, y.1.length ≤ m ∧ y.2.length ≤ m := by
  have h1 := sN_len c
  obtain ⟨n, hn, _⟩ := sV_nat c
  have hm := many_le (sV c) 6 (sN c) (by omega)
  unfold ent2R
  simp only
  generalize manyN (sV c) 6 (sN c) = M at *
  obtain ⟨k1, k2, k3⟩ := labs2_ok S m hS M.1 M.2
  generalize labs2R S M.1 M.2 = R at *
  have w1 := sN_len R.2
  have w2 := sN_len (sN R.2)
  have w3 := sN_len (sN (sN R.2))
  exact ⟨⟨by simp only; split <;> exact wr64'_bd _, by simp only; split <;> exact wr64'_bd _, wr64'_bd _⟩, by omega, by omega, k3⟩
theorem tab_ok (g : Int) : ∀ (n : Nat) (last : List UInt8) (c : CS), (tabR g n last c).1.length = n ∧ (tabR g n last c).2.1.length ≤ c.1.length ∧ ∀ s ∈ (tabR g n last c).1, s.length ≤ last.length + 48 * n
  | 0, last, c => ⟨rfl, Nat.le_refl _, fun y h => by cases h⟩
  | n + 1, last, c => by
    have hs : ∃ m : Nat × CS, m.1 ≤ last.length ∧ m.2.1.length ≤ c.1.length ∧ tabR g (n + 1) last c = ((last.take m.1 ++ txV m.2) :: (tabR g n (last.take m.1 ++ txV m.2) (txN m.2)).1, (tabR g n (last.take m.1 ++ txV m.2) (txN m.2)).2) := by
      by_cases hg : g = 3
      · obtain ⟨k, hk, _⟩ := sV_nat c
        have h1 := many_le (sV c) last.length (sN c) (by omega)
        have := sN_len c
        exact ⟨manyN (sV c) last.length (sN c), h1.1, by omega, by rw [tabR, if_pos hg]⟩
      · exact ⟨(0, c), Nat.zero_le _, Nat.le_refl _, by rw [tabR, if_neg hg]⟩
    obtain ⟨m, h1, h2, h3⟩ := hs
    have hl : (last.take m.1 ++ txV m.2).length ≤ last.length + 48 := by
      have := txV_le m.2
      rw [List.length_append, List.length_take]
      omega
    obtain ⟨k1, k2, k3⟩ := tab_ok g n (last.take m.1 ++ txV m.2) (txN m.2)
    have := txN_len m.2
    rw [h3]
    refine ⟨by rw [List.length_cons, k1], by simp only; omega, fun s hs => ?_⟩
    rcases List.mem_cons.1 hs with rfl | hs
    · omega
    · have := k3 s hs
      omega

/-- Entries that are read, one after another, by a reader of one. -/
def entsG (f : En → CS → En × CS) : Nat → En → CS → Option (List En) × CS
  | 0, _, c => (some [], c)
  | q + 1, a, c => if (f a c).2.2 then (none, (f a c).2) else ((entsG f q (f a c).1 (f a c).2).1.map ((f a c).1 :: ·), (entsG f q (f a c).1 (f a c).2).2)
theorem ents1_G : ∀ (n : Nat) (a : En) (c : CS), ents1R n c = entsG (fun _ c => ent1R c) n a c
  | 0, _, _ => rfl
  | n + 1, a, c => by
    rw [ents1R, entsG, ents1_G n (ent1R c).1 (ent1R c).2]
    split
    · rfl
    · generalize entsG (fun _ c => ent1R c) n (ent1R c).1 (ent1R c).2 = R
      obtain ⟨r, d⟩ := R
      cases r <;> rfl
theorem ents2_G (g : Int) (S : List (List UInt8)) : ∀ (n : Nat) (a : En) (c : CS), ents2R g S n a c = entsG (ent2R g S) n a c
  | 0, _, _ => rfl
  | n + 1, a, c => by
    rw [ents2R, entsG, ents2_G g S n (ent2R g S a c).1 (ent2R g S a c).2]
    split
    · rfl
    · generalize entsG (ent2R g S) n (ent2R g S a c).1 (ent2R g S a c).2 = R
      obtain ⟨r, d⟩ := R
      cases r <;> rfl
/-- Behind others. -/
def preE (A : List En) (r : Option (List En) × CS) : Option (List En) × CS := (r.1.map (A ++ ·), r.2)
theorem preE_nil (r : Option (List En) × CS) : preE [] r = r := by
  obtain ⟨r, d⟩ := r
  cases r <;> rfl
theorem entsG_bad {f : En → CS → En × CS} {n : Nat} {a : En} {c : CS} (A : List En) (h : (f a c).2.2 = true) : preE A (entsG f (n + 1) a c) = (none, (f a c).2) := by
  rw [entsG, if_pos h]
  rfl
theorem entsG_good {f : En → CS → En × CS} {n : Nat} {a : En} {c : CS} (A : List En) (h : (f a c).2.2 = false) : preE A (entsG f (n + 1) a c) = preE (A ++ [(f a c).1]) (entsG f n (f a c).1 (f a c).2) := by
  rw [entsG, if_neg (by rw [h]; simp)]
  unfold preE
  simp only [Option.map_map]
  congr 1
  cases (entsG f n (f a c).1 (f a c).2).1 <;> simp
theorem entsG_end {f : En → CS → En × CS} {a : En} {c : CS} (A : List En) : preE A (entsG f 0 a c) = (some A, c) := by
  unfold preE entsG
  simp
/-- An entry's cells, one behind another. -/
def entCells (Z : List (En × Value)) : List Value := Z.flatMap fun z => enC z.2 z.1
theorem entCells_snoc (Z : List (En × Value)) (x : En) (v : Value) : entCells Z ++ enC v x = entCells (Z ++ [(x, v)]) := by unfold entCells; simp
theorem entCells_get : ∀ (Z : List (En × Value)) (i : Nat) (z : En × Value), Z[i]? = some z → ∀ j u, (enC z.2 z.1)[j]? = some u → (entCells Z)[i * 4 + j]? = some u
  | [], i, z, h, _, _, _ => by simp at h
  | y :: Z, 0, z, h, j, u, hj => by
    obtain rfl : y = z := by simpa using h
    unfold entCells
    rw [List.flatMap_cons, Nat.zero_mul, Nat.zero_add, List.getElem?_append_left, hj]
    exact (List.getElem?_eq_some_iff.1 hj).1
  | y :: Z, i + 1, z, h, j, u, hj => by
    have ih := entCells_get Z i z (by simpa using h) j u hj
    unfold entCells at *
    rw [List.flatMap_cons, show (i + 1) * 4 + j = 4 + (i * 4 + j) by omega, show 4 + (i * 4 + j) = (enC y.2 y.1).length + (i * 4 + j) from rfl, List.getElem?_append_right (by omega), Nat.add_sub_cancel_left]
    exact ih
theorem entsAt_row {w : World} {B n : Nat} {v : Value} {Z : List (En × Value)} (h : w.ownsRow B 59 4 v n (entCells Z)) (hzn : Z.length = n) (hn : Z.length ≤ 100000) (hl : ∀ z ∈ Z, z.1.ok ∧ LabsOwn w z.2 z.1.labels) : EntsAt w v (Z.map (·.1)) := by
  subst hzn
  have hcells : ∀ g, v.ownBlock = some g → ∀ j u, (entCells Z)[j]? = some u → w.cell? ((⟨g, 0, none⟩ : Addr).add j) = some u := fun g hg => h.cells (g := g) hg
  rcases h.2 with ⟨e, e0⟩ | ⟨g, cap, cur, e, e1, e2, e3, _⟩
  · refine ⟨none, 0, by rw [e, List.length_map, e0], fun _ => rfl, by rwa [List.length_map], by rw [List.length_map, e0]; exact Nat.le_refl _, fun i x hx => ?_⟩
    rw [List.length_eq_zero_iff.1 e0] at hx
    simp at hx
  · refine ⟨some ⟨g, 0, none⟩, cap, by rw [List.length_map]; exact e, (fun e => by cases e), by rwa [List.length_map], by rw [List.length_map]; exact e3, fun i x hx => ?_⟩
    rw [List.getElem?_map] at hx
    cases hz : Z[i]? with
    | none => rw [hz] at hx; cases hx
    | some z =>
      rw [hz] at hx
      obtain rfl : z.1 = x := by simpa using hx
      obtain ⟨hok, hL⟩ := hl z (List.mem_of_getElem? hz)
      have hc : ∀ j u, (enC z.2 z.1)[j]? = some u → w.cell? ⟨g, 0 + i * 4 + j, none⟩ = some u := fun j u hj => by
        have := hcells g (by rw [e]; rfl) (i * 4 + j) u (entCells_get Z i z hz j u hj)
        rw [addr_add] at this
        rw [show 0 + i * 4 + j = i * 4 + j by omega]
        simpa using this
      obtain ⟨⟨la, lc, hv, h2, h3⟩, h4⟩ := hL
      exact ⟨hok, g, 0, rfl, la, lc, by rw [← hv]; exact hc 0 _ rfl, ⟨la, lc, rfl, h2, by rw [← hv] at *; exact h3⟩, hc 1 _ rfl, hc 2 _ rfl, hc 3 _ rfl⟩
end Go.Proofs.YtpeahjocimhneaaGreatDoor
namespace Go.Proofs.YtpeahjocimhneaaGreatDoor
open Go.RowKit

/-- An entry's cells. -/
def entC (v : Value) (a : En) : Array Value := #[v, .int .i64 a.last, .int .i64 a.off, .int .i64 a.len]
theorem Kept.narrow {a b : World} {S T : Nat → Prop} (h : Kept a b S) (hs : ∀ k, k < a.heap.size → S k → T k) : Kept a b T := ⟨h.os, h.tape, h.output, h.size, fun k hk hn => h.block k hk fun e => hn (hs k hk e)⟩
/-- First what is kept of the first world, then what lies there anew. -/
theorem Kept.then_over {a b c : World} {S T : Nat → Prop} (h : Kept a b S) (k : Kept b c T) (hs : ∀ i, i < a.heap.size → T i → S i) : Kept a c S :=
  ⟨k.os.trans h.os, k.tape.trans h.tape, k.output.trans h.output, Nat.le_trans h.size k.size, fun i hi hn => (k.block i (Nat.lt_of_lt_of_le hi h.size) fun e => hn (hs i hi e)).trans (h.block i hi hn)⟩
def SR (g : Nat) (vl : Value) : Nat → Prop := fun k => k = g ∨ vl.ownBlock = some k
/-- A reader's states, and a row that is appended to by the operation m of the row. -/
def rowPhR (w0 : World) (g : Nat) (gen : Int) (sy av : Value) (a0 : En) (cs : List CS) (c0 : CS) (h0 : cs[0]? = some c0) (hC : Rd w0 g c0 gen sy av a0) (vl : Value) (fin : Option Obj) (m : Nat) (hlt : ∀ k, vl.ownBlock = some k → k < w0.heap.size) : Phases where
  ph q w := Kept w0 w (SR g vl) ∧ (∃ c, cs[q]? = some c ∧ Rd w g c gen sy av a0) ∧ ∀ k, vl.ownBlock = some k → (q ≤ m → w.heap[k]? = w0.heap[k]?)
  K a b := Kept a b (SR g vl) ∧ ∀ k, vl.ownBlock = some k → k < a.heap.size → b.heap[k]? = a.heap[k]? ∨ b.heap[k]? = fin
  w0 := w0
  start := ⟨Kept.refl _ _, ⟨c0, h0, hC⟩, fun _ _ _ => rfl⟩
  refl w := ⟨Kept.refl w _, fun _ _ _ => .inl rfl⟩
  trans h k := ⟨h.1.trans k.1, fun i hi hl => by
    rcases k.2 i hi (Nat.lt_of_lt_of_le hl h.1.size) with e | e
    · rw [e]; exact h.2 i hi hl
    · exact .inr e⟩
  grow h := ⟨Kept.of_below h, fun k _ hl => .inl (h.block k hl)⟩
  stay h k := ⟨h.1.trans (Kept.of_below k), (by obtain ⟨c, h1, h2⟩ := h.2.1; exact ⟨c, h1, Blk.below h2 k h2.lt⟩), fun i hi hq => (k.block i (Nat.lt_of_lt_of_le (hlt i hi) h.1.size)).trans (h.2.2 i hi hq)⟩

section
variable {P : Program} {w0 : World} {g : Nat} {cs : List CS} {c0 : CS} {h0 : cs[0]? = some c0} {gen : Int} {sy av : Value} {a0 : En} {hC : Rd w0 g c0 gen sy av a0} {vl : Value} {fin : Option Obj} {m : Nat} {hlt : ∀ k, vl.ownBlock = some k → k < w0.heap.size}
theorem rowPhR_row {f : FuncId} {args : Array Value} {w : World} {q : Nat} {c c' : CS} {v : Value} (hg : vl.ownBlock ≠ some g) (hw : (rowPhR w0 g gen sy av a0 cs c0 h0 hC vl fin m hlt).ph q w) (hc : cs[q]? = some c) (hc' : cs[q + 1]? = some c') (hq : q + 1 ≤ m)
    (h : Rd w g c gen sy av a0 → Kept w0 w (SR g vl) → Calls P f args w fun e w' => e = .returned v ∧ Rd w' g c' gen sy av a0 ∧ w.grownBy w' (some g)) :
    Calls P f args w fun e w' => e = .returned v ∧ (rowPhR w0 g gen sy av a0 cs c0 h0 hC vl fin m hlt).K w w' ∧ (rowPhR w0 g gen sy av a0 cs c0 h0 hC vl fin m hlt).ph (q + 1) w' := by
  obtain ⟨h1, ⟨c2, h2, h3⟩, h6⟩ := hw
  obtain rfl : c2 = c := by rw [hc] at h2; exact (Option.some.inj h2).symm
  refine (h h3 h1).mono ?_
  rintro e w' ⟨rfl, h4, h5⟩
  have hk : Kept w w' (SR g vl) := Kept.of_grown h5 fun k e => .inl (Option.some.inj e).symm
  have hr : ∀ k, vl.ownBlock = some k → k < w.heap.size → w'.heap[k]? = w.heap[k]? := fun k hk hl => h5.block k hl (fun e => hg (hk.trans e))
  exact ⟨rfl, ⟨hk, fun k hk hl => .inl (hr k hk hl)⟩, h1.trans hk, ⟨c', hc', h4⟩, fun k hk _ => (hr k hk (Nat.lt_of_lt_of_le (hlt k hk) h1.size)).trans (h6 k hk (by omega))⟩
theorem newR_keeps {n : Nat} {news : List Value} : (NewCells w0 n news).keeps (rowPhR w0 g gen sy av a0 cs c0 h0 hC vl fin m hlt).K := by
  rintro x W W' ⟨p, c, rfl, hp, hc⟩ hR
  exact ⟨p, c, rfl, hp, fun j u hu => Kept.cell hR.1 (hc j u hu) fun e => by
    rw [add_block] at e
    rcases e with e | e
    · have := hC.lt
      simp only at e
      omega
    · have := hlt p e
      omega⟩
theorem appR_keeps {B : Nat} {e : TypeId} {size n : Nat} {xs : List Value} : (AppHeld w0 B e size vl.ownBlock fin n xs).keeps (rowPhR w0 g gen sy av a0 cs c0 h0 hC vl fin m hlt).K := by
  rintro v W W' ⟨h1, h2⟩ hR
  rcases h2 with ⟨h2, h3⟩ | ⟨k, h2, h3⟩
  · have hs : ∀ k, vl.ownBlock = some k → W'.heap[k]? = W.heap[k]? := fun k hk => by
      rcases hR.2 k hk (owns_lt h1 (h2.trans hk)) with e | e
      · exact e
      · rw [e, h3 k hk]
    exact ⟨owns_same h1 fun k hk => hs k (h2 ▸ hk), .inl ⟨h2, fun k hk => (hs k hk).trans (h3 k hk)⟩⟩
  · exact ⟨owns_same h1 fun i hi => hR.1.block i (owns_lt h1 hi) fun e => by
      rw [h2] at hi
      obtain rfl := Option.some.inj hi
      rcases e with e | e
      · have := hC.lt; omega
      · have := hlt _ e; omega, .inr ⟨k, h2, h3⟩⟩

/-- The new cells of an append are laid: its slot is hidden. -/
theorem lexc_cellsR {ch : List Nat} {ops : Array Oper} {n k : Nat} {ds : List Deferred} {F : Act → World → Prop} {rest : List Oper} {H : List (Tmp × Held)} {a : Act} {o : Oper} {d : Tmp} {mm : Nat} {news : List Value}
    (hi : ch.contains k = false) (hw : Region.wanted o (yielded ops a.tmps) = true) (hns : ∀ cs b, o.op ≠ .select cs b) (hl : looksFree ops H o = true) (hd : o.dst = some d) (E : TypeId)
    (hr : ∀ w, (execOp a.eval o).run P w = .ok (.value (.slice (some ⟨w.heap.size, 0, none⟩) mm mm)) (w.alloc (.cells news.toArray E)))
    (h : lexAtC (rowPhR w0 g gen sy av a0 cs c0 h0 hC vl fin m hlt) ch P ops n ds F (k + 1) rest ((d, NewCells w0 mm news) :: H) a) : lexAtC (rowPhR w0 g gen sy av a0 cs c0 h0 hC vl fin m hlt) ch P ops n ds F k (o :: rest) H a := by
  refine lexc_make hi newR_keeps hw hns hl hd (fun w hW => ⟨_, _, hr w, one_alloc w _, w.heap.size, mm, rfl, ?_, fun j u hu => ?_⟩) h
  · obtain ⟨q, hk, _⟩ := hW
    exact hk.size
  · rw [addr_add, World.cell?_alloc_new]
    simpa using hu
/-- The append, its new cells in a hidden slot: the answer is hidden. -/
theorem lexc_appR {ch : List Nat} {ops : Array Oper} {nn k : Nat} {ds : List Deferred} {F : Act → World → Prop} {rest : List Oper} {H : List (Tmp × Held)} {a : Act} {o : Oper} {s x d : Tmp} {t e : TypeId} {i : TypeInfo} {z : Value} {size bytes B n mm : Nat} {xs news : List Value} {c : CS}
    (hfin : fin = appendedTo w0 vl size n news) (hi : ch.contains k = true) (hq : ch.idxOf k = m) (hgd : o.guard = none) (ho : o.op = .call { callee := .builtin .append, args := #[.tmp s, .tmp x], argTypes := #[t, t] }) (hd : o.dst = some d)
    (ht : P.underlying t = some (.slice e)) (hin : P.info? e = some i) (hz : i.zero = some z) (hsize : i.size = size) (hby : i.bytes = bytes) (hzs : z.cells.size = size) (hsz : 0 < size)
    (hsn : heldBy H s = none) (hs : a.eval (.tmp s) = vl) (hx : heldBy H x = some (NewCells w0 mm news)) (hown : w0.ownsRow B e size vl n xs) (hl : news.length = mm * size)
    (h1 : ∀ u ∈ news, u.oneCell' = true) (h63 : n + mm ≤ maxLen) (hbytes : (n + mm) * bytes ≤ 140737488355328) (hbase : B ≤ w0.heap.size) (hg : vl.ownBlock ≠ some g) (hc : cs[m]? = some c) (hc' : cs[m + 1]? = some c)
    (h : lexAtC (rowPhR w0 g gen sy av a0 cs c0 h0 hC vl fin m hlt) ch P ops nn ds F (k + 1) rest ((d, AppHeld w0 B e size vl.ownBlock fin (n + mm) (xs ++ news)) :: H) a) :
    lexAtC (rowPhR w0 g gen sy av a0 cs c0 h0 hC vl fin m hlt) ch P ops nn ds F k (o :: rest) H a := by
  refine lexc_rowh m hi hq appR_keeps (fun cc w hW hf => ⟨?_, fun K Q' hK => ?_⟩) hd h
  · unfold Region.wanted
    rw [hgd]
  · have hes := hf s (by simp [Oper.looksAt, ho, hgd, Op.operands, Call.operands])
    have hex := hf x (by simp [Oper.looksAt, ho, hgd, Op.operands, Call.operands])
    unfold fits at hes hex
    rw [hsn] at hes
    rw [hx] at hex
    obtain ⟨p, c', hex, hp, hcl⟩ := hex
    simp only at hes
    obtain ⟨hk, ⟨c2, hc2, hC2⟩, hrow⟩ := hW
    obtain rfl : c2 = c := by rw [hc] at hc2; exact (Option.some.inj hc2).symm
    have hrow' : ∀ k, vl.ownBlock = some k → w.heap[k]? = w0.heap[k]? := fun k hk => hrow k hk (Nat.le_refl _)
    have hownw : w.ownsRow B e size vl n xs := owns_same hown hrow'
    have hap : appendedTo w vl size n news = fin := by
      rw [hfin]
      unfold appendedTo
      cases vl with
      | slice av al ac =>
        cases av with
        | none => rfl
        | some ad =>
          simp only
          rw [hrow' ad.block rfl]
      | _ => rfl
    obtain ⟨v', w', hr, h2, h3⟩ := run_append_app (P := P) t o.type e i z size bytes ht hin hz hsize hby hzs hsz B w w vl n xs hownw mm c' ⟨p, 0, none⟩ news hl hcl h1 h63 hbytes (Nat.le_trans hbase hk.size) (Turns.refl w)
    rw [hap] at h2 h3
    have hk2 : Kept w w' (SR g vl) := Kept.of_grown h2.1 fun k e => .inr e
    unfold Oper.wp execOp
    simp only [ho, resolve, invoke, builtin, Sem.run_bind, Sem.run_pure, Result.andThen_ok, List.map_toArray, List.map_cons, List.map_nil, hes, hs, hex, hr]
    refine hK _ _ ⟨hk2, fun k hk _ => h2.2 k hk⟩ ⟨hk.trans hk2, ⟨c2, hc', Blk.grown hC2 h2.1 (fun e => hg e.symm)⟩, fun k _ hq => by omega⟩ ?_
    refine ⟨h3.1, h3.2.imp id fun ⟨k, e1, e2⟩ => ⟨k, e1, Nat.le_trans hk.size e2⟩⟩
theorem rowPhR_cell {i : Nat} {v : Value} (hv : (rdC c0 gen sy av a0)[i + 2]? = some v) : ∀ x : PW (rowPhR w0 g gen sy av a0 cs c0 h0 hC vl fin m hlt), x.w.cell? ⟨g, i + 2, none⟩ = some v := fun x => by
  obtain ⟨q, h1, ⟨c, h2, h3⟩, _⟩ := x.2
  refine (Blk.cell h3 (i + 2)).trans (Eq.trans ?_ hv)
  rcases i with _ | _ | _ | _ | _ | _ | i <;> rfl
theorem rowPhR_blk {T : TypeId} {xs : Array Value} {b : Nat} (hb : Blk w0 b T xs) (h1 : b ≠ g) (h2 : vl.ownBlock ≠ some b) {i : Nat} {v : Value} (hv : xs[i]? = some v) : ∀ x : PW (rowPhR w0 g gen sy av a0 cs c0 h0 hC vl fin m hlt), x.w.cell? ⟨b, i, none⟩ = some v := fun x => by
  obtain ⟨q, hk, _⟩ := x.2
  exact ((hb.keptK hk (fun e => e.elim h1 h2)).cell i).trans hv
end

/-- A reader's states, and those of another block. -/
def rePh (w0 : World) (g e : Nat) (T : TypeId) (gen : Int) (sy av : Value) (a : En) (cs : List CS) (es : List (Array Value)) (c0 : CS) (z0 : Array Value) (h0 : cs[0]? = some c0) (hz : es[0]? = some z0) (hR : Rd w0 g c0 gen sy av a) (hE : Blk w0 e T z0) : Phases where
  ph q w := Kept w0 w (fun k => k = g ∨ k = e) ∧ (∃ c, cs[q]? = some c ∧ Rd w g c gen sy av a) ∧ ∃ z, es[q]? = some z ∧ Blk w e T z
  K a b := Kept a b (fun k => k = g ∨ k = e)
  w0 := w0
  start := ⟨Kept.refl _ _, ⟨c0, h0, hR⟩, z0, hz, hE⟩
  refl w := Kept.refl w _
  trans h k := h.trans k
  grow h := Kept.of_below h
  stay h k := ⟨h.1.trans (Kept.of_below k), by obtain ⟨c, h1, h2⟩ := h.2.1; exact ⟨c, h1, Blk.below h2 k h2.lt⟩, by obtain ⟨c, h1, h2⟩ := h.2.2; exact ⟨c, h1, Blk.below h2 k h2.lt⟩⟩
section
variable {w0 w : World} {g e q : Nat} {T : TypeId} {gen : Int} {sy av : Value} {a : En} {cs : List CS} {es : List (Array Value)} {c0 : CS} {z0 : Array Value} {h0 : cs[0]? = some c0} {hz : es[0]? = some z0} {hR : Rd w0 g c0 gen sy av a} {hE : Blk w0 e T z0}
theorem rePh_row {P : Program} {f : FuncId} {args : Array Value} {c c' : CS} {v : Value} {z : Array Value} (hne : e ≠ g) (hw : (rePh w0 g e T gen sy av a cs es c0 z0 h0 hz hR hE).ph q w) (hc : cs[q]? = some c) (hc' : cs[q + 1]? = some c') (hz1 : es[q]? = some z) (hz2 : es[q + 1]? = some z)
    (h : Rd w g c gen sy av a → Calls P f args w fun e w' => e = .returned v ∧ Rd w' g c' gen sy av a ∧ w.grownBy w' (some g)) :
    Calls P f args w fun x w' => x = .returned v ∧ (rePh w0 g e T gen sy av a cs es c0 z0 h0 hz hR hE).K w w' ∧ (rePh w0 g e T gen sy av a cs es c0 z0 h0 hz hR hE).ph (q + 1) w' := by
  obtain ⟨h1, ⟨c2, h2, h3⟩, z2, h4, h5⟩ := hw
  obtain rfl : c2 = c := by rw [hc] at h2; exact (Option.some.inj h2).symm
  obtain rfl : z2 = z := by rw [hz1] at h4; exact (Option.some.inj h4).symm
  refine (h h3).mono ?_
  rintro x w' ⟨rfl, h6, h7⟩
  have hk : Kept w w' (fun k => k = g ∨ k = e) := Kept.of_grown h7 fun k e => .inl (Option.some.inj e).symm
  exact ⟨rfl, hk, h1.trans hk, ⟨c', hc', h6⟩, z2, hz2, Blk.grown h5 h7 (fun e' => hne (Option.some.inj e'))⟩
theorem rePh_pure {P : Program} {f : FuncId} {args : Array Value} {c : CS} {v : Value} {z : Array Value} (hne : e ≠ g) (hw : (rePh w0 g e T gen sy av a cs es c0 z0 h0 hz hR hE).ph q w) (hc : cs[q]? = some c) (hc' : cs[q + 1]? = some c) (hz1 : es[q]? = some z) (hz2 : es[q + 1]? = some z)
    (h : Calls P f args w fun e w' => e = .returned v ∧ Below w.heap.size w w') :
    Calls P f args w fun x w' => x = .returned v ∧ (rePh w0 g e T gen sy av a cs es c0 z0 h0 hz hR hE).K w w' ∧ (rePh w0 g e T gen sy av a cs es c0 z0 h0 hz hR hE).ph (q + 1) w' :=
  rePh_row hne hw hc hc' hz1 hz2 fun hR' => h.mono fun _ _ ⟨h1, h2⟩ => ⟨h1, Blk.below hR' h2 (Blk.lt hR'), ⟨h2.os, h2.tape, h2.output, h2.size, fun k hk _ => h2.block k hk⟩⟩
theorem rePh_set {c : CS} {z : Array Value} {i : Nat} {v : Value} (hne : e ≠ g) (hw : (rePh w0 g e T gen sy av a cs es c0 z0 h0 hz hR hE).ph q w) (hc : cs[q]? = some c) (hc' : cs[q + 1]? = some c) (hz1 : es[q]? = some z) (hz2 : es[q + 1]? = some (z.setIfInBounds i v)) :
    (rePh w0 g e T gen sy av a cs es c0 z0 h0 hz hR hE).K w (w.setCell ⟨e, i, none⟩ v) ∧ (rePh w0 g e T gen sy av a cs es c0 z0 h0 hz hR hE).ph (q + 1) (w.setCell ⟨e, i, none⟩ v) := by
  obtain ⟨h1, ⟨c2, h2, h3⟩, z2, h4, h5⟩ := hw
  obtain rfl : c2 = c := by rw [hc] at h2; exact (Option.some.inj h2).symm
  obtain rfl : z2 = z := by rw [hz1] at h4; exact (Option.some.inj h4).symm
  have hk : Kept w (w.setCell ⟨e, i, none⟩ v) (fun k => k = g ∨ k = e) := Kept.of_grown (grown_set w e i v) fun k e => .inr (Option.some.inj e).symm
  exact ⟨hk, h1.trans hk, ⟨c2, hc', Blk.grown h3 (grown_set w e i v) (fun e' => hne (Option.some.inj e').symm)⟩, _, hz2, Blk.set_ h5 i v⟩
theorem rePh_cell {i : Nat} {v : Value} (hv : (rdC c0 gen sy av a)[i + 2]? = some v) : ∀ x : PW (rePh w0 g e T gen sy av a cs es c0 z0 h0 hz hR hE), x.w.cell? ⟨g, i + 2, none⟩ = some v := fun x => by
  obtain ⟨q, h1, ⟨c, h2, h3⟩, _⟩ := x.2
  refine (Blk.cell h3 (i + 2)).trans (Eq.trans ?_ hv)
  rcases i with _ | _ | _ | _ | _ | _ | i <;> rfl
end
end Go.Proofs.YtpeahjocimhneaaGreatDoor
namespace Go.Proofs.YtpeahjocimhneaaGreatDoor
open Go.RowKit Go.Maps Go.WideMaps
attribute [local go_sem] bs_toList bs_size

theorem results_c {P : Program} {fn : Func} {p : Tmp} {ty : TypeId} (h : fn.results = #[.cell p ty]) (tmps : Array Value) (w : World) (g : Nat) (tb : TypeId) (cs : Array Value) (d : TypeDesc)
    (hp : tmps.getD p undef = .pointer (some ⟨g, 0, none⟩)) (hg : Blk w g tb cs)
    (hu : P.underlying ty = some d) (hd : (match d with | .struct _ | .array _ _ => true | _ => false) = true) (hi : (P.info? ty).map (·.size) = some cs.size) :
    (results fn tmps).run P w = .ok (.agg cs) w := by
  have hp' : tmps[p]?.getD undef = .pointer (some ⟨g, 0, none⟩) := by simpa using hp
  simp [results, h, hp', asAddr, run_loadVar_row w g tb ty cs (0, 0) d hg hu hd hi]
/-- What is behind the labels. -/
def fin2 (g : Int) (a : En) (R : List Lb × CS) : En × CS :=
  (⟨R.1, if g = 3 then wr64' (a.last + Num.zagI (sV R.2)) else wr64' (sV R.2), if g = 3 then wr64' (wr64' (a.off + a.len) + Num.zagI (sV (sN R.2))) else wr64' (sV (sN R.2)), wr64' (sV (sN (sN R.2)))⟩, sN (sN (sN R.2)))
theorem ent2_fin (g : Int) (S : List (List UInt8)) (a : En) (c : CS) : ent2R g S a c = fin2 g a (labs2R S (manyN (sV c) 6 (sN c)).1 (manyN (sV c) 6 (sN c)).2) := rfl
theorem strs_bd {w : World} {v : Value} {S : List (List UInt8)} (h : StrsAt w v S) : ∀ s ∈ S, s.length ≤ 1048576 := fun s hs => by
  obtain ⟨i, hi⟩ := List.getElem?_of_mem hs
  obtain ⟨_, _, _, _, _, h4⟩ := h
  exact (h4 i s hi).1
theorem rd_ahead {w : World} {q : Nat} {c : CS} {gen : Int} {sy av : Value} {a : En} (h : Rd w q c gen sy av a) (v : Value) (x : En) :
    Rd ((((w.setCell ⟨q, 4, none⟩ v).setCell ⟨q, 5, none⟩ (.int .i64 x.last)).setCell ⟨q, 6, none⟩ (.int .i64 x.off)).setCell ⟨q, 7, none⟩ (.int .i64 x.len)) q c gen sy v x ∧
      Kept w ((((w.setCell ⟨q, 4, none⟩ v).setCell ⟨q, 5, none⟩ (.int .i64 x.last)).setCell ⟨q, 6, none⟩ (.int .i64 x.off)).setCell ⟨q, 7, none⟩ (.int .i64 x.len)) (fun k => k = q) :=
  ⟨Blk.set_ (Blk.set_ (Blk.set_ (Blk.set_ h 4 v) 5 (.int .i64 x.last)) 6 (.int .i64 x.off)) 7 (.int .i64 x.len), Kept.of_grown (grown_trans' (grown_trans' (grown_trans' (grown_set _ _ _ _) (grown_set _ _ _ _)) (grown_set _ _ _ _)) (grown_set _ _ _ _)) fun _ e => (Option.some.inj e).symm⟩
set_option maxRecDepth 100000 in
set_option maxHeartbeats 4000000 in
theorem entry2_any (q : Nat) (S : List (List UInt8)) (c : CS) (gen : Int) (sy av : Value) (a : En) (w : World) (h : Rd w q c gen sy av a) (hS : StrsAt w sy S) (hq : ∀ b, sy.ownBlock = some b → b ≠ q) (hl : c.1.length ≤ 1000000) (hg1 : -9223372036854775808 ≤ gen) (hg2 : gen ≤ 9223372036854775807) :
    Calls Tryz.prog 90 #[.pointer (some ⟨q, 0, none⟩)] w fun e w' => ∃ vl, e = .returned (enV vl (ent2R gen S a c).1) ∧ Rd w' q (ent2R gen S a c).2 gen sy vl (ent2R gen S a c).1 ∧ LabsOwn w' vl (ent2R gen S a c).1.labels ∧ Kept w w' (fun k => k = q) := by
  have ⟨i0, hin, hz0, hz1, hz2⟩ := info_parts (show (Tryz.prog.info? 37).map (fun i => (i.zero, i.size, i.bytes)) = some (some (.agg #[.string ⟨#[]⟩, .string ⟨#[]⟩]), 2, 32) by kernel_rfl)
  have HB := Lib.hid (ent2_ok gen S 1048576 (strs_bd hS) a c)
  have HS := Lib.hid (fun W (hk : Kept w W (fun k => k = q)) => hS.kept hk hq)
  have HQ := Lib.hid hq
  have q1 := Lib.hid (fun W (hR : Rd W q c gen sy av a) => RSm q c gen sy av a W hR (by omega))
  have HR := Lib.hid (ent2_fin gen S a c)
  obtain ⟨n0, hn0, hn1⟩ := sV_nat c
  rw [hn0] at q1 HR
  have hsl := sN_len c
  have q2 := Lib.hid (fun W (hR : Rd W q (sN c) gen sy av a) => many_any q n0 6 (sN c) gen sy av a W hR hn1 (by omega))
  have hml := many_le n0 6 (sN c) (by omega)
  generalize manyN n0 6 (sN c) = M at *
  obtain ⟨N, c0⟩ := M
  simp only at hml q2 HR
  generalize ent2R gen S a c = X at *
  generalize sN c = cA at *
  clear hn0 hn1 hS hq
  have hqw := h.lt
  have bW : Kept w ((w.alloc (.cells #[.slice none 0 0, .int .i64 0, .int .i64 0, .int .i64 0] 59)).alloc (.cells #[.slice none 0 0, .int .i64 0, .int .i64 0, .int .i64 0] 59)) (fun k => k = q) := (Kept.alloc w _ _).trans (Kept.alloc _ _ _)
  have hR0 : Rd ((w.alloc (.cells #[.slice none 0 0, .int .i64 0, .int .i64 0, .int .i64 0] 59)).alloc (.cells #[.slice none 0 0, .int .i64 0, .int .i64 0, .int .i64 0] 59)) q c gen sy av a := Blk.alloc (Blk.alloc h _) _
  have r0 : Blk ((w.alloc (.cells #[.slice none 0 0, .int .i64 0, .int .i64 0, .int .i64 0] 59)).alloc (.cells #[.slice none 0 0, .int .i64 0, .int .i64 0, .int .i64 0] 59)) w.heap.size 59 #[.slice none 0 0, .int .i64 0, .int .i64 0, .int .i64 0] := (Blk.new w _ _).alloc _
  have e0 : Blk ((w.alloc (.cells #[.slice none 0 0, .int .i64 0, .int .i64 0, .int .i64 0] 59)).alloc (.cells #[.slice none 0 0, .int .i64 0, .int .i64 0, .int .i64 0] 59)) (w.heap.size + 1) 59 #[.slice none 0 0, .int .i64 0, .int .i64 0, .int .i64 0] := by
    have := Blk.new (w.alloc (.cells #[.slice none 0 0, .int .i64 0, .int .i64 0, .int .i64 0] 59)) 59 #[.slice none 0 0, .int .i64 0, .int .i64 0, .int .i64 0]
    rw [World.size_alloc] at this
    exact this
  have hsz0 : w.heap.size + 2 ≤ ((w.alloc (.cells #[.slice none 0 0, .int .i64 0, .int .i64 0, .int .i64 0] 59)).alloc (.cells #[.slice none 0 0, .int .i64 0, .int .i64 0, .int .i64 0] 59)).heap.size := by rw [World.size_alloc, World.size_alloc]; omega
  go_enter Tryz.func90, Tryz.ntmps90
  go_wp2_with fail
  generalize (w.alloc (.cells #[.slice none 0 0, .int .i64 0, .int .i64 0, .int .i64 0] 59)).alloc (.cells #[.slice none 0 0, .int .i64 0, .int .i64 0, .int .i64 0] 59) = W0 at *
  refine (q1.out W0 hR0).mono ?_
  rintro e w1 ⟨rfl, hR1, hgA⟩
  have kA : Kept W0 w1 (fun k => k = q) := Kept.of_grown hgA fun k e => (Option.some.inj e).symm
  have r1 := r0.keptK kA (by omega)
  have e1 := e0.keptK kA (by omega)
  have k1 := bW.trans kA
  clear r0 e0 bW q1 hgA hR0
  go_wp2_with fail
  refine (q2.out _ hR1).mono ?_
  rintro e w2 ⟨rfl, hR2, hgB⟩
  have kB : Kept w1 w2 (fun k => k = q) := Kept.of_grown hgB fun k e => (Option.some.inj e).symm
  have r2 := r1.keptK kB (by omega)
  have e2 := e1.keptK kB (by omega)
  have k2 := k1.trans kB
  have rw0 : w2.ownsRow (w.heap.size + 2) 37 2 (.slice none 0 0) ([] : List Lb).length (lbCells []) := World.ownsRow_nil _ _ _ _
  have hsz2 : w.heap.size + 2 ≤ w2.heap.size := Nat.le_trans hsz0 (Nat.le_trans kA.size kB.size)
  clear r1 e1 k1 kA kB hgB q2 hR1 hsz0 h W0
  go_wp2_with fail
  go_loopw [10] (fun vi wr => ∃ (i : Nat) (T : List Lb) (c1 : CS) (vl : Value), i ≤ N ∧ vi = .int .i64 (i : Int) ∧ T.length = i ∧ c1.1.length ≤ 1000000 ∧ Rd wr q c1 gen sy av a ∧ Blk wr (w.heap.size + 1) 59 (entC vl zeroEn) ∧ Blk wr w.heap.size 59 #[.slice none 0 0, .int .i64 0, .int .i64 0, .int .i64 0] ∧
      wr.ownsRow (w.heap.size + 2) 37 2 vl T.length (lbCells T) ∧ Kept w wr (fun k => k = q) ∧ w.heap.size + 2 ≤ wr.heap.size ∧ Hid (labs2R S N c0 = (T ++ (labs2R S (N - i) c1).1, (labs2R S (N - i) c1).2))) (fun vi _ => N - (intOf vi).toNat)
  case atStart => exact ⟨0, [], c0, _, Nat.zero_le _, rfl, rfl, by omega, hR2, e2, r2, rw0, k2, hsz2, Lib.hid rfl⟩
  clear hR2 e2 r2 rw0 k2 hsz2
  obtain ⟨i, T, c1, vl, hi, rfl, hTi, hcl, hR, hB, r0, hrow, hk, hsz, HI⟩ := hrel
  subst hTi
  have hvq : vl.ownBlock ≠ some q := fun e => by have h1 := tag_row hrow e; rw [tag_blk hR] at h1; simp at h1
  have hve : vl.ownBlock ≠ some (w.heap.size + 1) := fun e => by have h1 := tag_row hrow e; rw [tag_blk hB] at h1; simp at h1
  have hvr : vl.ownBlock ≠ some w.heap.size := fun e => by have h1 := tag_row hrow e; rw [tag_blk r0] at h1; simp at h1
  have hltr : ∀ k, vl.ownBlock = some k → k < wr.heap.size := fun k hk => owns_lt hrow hk
  obtain ⟨va, vc, rfl⟩ := row_form hrow
  rcases (show T.length < N ∨ T.length = N by omega) with hil | hiN
  · have HI2 := Lib.hid (show labs2R S N c0 = (T ++ [((symR S c1).1, (symR S (symR S c1).2).1)] ++ (labs2R S (N - (T.length + 1)) (symR S (symR S c1).2).2).1, (labs2R S (N - (T.length + 1)) (symR S (symR S c1).2).2).2) by
      rw [HI.out, show N - T.length = N - (T.length + 1) + 1 by omega]
      conv => lhs; unfold labs2R
      simp)
    have s1 := (symR_ok S c1).2
    have s2 := (symR_ok S (symR S c1).2).2
    have K1 := Lib.hid (fun W (hR : Rd W q c1 gen sy av a) (hs : StrsAt W sy S) => symbol_any q S c1 gen sy av a W hR hs HQ.out (by omega))
    have K2 := Lib.hid (fun W (hR : Rd W q (symR S c1).2 gen sy av a) (hs : StrsAt W sy S) => symbol_any q S (symR S c1).2 gen sy av a W hR hs HQ.out (by omega))
    generalize symR S c1 = Y1 at *
    obtain ⟨t1, c2⟩ := Y1
    simp only at HI2 s1 s2 K1 K2
    generalize symR S c2 = Y2 at *
    obtain ⟨t2, c3⟩ := Y2
    simp only at HI2 s1 s2 K1 K2
    have HOV := Lib.hid (fun W (hk' : Kept wr W (SR q (.slice va T.length vc))) => hk.then_over hk' (fun i hi hT => by
      rcases hT with e | e
      · exact e
      · have := (hrow.lt i e).1
        omega))
    have hcell : ∀ x : PW (rowPhR wr q gen sy av a [c1, c2, c3, c3] c1 rfl hR (.slice va T.length vc) (appendedTo wr (.slice va T.length vc) 2 T.length [.string (bs t1), .string (bs t2)]) 2 hltr), x.w.cell? ⟨w.heap.size + 1, 0, none⟩ = some (.slice va T.length vc) := rowPhR_blk hB (by omega) hve rfl
    clear HI
    go_wp2_with fail
    refine wp_region_ledC (rowPhR wr q gen sy av a [c1, c2, c3, c3] c1 rfl hR (.slice va T.length vc) (appendedTo wr (.slice va T.length vc) 2 T.length [.string (bs t1), .string (bs t2)]) 2 hltr) [3, 5, 8] rfl (by kernel_rfl) (by kernel_rfl) rfl (by kernel_rfl) (by kernel_rfl) (by kernel_rfl) ?_
    (refine lexc_one (by kernel_rfl) (by kernel_rfl) (by kernel_rfl) (by kernel_rfl) (fun K hK => ?_); go_big_quiet_step (fail); refine wpQuiet_nil (hK _ ?_); clear hK K); (refine lexc_one (by kernel_rfl) (by kernel_rfl) (by kernel_rfl) (by kernel_rfl) (fun K hK => ?_); go_big_quiet_step (fail); refine wpQuiet_nil (hK _ ?_); clear hK K); (refine lexc_one (by kernel_rfl) (by kernel_rfl) (by kernel_rfl) (by kernel_rfl) (fun K hK => ?_); go_big_quiet_step (fail); refine wpQuiet_nil (hK _ ?_); clear hK K)
    (refine lexc_row 0 (f := 121) (args := #[.pointer (some ⟨q, 0, none⟩)]) (v := .string (bs t1)) (by kernel_rfl) (by kernel_rfl) (by kernel_rfl) (fun _ _ h => by cases h) (by kernel_rfl) (by kernel_rfl) (fun _ => by go_simp) (fun W hW => rowPhR_row hvq hW rfl rfl (by omega) (fun hR' hk' => K1.out W hR' (HS.out W (HOV.out W hk')))) (lexc_put (type := 0) (pos := "") (fun K hK => ?_)); go_big_quiet_step (fail); refine wpQuiet_nil (hK _ ?_); clear hK K)
    (refine lexc_one (by kernel_rfl) (by kernel_rfl) (by kernel_rfl) (by kernel_rfl) (fun K hK => ?_); go_big_quiet_step (fail); refine wpQuiet_nil (hK _ ?_); clear hK K)
    (refine lexc_row 1 (f := 121) (args := #[.pointer (some ⟨q, 0, none⟩)]) (v := .string (bs t2)) (by kernel_rfl) (by kernel_rfl) (by kernel_rfl) (fun _ _ h => by cases h) (by kernel_rfl) (by kernel_rfl) (fun _ => by go_simp) (fun W hW => rowPhR_row hvq hW rfl rfl (by omega) (fun hR' hk' => K2.out W hR' (HS.out W (HOV.out W hk')))) (lexc_put (type := 0) (pos := "") (fun K hK => ?_)); go_big_quiet_step (fail); refine wpQuiet_nil (hK _ ?_); clear hK K)
    (refine lexc_val (v := .agg #[.string (bs t1), .string (bs t2)]) (by kernel_rfl) (by kernel_rfl) (fun _ _ h => by cases h) (by kernel_rfl) (by kernel_rfl) (fun W hW => by skip; go_simp) (lexc_put (type := 0) (pos := "") (fun K hK => ?_)); go_big_quiet_step (fail); refine wpQuiet_nil (hK _ ?_); clear hK K)
    refine lexc_cellsR (d := 19) (mm := 1) (news := [.string (bs t1), .string (bs t2)]) (by kernel_rfl) (by kernel_rfl) (fun _ _ h => by cases h) (by kernel_rfl) rfl 37 (fun W => by go_simp) ?_
    refine lexc_appR (d := 20) (s := 13) (x := 19) (c := c3) rfl (by kernel_rfl) (by kernel_rfl) rfl rfl rfl Tryz.underlying57 hin hz0 hz1 hz2 rfl (by decide) rfl rfl rfl hrow rfl (by simp [Value.oneCell']) (by unfold maxLen; omega) (by omega) hsz hvq rfl rfl ?_
    (refine lexc_one (by kernel_rfl) (by kernel_rfl) (by kernel_rfl) (by kernel_rfl) (fun K hK => ?_); go_big_quiet_step (fail); refine wpQuiet_nil (hK _ ?_); clear hK K)
    refine lexc_nil (by kernel_rfl) (by kernel_rfl) (by kernel_rfl) ?_
    rintro w5 hK5 ⟨hk5, ⟨cc, hcc, hR5⟩, _⟩
    obtain rfl : cc = c3 := (Option.some.inj hcc).symm
    simp only [hideAll]
    rintro v' ⟨hown, _⟩ z _
    simp only [Act.put, List.setIfInBounds_toArray, List.set_cons_succ, List.set_cons_zero]
    obtain ⟨va', vc', rfl⟩ := row_form hown
    have hB5 : Blk w5 (w.heap.size + 1) 59 #[.slice va T.length vc, .int .i64 0, .int .i64 0, .int .i64 0] := hB.keptK hk5 (fun e => e.elim (fun e => by omega) (fun e => hve e))
    have r5 := r0.keptK hk5 (fun e => e.elim (fun e => by omega) (fun e => hvr e))
    have hkk5 := HOV.out w5 hk5
    have e1 : w5.cell? ⟨w.heap.size + 1, 0, none⟩ = some (.slice va T.length vc) := (Blk.cell hB5 0).trans rfl
    have f1 := Blk.frozen hB5 0
    have hnb : (Value.slice va' (T.length + 1) vc').ownBlock ≠ some (w.heap.size + 1) := fun e => by have h1 := tag_row hown e; rw [tag_blk hB5] at h1; simp at h1
    have hk6 : Kept w5 (w5.setCell ⟨w.heap.size + 1, 0, none⟩ (.slice va' (T.length + 1) vc')) (fun k => k = w.heap.size + 1) := Kept.of_grown (grown_set _ _ _ _) fun k e => (Option.some.inj e).symm
    have hB6 : Blk (w5.setCell ⟨w.heap.size + 1, 0, none⟩ (.slice va' (T.length + 1) vc')) (w.heap.size + 1) 59 (entC (.slice va' (T.length + 1) vc') zeroEn) := Blk.set_ hB5 0 _
    have hR6 : Rd (w5.setCell ⟨w.heap.size + 1, 0, none⟩ (.slice va' (T.length + 1) vc')) q cc gen sy av a := Blk.keptK hR5 hk6 (by omega)
    have r6 := r5.keptK hk6 (by omega)
    have hr6 := ownsRow_kept hown hk6 (fun k e e2 => hnb (e2 ▸ e))
    have hkk6 := hkk5.then_over hk6 (fun i hi e => by omega)
    have hsz6 : w.heap.size + 2 ≤ (w5.setCell ⟨w.heap.size + 1, 0, none⟩ (.slice va' (T.length + 1) vc')).heap.size := Nat.le_trans hsz (Nat.le_trans hk5.size hk6.size)
    have hrl : lbCells (T ++ [(t1, t2)]) = lbCells T ++ [.string (bs t1), .string (bs t2)] := by unfold lbCells; simp
    clear K1 K2 hcell hK5 hk5 hR5 hown hB5 r5 hkk5 hk6 hrow hB hR r0 hk hltr hvq hve hvr hnb HOV
    go_wp2_with fail
    go_roundw
    case rel =>
      refine ⟨T.length + 1, T ++ [(t1, t2)], cc, _, by omega, by go_num, by simp, by omega, hR6, hB6, r6, ?_, hkk6, hsz6, Lib.hid HI2.out⟩
      rw [hrl, List.length_append]
      exact hr6
    case measure => simp [intOf]; omega
  · subst hiN
    have HX := Lib.hid (show X = fin2 gen a (T, c1) by
      rw [HR.out, HI.out, Nat.sub_self]
      simp [labs2R])
    have hXl : X.1.labels = T := by rw [HX.out]; rfl
    have hlo := labsOwn_row hrow (by have := HB.out.2.1; rw [hXl] at this; omega) (by have := HB.out.2.2.2; rw [hXl] at this; exact this)
    have hne : w.heap.size + 1 ≠ q := by omega
    have dg := (Blk.cell hR 2).trans (show _ = some (Value.int .i64 gen) from rfl)
    have l1 := sN_len c1
    have l2 := sN_len (sN c1)
    obtain ⟨n1, hn1, hn1'⟩ := sV_nat c1
    obtain ⟨n2, hn2, hn2'⟩ := sV_nat (sN c1)
    obtain ⟨n3, hn3, hn3'⟩ := sV_nat (sN (sN c1))
    have q3 := Lib.hid (fun W (hR : Rd W q c1 gen sy av a) => RSm q c1 gen sy av a W hR (by omega))
    have q4 := Lib.hid (fun W (hR : Rd W q (sN c1) gen sy av a) => RSm q (sN c1) gen sy av a W hR (by omega))
    have q5 := Lib.hid (fun W (hR : Rd W q (sN (sN c1)) gen sy av a) => RSm q (sN (sN c1)) gen sy av a W hR (by omega))
    unfold fin2 at HX
    simp only at HX
    rw [hn1] at q3
    rw [hn2] at q4
    rw [hn3] at q5
    rw [hn1, hn2, hn3] at HX
    clear HR HI HB hvr hve hvq hltr hrow
    have hdead : True := trivial
    generalize sN c1 = c2 at *
    generalize sN c2 = c3 at *
    generalize sN c3 = c4 at *
    by_cases hg3 : gen = 3
    · subst hg3
      have f3 : ((3 : Int) == 3) = true := rfl
      rw [if_pos rfl, if_pos rfl] at HX
      have z1 := Lib.hid (fun W => num_Zag_any (n1 : Int) W (by omega) (by omega))
      have z2 := Lib.hid (fun W => num_Zag_any (n2 : Int) W (by omega) (by omega))
      generalize Num.zagI (n1 : Int) = m1 at *
      generalize Num.zagI (n2 : Int) = m2 at *
      have wA : IntKind.i64.wrap (a.last + m1) = wr64' (a.last + m1) := rfl
      have wB : IntKind.i64.wrap (a.off + a.len) = wr64' (a.off + a.len) := rfl
      have wC : IntKind.i64.wrap (wr64' (a.off + a.len) + m2) = wr64' (wr64' (a.off + a.len) + m2) := rfl
      have wD : IntKind.i64.wrap (n3 : Int) = wr64' (n3 : Int) := rfl
      generalize wr64' (a.last + m1) = L at *
      generalize wr64' (a.off + a.len) = U at *
      generalize wr64' (U + m2) = O at *
      generalize wr64' (n3 : Int) = E at *
      have p5 : ∀ x : PW (rePh wr q (w.heap.size + 1) 59 3 sy av a [c1, c2, c2, c3, c3, c3, c3] [entC (.slice va T.length vc) zeroEn, entC (.slice va T.length vc) zeroEn, entC (.slice va T.length vc) zeroEn, entC (.slice va T.length vc) zeroEn, entC (.slice va T.length vc) zeroEn, (entC (.slice va T.length vc) zeroEn).setIfInBounds 1 (.int .i64 L), ((entC (.slice va T.length vc) zeroEn).setIfInBounds 1 (.int .i64 L)).setIfInBounds 2 (.int .i64 O)] c1 (entC (.slice va T.length vc) zeroEn) rfl rfl hR hB), x.w.cell? ⟨q, 5, none⟩ = some (.int .i64 a.last) := rePh_cell (i := 3) rfl
      have p6 : ∀ x : PW (rePh wr q (w.heap.size + 1) 59 3 sy av a [c1, c2, c2, c3, c3, c3, c3] [entC (.slice va T.length vc) zeroEn, entC (.slice va T.length vc) zeroEn, entC (.slice va T.length vc) zeroEn, entC (.slice va T.length vc) zeroEn, entC (.slice va T.length vc) zeroEn, (entC (.slice va T.length vc) zeroEn).setIfInBounds 1 (.int .i64 L), ((entC (.slice va T.length vc) zeroEn).setIfInBounds 1 (.int .i64 L)).setIfInBounds 2 (.int .i64 O)] c1 (entC (.slice va T.length vc) zeroEn) rfl rfl hR hB), x.w.cell? ⟨q, 6, none⟩ = some (.int .i64 a.off) := rePh_cell (i := 4) rfl
      have p7 : ∀ x : PW (rePh wr q (w.heap.size + 1) 59 3 sy av a [c1, c2, c2, c3, c3, c3, c3] [entC (.slice va T.length vc) zeroEn, entC (.slice va T.length vc) zeroEn, entC (.slice va T.length vc) zeroEn, entC (.slice va T.length vc) zeroEn, entC (.slice va T.length vc) zeroEn, (entC (.slice va T.length vc) zeroEn).setIfInBounds 1 (.int .i64 L), ((entC (.slice va T.length vc) zeroEn).setIfInBounds 1 (.int .i64 L)).setIfInBounds 2 (.int .i64 O)] c1 (entC (.slice va T.length vc) zeroEn) rfl rfl hR hB), x.w.cell? ⟨q, 7, none⟩ = some (.int .i64 a.len) := rePh_cell (i := 5) rfl
      go_wp2_with fail
      refine wp_region_C (rePh wr q (w.heap.size + 1) 59 3 sy av a [c1, c2, c2, c3, c3, c3, c3] [entC (.slice va T.length vc) zeroEn, entC (.slice va T.length vc) zeroEn, entC (.slice va T.length vc) zeroEn, entC (.slice va T.length vc) zeroEn, entC (.slice va T.length vc) zeroEn, (entC (.slice va T.length vc) zeroEn).setIfInBounds 1 (.int .i64 L), ((entC (.slice va T.length vc) zeroEn).setIfInBounds 1 (.int .i64 L)).setIfInBounds 2 (.int .i64 O)] c1 (entC (.slice va T.length vc) zeroEn) rfl rfl hR hB) [8, 9, 25, 26, 29, 31] rfl (by kernel_rfl) (by kernel_rfl) (by kernel_rfl) (by kernel_rfl) ?_
      (refine lexc_one (by kernel_rfl) (by kernel_rfl) (by kernel_rfl) (by kernel_rfl) (fun K hK => ?_); go_big_quiet_step (fail); refine wpQuiet_nil (hK _ ?_); clear hK K); (refine lexc_one (by kernel_rfl) (by kernel_rfl) (by kernel_rfl) (by kernel_rfl) (fun K hK => ?_); go_big_quiet_step (fail); refine wpQuiet_nil (hK _ ?_); clear hK K); (refine lexc_one (by kernel_rfl) (by kernel_rfl) (by kernel_rfl) (by kernel_rfl) (fun K hK => ?_); go_big_quiet_step (fail); refine wpQuiet_nil (hK _ ?_); clear hK K); (refine lexc_one (by kernel_rfl) (by kernel_rfl) (by kernel_rfl) (by kernel_rfl) (fun K hK => ?_); go_big_quiet_step (fail); refine wpQuiet_nil (hK _ ?_); clear hK K); (refine lexc_one (by kernel_rfl) (by kernel_rfl) (by kernel_rfl) (by kernel_rfl) (fun K hK => ?_); go_big_quiet_step (fail); refine wpQuiet_nil (hK _ ?_); clear hK K); (refine lexc_one (by kernel_rfl) (by kernel_rfl) (by kernel_rfl) (by kernel_rfl) (fun K hK => ?_); go_big_quiet_step (fail); refine wpQuiet_nil (hK _ ?_); clear hK K); (refine lexc_one (by kernel_rfl) (by kernel_rfl) (by kernel_rfl) (by kernel_rfl) (fun K hK => ?_); go_big_quiet_step (fail); refine wpQuiet_nil (hK _ ?_); clear hK K); (refine lexc_one (by kernel_rfl) (by kernel_rfl) (by kernel_rfl) (by kernel_rfl) (fun K hK => ?_); go_big_quiet_step (fail); refine wpQuiet_nil (hK _ ?_); clear hK K)
      (refine lexc_row 0 (f := 94) (args := #[.pointer (some ⟨q, 0, none⟩)]) (v := .int .u64 (n1 : Int)) (by kernel_rfl) (by kernel_rfl) (by kernel_rfl) (fun _ _ h => by cases h) (by kernel_rfl) (by kernel_rfl) (fun _ => by go_simp) (fun W hW => rePh_row hne hW rfl rfl rfl rfl (fun hR' => q3.out W hR')) (lexc_put (type := 0) (pos := "") (fun K hK => ?_)); go_big_quiet_step (fail); refine wpQuiet_nil (hK _ ?_); clear hK K)
      (refine lexc_row 1 (f := 122) (args := #[.int .u64 (n1 : Int)]) (v := .int .i64 m1) (by kernel_rfl) (by kernel_rfl) (by kernel_rfl) (fun _ _ h => by cases h) (by kernel_rfl) (by kernel_rfl) (fun _ => by go_simp) (fun W hW => rePh_pure hne hW rfl rfl rfl rfl ((z1.out W).mono fun e w' ⟨h1, h2⟩ => ⟨h1, h2 ▸ Below.refl _ _⟩)) (lexc_put (type := 0) (pos := "") (fun K hK => ?_)); go_big_quiet_step (fail); refine wpQuiet_nil (hK _ ?_); clear hK K)
      (refine lexc_one (by kernel_rfl) (by kernel_rfl) (by kernel_rfl) (by kernel_rfl) (fun K hK => ?_); go_big_quiet_step (fail); refine wpQuiet_nil (hK _ ?_); clear hK K); (refine lexc_one (by kernel_rfl) (by kernel_rfl) (by kernel_rfl) (by kernel_rfl) (fun K hK => ?_); go_big_quiet_step (fail); refine wpQuiet_nil (hK _ ?_); clear hK K); (refine lexc_one (by kernel_rfl) (by kernel_rfl) (by kernel_rfl) (by kernel_rfl) (fun K hK => ?_); go_big_quiet_step (fail); refine wpQuiet_nil (hK _ ?_); clear hK K); (refine lexc_one (by kernel_rfl) (by kernel_rfl) (by kernel_rfl) (by kernel_rfl) (fun K hK => ?_); go_big_quiet_step (fail); refine wpQuiet_nil (hK _ ?_); clear hK K); (refine lexc_one (by kernel_rfl) (by kernel_rfl) (by kernel_rfl) (by kernel_rfl) (fun K hK => ?_); go_big_quiet_step (fail); refine wpQuiet_nil (hK _ ?_); clear hK K); (refine lexc_one (by kernel_rfl) (by kernel_rfl) (by kernel_rfl) (by kernel_rfl) (fun K hK => ?_); go_big_quiet_step (fail); refine wpQuiet_nil (hK _ ?_); clear hK K); (refine lexc_one (by kernel_rfl) (by kernel_rfl) (by kernel_rfl) (by kernel_rfl) (fun K hK => ?_); go_big_quiet_step (fail); refine wpQuiet_nil (hK _ ?_); clear hK K); (refine lexc_one (by kernel_rfl) (by kernel_rfl) (by kernel_rfl) (by kernel_rfl) (fun K hK => ?_); go_big_quiet_step (fail); refine wpQuiet_nil (hK _ ?_); clear hK K); (refine lexc_one (by kernel_rfl) (by kernel_rfl) (by kernel_rfl) (by kernel_rfl) (fun K hK => ?_); go_big_quiet_step (fail); refine wpQuiet_nil (hK _ ?_); clear hK K); (refine lexc_one (by kernel_rfl) (by kernel_rfl) (by kernel_rfl) (by kernel_rfl) (fun K hK => ?_); go_big_quiet_step (fail); refine wpQuiet_nil (hK _ ?_); clear hK K); (refine lexc_one (by kernel_rfl) (by kernel_rfl) (by kernel_rfl) (by kernel_rfl) (fun K hK => ?_); go_big_quiet_step (fail); refine wpQuiet_nil (hK _ ?_); clear hK K); (refine lexc_one (by kernel_rfl) (by kernel_rfl) (by kernel_rfl) (by kernel_rfl) (fun K hK => ?_); go_big_quiet_step (fail); refine wpQuiet_nil (hK _ ?_); clear hK K); (refine lexc_one (by kernel_rfl) (by kernel_rfl) (by kernel_rfl) (by kernel_rfl) (fun K hK => ?_); go_big_quiet_step (fail); refine wpQuiet_nil (hK _ ?_); clear hK K); (refine lexc_one (by kernel_rfl) (by kernel_rfl) (by kernel_rfl) (by kernel_rfl) (fun K hK => ?_); go_big_quiet_step (fail); refine wpQuiet_nil (hK _ ?_); clear hK K); (refine lexc_one (by kernel_rfl) (by kernel_rfl) (by kernel_rfl) (by kernel_rfl) (fun K hK => ?_); go_big_quiet_step (fail); refine wpQuiet_nil (hK _ ?_); clear hK K)
      (refine lexc_row 2 (f := 94) (args := #[.pointer (some ⟨q, 0, none⟩)]) (v := .int .u64 (n2 : Int)) (by kernel_rfl) (by kernel_rfl) (by kernel_rfl) (fun _ _ h => by cases h) (by kernel_rfl) (by kernel_rfl) (fun _ => by go_simp) (fun W hW => rePh_row hne hW rfl rfl rfl rfl (fun hR' => q4.out W hR')) (lexc_put (type := 0) (pos := "") (fun K hK => ?_)); go_big_quiet_step (fail); refine wpQuiet_nil (hK _ ?_); clear hK K)
      (refine lexc_row 3 (f := 122) (args := #[.int .u64 (n2 : Int)]) (v := .int .i64 m2) (by kernel_rfl) (by kernel_rfl) (by kernel_rfl) (fun _ _ h => by cases h) (by kernel_rfl) (by kernel_rfl) (fun _ => by go_simp) (fun W hW => rePh_pure hne hW rfl rfl rfl rfl ((z2.out W).mono fun e w' ⟨h1, h2⟩ => ⟨h1, h2 ▸ Below.refl _ _⟩)) (lexc_put (type := 0) (pos := "") (fun K hK => ?_)); go_big_quiet_step (fail); refine wpQuiet_nil (hK _ ?_); clear hK K)
      (refine lexc_one (by kernel_rfl) (by kernel_rfl) (by kernel_rfl) (by kernel_rfl) (fun K hK => ?_); go_big_quiet_step (fail); refine wpQuiet_nil (hK _ ?_); clear hK K); (refine lexc_one (by kernel_rfl) (by kernel_rfl) (by kernel_rfl) (by kernel_rfl) (fun K hK => ?_); go_big_quiet_step (fail); refine wpQuiet_nil (hK _ ?_); clear hK K)
      refine lexc_do 4 (by kernel_rfl) (by kernel_rfl) rfl (fun _ _ h => by cases h) (by kernel_rfl) rfl (fun W hW => ?_) ?_
      · obtain ⟨_, _, z, hz, hE⟩ := id hW
        obtain rfl : entC (.slice va T.length vc) zeroEn = z := Option.some.inj hz
        have g0 := (Blk.cell hE 1).trans (show _ = some (Value.int .i64 0) from rfl)
        have g1 := Blk.frozen hE 1
        exact ⟨_, by go_simp, rePh_set hne hW rfl rfl rfl rfl⟩
      (refine lexc_one (by kernel_rfl) (by kernel_rfl) (by kernel_rfl) (by kernel_rfl) (fun K hK => ?_); go_big_quiet_step (fail); refine wpQuiet_nil (hK _ ?_); clear hK K)
      refine lexc_do 5 (by kernel_rfl) (by kernel_rfl) rfl (fun _ _ h => by cases h) (by kernel_rfl) rfl (fun W hW => ?_) ?_
      · obtain ⟨_, _, z, hz, hE⟩ := id hW
        obtain rfl : (entC (.slice va T.length vc) zeroEn).setIfInBounds 1 (.int .i64 L) = z := Option.some.inj hz
        have g0 := (Blk.cell hE 2).trans (show _ = some (Value.int .i64 0) from rfl)
        have g1 := Blk.frozen hE 2
        exact ⟨_, by go_simp, rePh_set hne hW rfl rfl rfl rfl⟩
      refine lexc_nil (by kernel_rfl) (by kernel_rfl) (by kernel_rfl) ?_
      clear p5 p6 p7
      rintro W3 hK3 ⟨_, ⟨c', hc', hR3⟩, z', hz', hB3⟩
      obtain rfl : c3 = c' := Option.some.inj hc'
      obtain rfl := Option.some.inj hz'
      simp only [hideAll]
      have hB3 : Blk W3 (w.heap.size + 1) 59 #[.slice va T.length vc, .int .i64 L, .int .i64 O, .int .i64 0] := hB3
      have r3 := r0.keptK hK3 (by omega)
      have hk3 := hk.then_over hK3 (fun i hi h => by omega)
      have hlo3 := hlo.kept hK3 (fun b hb e => by
        rcases e with rfl | rfl
        · rw [tag_blk hR] at hb; simp at hb
        · rw [tag_blk hB] at hb; simp at hb)
      clear hK3 hR hB r0 hk hlo hdead
      go_wp2_with fail
      refine (q5.out W3 hR3).mono ?_
      rintro e W4 ⟨rfl, hR4, hg4⟩
      have hk4' : Kept W3 W4 (fun k => k = q) := Kept.of_grown hg4 fun k e => (Option.some.inj e).symm
      have hk4 := hk3.trans hk4'
      have hB4 := hB3.keptK hk4' (by omega)
      have r4 := r3.keptK hk4' (by omega)
      have hlo4 := hlo3.kept hk4' (fun b hb e => by subst e; rw [tag_blk hR3] at hb; simp at hb)
      clear hk4' hg4 hR3 hB3 r3 hk3 hlo3 q5
      have hB5 : Blk (W4.setCell ⟨w.heap.size + 1, 3, none⟩ (.int .i64 E)) (w.heap.size + 1) 59 #[.slice va T.length vc, .int .i64 L, .int .i64 O, .int .i64 E] := Blk.set_ hB4 3 _
      have hk5' : Kept W4 (W4.setCell ⟨w.heap.size + 1, 3, none⟩ (.int .i64 E)) (fun k => k = w.heap.size + 1) := Kept.of_grown (grown_set _ _ _ _) fun k e => (Option.some.inj e).symm
      have hR5 : Rd (W4.setCell ⟨w.heap.size + 1, 3, none⟩ (.int .i64 E)) q c4 3 sy av a := Blk.keptK hR4 hk5' (by omega)
      have r5 := r4.keptK hk5' (by omega)
      have hk5 := hk4.then_over hk5' (fun i hi h => by omega)
      have hlo5 := hlo4.kept hk5' (fun b hb e => by subst e; rw [tag_blk hB4] at hb; simp at hb)
      obtain ⟨⟨x0, x1, x2, x3⟩, y0, y1, y2, y3⟩ := cells4 hB4
      obtain ⟨W5, hW5⟩ : ∃ W, W4.setCell ⟨w.heap.size + 1, 3, none⟩ (.int .i64 E) = W := ⟨_, rfl⟩
      rw [hW5] at hB5 hk5' hR5 r5 hk5 hlo5
      have HW5 := Lib.hid hW5
      clear hW5
      obtain ⟨⟨s0, s1, s2, s3⟩, _⟩ := cells4 hB5
      have t4 := (Blk.cell hR5 4).trans (show _ = some av from rfl)
      have t5 := (Blk.cell hR5 5).trans (show _ = some (Value.int .i64 a.last) from rfl)
      have t6 := (Blk.cell hR5 6).trans (show _ = some (Value.int .i64 a.off) from rfl)
      have t7 := (Blk.cell hR5 7).trans (show _ = some (Value.int .i64 a.len) from rfl)
      have g4 := Blk.frozen hR5 4
      have g5 := Blk.frozen hR5 5
      have g6 := Blk.frozen hR5 6
      have g7 := Blk.frozen hR5 7
      obtain ⟨hR6, hk6'⟩ := rd_ahead hR5 (.slice va T.length vc) ⟨T, L, O, E⟩
      simp only at hR6 hk6'
      obtain ⟨W6, hW6⟩ : ∃ W, ((((W5.setCell ⟨q, 4, none⟩ (.slice va T.length vc)).setCell ⟨q, 5, none⟩ (.int .i64 L)).setCell ⟨q, 6, none⟩ (.int .i64 O)).setCell ⟨q, 7, none⟩ (.int .i64 E)) = W := ⟨_, rfl⟩
      rw [hW6] at hR6 hk6'
      have HW6 := Lib.hid hW6
      clear hW6
      have hB6 := hB5.keptK hk6' (by omega)
      have r6 := r5.keptK hk6' (by omega)
      have hk6 := hk5.trans hk6'
      have hlo6 := hlo5.kept hk6' (fun b hb e => by subst e; rw [tag_blk hR5] at hb; simp at hb)
      obtain ⟨⟨i0', i1', i2', i3'⟩, _⟩ := cells4 hB6
      obtain ⟨⟨u0, u1, u2, u3⟩, v0, v1, v2, v3⟩ := cells4 r6
      obtain ⟨rE, hkE⟩ := set4 r6 (.slice va T.length vc) (.int .i64 L) (.int .i64 O) (.int .i64 E)
      have hRE : Rd _ q c4 3 sy (.slice va T.length vc) ⟨T, L, O, E⟩ := Blk.keptK hR6 hkE (by omega)
      have hKE := hk6.then_over hkE (fun i hi h => by omega)
      have hloE := hlo6.kept hkE (fun b hb e => by subst e; rw [tag_blk r6] at hb; simp at hb)
      clear hR4 hB4 r4 hk4 hlo4 hk5' hR5 r5 hk5 hlo5 hR6 hk6' r6 hk6 hlo6 hB5 hB6 hkE
      go_wp2_with (first | rw [HW5.out] | rw [HW6.out])
      (try simp only [Exit.inBlock, Exit.then])
      refine bodyPost_ret (results_c rfl _ _ w.heap.size 59 _ _ rfl rE Tryz.underlying59 rfl (by kernel_rfl)) rfl ?_
      rw [HX.out]
      exact ⟨.slice va T.length vc, rfl, hRE, hloE, hKE⟩
    · have f3 : (gen == 3) = false := by simpa using hg3
      rw [if_neg hg3, if_neg hg3] at HX
      have wA : IntKind.i64.wrap (n1 : Int) = wr64' (n1 : Int) := rfl
      have wC : IntKind.i64.wrap (n2 : Int) = wr64' (n2 : Int) := rfl
      have wD : IntKind.i64.wrap (n3 : Int) = wr64' (n3 : Int) := rfl
      generalize wr64' (n1 : Int) = L at *
      generalize wr64' (n2 : Int) = O at *
      generalize wr64' (n3 : Int) = E at *
      clear hg3
      go_wp2_with fail
      refine wp_region_C (rePh wr q (w.heap.size + 1) 59 gen sy av a [c1, c2, c3, c3, c3] [entC (.slice va T.length vc) zeroEn, entC (.slice va T.length vc) zeroEn, entC (.slice va T.length vc) zeroEn, (entC (.slice va T.length vc) zeroEn).setIfInBounds 1 (.int .i64 L), ((entC (.slice va T.length vc) zeroEn).setIfInBounds 1 (.int .i64 L)).setIfInBounds 2 (.int .i64 O)] c1 (entC (.slice va T.length vc) zeroEn) rfl rfl hR hB) [3, 8, 11, 13] rfl (by kernel_rfl) (by kernel_rfl) (by kernel_rfl) (by kernel_rfl) ?_
      (refine lexc_one (by kernel_rfl) (by kernel_rfl) (by kernel_rfl) (by kernel_rfl) (fun K hK => ?_); go_big_quiet_step (fail); refine wpQuiet_nil (hK _ ?_); clear hK K); (refine lexc_one (by kernel_rfl) (by kernel_rfl) (by kernel_rfl) (by kernel_rfl) (fun K hK => ?_); go_big_quiet_step (fail); refine wpQuiet_nil (hK _ ?_); clear hK K); (refine lexc_one (by kernel_rfl) (by kernel_rfl) (by kernel_rfl) (by kernel_rfl) (fun K hK => ?_); go_big_quiet_step (fail); refine wpQuiet_nil (hK _ ?_); clear hK K)
      (refine lexc_row 0 (f := 94) (args := #[.pointer (some ⟨q, 0, none⟩)]) (v := .int .u64 (n1 : Int)) (by kernel_rfl) (by kernel_rfl) (by kernel_rfl) (fun _ _ h => by cases h) (by kernel_rfl) (by kernel_rfl) (fun _ => by go_simp) (fun W hW => rePh_row hne hW rfl rfl rfl rfl (fun hR' => q3.out W hR')) (lexc_put (type := 0) (pos := "") (fun K hK => ?_)); go_big_quiet_step (fail); refine wpQuiet_nil (hK _ ?_); clear hK K)
      (refine lexc_one (by kernel_rfl) (by kernel_rfl) (by kernel_rfl) (by kernel_rfl) (fun K hK => ?_); go_big_quiet_step (fail); refine wpQuiet_nil (hK _ ?_); clear hK K); (refine lexc_one (by kernel_rfl) (by kernel_rfl) (by kernel_rfl) (by kernel_rfl) (fun K hK => ?_); go_big_quiet_step (fail); refine wpQuiet_nil (hK _ ?_); clear hK K); (refine lexc_one (by kernel_rfl) (by kernel_rfl) (by kernel_rfl) (by kernel_rfl) (fun K hK => ?_); go_big_quiet_step (fail); refine wpQuiet_nil (hK _ ?_); clear hK K); (refine lexc_one (by kernel_rfl) (by kernel_rfl) (by kernel_rfl) (by kernel_rfl) (fun K hK => ?_); go_big_quiet_step (fail); refine wpQuiet_nil (hK _ ?_); clear hK K)
      (refine lexc_row 1 (f := 94) (args := #[.pointer (some ⟨q, 0, none⟩)]) (v := .int .u64 (n2 : Int)) (by kernel_rfl) (by kernel_rfl) (by kernel_rfl) (fun _ _ h => by cases h) (by kernel_rfl) (by kernel_rfl) (fun _ => by go_simp) (fun W hW => rePh_row hne hW rfl rfl rfl rfl (fun hR' => q4.out W hR')) (lexc_put (type := 0) (pos := "") (fun K hK => ?_)); go_big_quiet_step (fail); refine wpQuiet_nil (hK _ ?_); clear hK K)
      (refine lexc_one (by kernel_rfl) (by kernel_rfl) (by kernel_rfl) (by kernel_rfl) (fun K hK => ?_); go_big_quiet_step (fail); refine wpQuiet_nil (hK _ ?_); clear hK K); (refine lexc_one (by kernel_rfl) (by kernel_rfl) (by kernel_rfl) (by kernel_rfl) (fun K hK => ?_); go_big_quiet_step (fail); refine wpQuiet_nil (hK _ ?_); clear hK K)
      refine lexc_do 2 (by kernel_rfl) (by kernel_rfl) rfl (fun _ _ h => by cases h) (by kernel_rfl) rfl (fun W hW => ?_) ?_
      · obtain ⟨_, _, z, hz, hE⟩ := id hW
        obtain rfl : entC (.slice va T.length vc) zeroEn = z := Option.some.inj hz
        have g0 := (Blk.cell hE 1).trans (show _ = some (Value.int .i64 0) from rfl)
        have g1 := Blk.frozen hE 1
        exact ⟨_, by go_simp, rePh_set hne hW rfl rfl rfl rfl⟩
      (refine lexc_one (by kernel_rfl) (by kernel_rfl) (by kernel_rfl) (by kernel_rfl) (fun K hK => ?_); go_big_quiet_step (fail); refine wpQuiet_nil (hK _ ?_); clear hK K)
      refine lexc_do 3 (by kernel_rfl) (by kernel_rfl) rfl (fun _ _ h => by cases h) (by kernel_rfl) rfl (fun W hW => ?_) ?_
      · obtain ⟨_, _, z, hz, hE⟩ := id hW
        obtain rfl : (entC (.slice va T.length vc) zeroEn).setIfInBounds 1 (.int .i64 L) = z := Option.some.inj hz
        have g0 := (Blk.cell hE 2).trans (show _ = some (Value.int .i64 0) from rfl)
        have g1 := Blk.frozen hE 2
        exact ⟨_, by go_simp, rePh_set hne hW rfl rfl rfl rfl⟩
      refine lexc_nil (by kernel_rfl) (by kernel_rfl) (by kernel_rfl) ?_
      rintro W3 hK3 ⟨_, ⟨c', hc', hR3⟩, z', hz', hB3⟩
      obtain rfl : c3 = c' := Option.some.inj hc'
      obtain rfl := Option.some.inj hz'
      simp only [hideAll]
      have hB3 : Blk W3 (w.heap.size + 1) 59 #[.slice va T.length vc, .int .i64 L, .int .i64 O, .int .i64 0] := hB3
      have r3 := r0.keptK hK3 (by omega)
      have hk3 := hk.then_over hK3 (fun i hi h => by omega)
      have hlo3 := hlo.kept hK3 (fun b hb e => by
        rcases e with rfl | rfl
        · rw [tag_blk hR] at hb; simp at hb
        · rw [tag_blk hB] at hb; simp at hb)
      clear hK3 hR hB r0 hk hlo hdead
      go_wp2_with fail
      refine (q5.out W3 hR3).mono ?_
      rintro e W4 ⟨rfl, hR4, hg4⟩
      have hk4' : Kept W3 W4 (fun k => k = q) := Kept.of_grown hg4 fun k e => (Option.some.inj e).symm
      have hk4 := hk3.trans hk4'
      have hB4 := hB3.keptK hk4' (by omega)
      have r4 := r3.keptK hk4' (by omega)
      have hlo4 := hlo3.kept hk4' (fun b hb e => by subst e; rw [tag_blk hR3] at hb; simp at hb)
      clear hk4' hg4 hR3 hB3 r3 hk3 hlo3 q5
      have hB5 : Blk (W4.setCell ⟨w.heap.size + 1, 3, none⟩ (.int .i64 E)) (w.heap.size + 1) 59 #[.slice va T.length vc, .int .i64 L, .int .i64 O, .int .i64 E] := Blk.set_ hB4 3 _
      have hk5' : Kept W4 (W4.setCell ⟨w.heap.size + 1, 3, none⟩ (.int .i64 E)) (fun k => k = w.heap.size + 1) := Kept.of_grown (grown_set _ _ _ _) fun k e => (Option.some.inj e).symm
      have hR5 : Rd (W4.setCell ⟨w.heap.size + 1, 3, none⟩ (.int .i64 E)) q c4 gen sy av a := Blk.keptK hR4 hk5' (by omega)
      have r5 := r4.keptK hk5' (by omega)
      have hk5 := hk4.then_over hk5' (fun i hi h => by omega)
      have hlo5 := hlo4.kept hk5' (fun b hb e => by subst e; rw [tag_blk hB4] at hb; simp at hb)
      obtain ⟨⟨x0, x1, x2, x3⟩, y0, y1, y2, y3⟩ := cells4 hB4
      obtain ⟨W5, hW5⟩ : ∃ W, W4.setCell ⟨w.heap.size + 1, 3, none⟩ (.int .i64 E) = W := ⟨_, rfl⟩
      rw [hW5] at hB5 hk5' hR5 r5 hk5 hlo5
      have HW5 := Lib.hid hW5
      clear hW5
      obtain ⟨⟨s0, s1, s2, s3⟩, _⟩ := cells4 hB5
      have t4 := (Blk.cell hR5 4).trans (show _ = some av from rfl)
      have t5 := (Blk.cell hR5 5).trans (show _ = some (Value.int .i64 a.last) from rfl)
      have t6 := (Blk.cell hR5 6).trans (show _ = some (Value.int .i64 a.off) from rfl)
      have t7 := (Blk.cell hR5 7).trans (show _ = some (Value.int .i64 a.len) from rfl)
      have g4 := Blk.frozen hR5 4
      have g5 := Blk.frozen hR5 5
      have g6 := Blk.frozen hR5 6
      have g7 := Blk.frozen hR5 7
      obtain ⟨hR6, hk6'⟩ := rd_ahead hR5 (.slice va T.length vc) ⟨T, L, O, E⟩
      simp only at hR6 hk6'
      obtain ⟨W6, hW6⟩ : ∃ W, ((((W5.setCell ⟨q, 4, none⟩ (.slice va T.length vc)).setCell ⟨q, 5, none⟩ (.int .i64 L)).setCell ⟨q, 6, none⟩ (.int .i64 O)).setCell ⟨q, 7, none⟩ (.int .i64 E)) = W := ⟨_, rfl⟩
      rw [hW6] at hR6 hk6'
      have HW6 := Lib.hid hW6
      clear hW6
      have hB6 := hB5.keptK hk6' (by omega)
      have r6 := r5.keptK hk6' (by omega)
      have hk6 := hk5.trans hk6'
      have hlo6 := hlo5.kept hk6' (fun b hb e => by subst e; rw [tag_blk hR5] at hb; simp at hb)
      obtain ⟨⟨i0', i1', i2', i3'⟩, _⟩ := cells4 hB6
      obtain ⟨⟨u0, u1, u2, u3⟩, v0, v1, v2, v3⟩ := cells4 r6
      obtain ⟨rE, hkE⟩ := set4 r6 (.slice va T.length vc) (.int .i64 L) (.int .i64 O) (.int .i64 E)
      have hRE : Rd _ q c4 gen sy (.slice va T.length vc) ⟨T, L, O, E⟩ := Blk.keptK hR6 hkE (by omega)
      have hKE := hk6.then_over hkE (fun i hi h => by omega)
      have hloE := hlo6.kept hkE (fun b hb e => by subst e; rw [tag_blk r6] at hb; simp at hb)
      clear hR4 hB4 r4 hk4 hlo4 hk5' hR5 r5 hk5 hlo5 hR6 hk6' r6 hk6 hlo6 hB5 hB6 hkE
      go_wp2_with (first | rw [HW5.out] | rw [HW6.out])
      (try simp only [Exit.inBlock, Exit.then])
      refine bodyPost_ret (results_c rfl _ _ w.heap.size 59 _ _ rfl rE Tryz.underlying59 rfl (by kernel_rfl)) rfl ?_
      rw [HX.out]
      exact ⟨.slice va T.length vc, rfl, hRE, hloE, hKE⟩
end Go.Proofs.YtpeahjocimhneaaGreatDoor
namespace Go.Proofs.YtpeahjocimhneaaGreatDoor
open Go.RowKit Go.Maps Go.WideMaps
attribute [local go_sem] bs_toList bs_size

def fin1 (R : List Lb × CS) : En × CS := (⟨R.1, wr64' (wV R.2), wr64' (wV (wN R.2)), wr64' (wV (wN (wN R.2)))⟩, wN (wN (wN R.2)))
theorem ent1_fin (c : CS) (h : (tkN c).2 = false) : ent1R c = fin1 (labs1R (manyN (((tkV c).getD 0 0).toNat : Int) 6 (tkN c)).1 (manyN (((tkV c).getD 0 0).toNat : Int) 6 (tkN c)).2) := by
  unfold ent1R
  rw [if_neg (by rw [h]; simp)]
  rfl
theorem ent1_bad (c : CS) (h : (tkN c).2 = true) : ent1R c = (zeroEn, tkN c) := by
  unfold ent1R
  rw [if_pos h]
theorem tkV_one (c : CS) (h : (tkN c).2 = false) : ∃ b, tkV c = [b] := by
  unfold tkN Num.nxt at h
  unfold tkV Num.ans
  cases hb : c.2 with
  | true => rw [hb] at h; simp [hb] at h
  | false =>
    cases hg : Num.getTake c.1 1 with
    | none => rw [hb, hg] at h; simp at h
    | some p =>
      obtain ⟨t, k⟩ := p
      simp only [Bool.false_eq_true, if_false]
      unfold Num.getTake at hg
      split at hg
      · cases hg
      · rename_i hc
        simp only [Option.some.injEq, Prod.mk.injEq] at hg
        obtain ⟨rfl, _⟩ := hg
        cases hl : c.1 with
        | nil => rw [hl] at hc; simp at hc
        | cons b r => exact ⟨b, rfl⟩
set_option maxRecDepth 100000 in
set_option maxHeartbeats 4000000 in
theorem entry1_any (q : Nat) (c : CS) (gen : Int) (sy av : Value) (a : En) (w : World) (h : Rd w q c gen sy av a) (hl : c.1.length ≤ 1000000) :
    Calls Tryz.prog 92 #[.pointer (some ⟨q, 0, none⟩)] w fun e w' => ∃ vl, e = .returned (enV vl (ent1R c).1) ∧ Rd w' q (ent1R c).2 gen sy av a ∧ LabsOwn w' vl (ent1R c).1.labels ∧ Kept w w' (fun k => k = q) := by
  have ⟨i0, hin, hz0, hz1, hz2⟩ := info_parts (show (Tryz.prog.info? 37).map (fun i => (i.zero, i.size, i.bytes)) = some (some (.agg #[.string ⟨#[]⟩, .string ⟨#[]⟩]), 2, 32) by kernel_rfl)
  have HB := Lib.hid (ent1_ok c)
  have q1 := Lib.hid (fun W (hR : Rd W q c gen sy av a) => RTk q c gen sy av a W hR (by omega))
  have hkl := tkN_len c
  have HR1 := Lib.hid (ent1_bad c)
  have HR2 := Lib.hid (ent1_fin c)
  have HV := Lib.hid (tkV_one c)
  generalize ent1R c = X at *
  generalize tkN c = cA at *
  have hqw := h.lt
  have bW : Kept w ((w.alloc (.cells #[.slice none 0 0, .int .i64 0, .int .i64 0, .int .i64 0] 59)).alloc (.cells #[.slice none 0 0, .int .i64 0, .int .i64 0, .int .i64 0] 59)) (fun k => k = q) := (Kept.alloc w _ _).trans (Kept.alloc _ _ _)
  have hR0 : Rd ((w.alloc (.cells #[.slice none 0 0, .int .i64 0, .int .i64 0, .int .i64 0] 59)).alloc (.cells #[.slice none 0 0, .int .i64 0, .int .i64 0, .int .i64 0] 59)) q c gen sy av a := Blk.alloc (Blk.alloc h _) _
  have r0 : Blk ((w.alloc (.cells #[.slice none 0 0, .int .i64 0, .int .i64 0, .int .i64 0] 59)).alloc (.cells #[.slice none 0 0, .int .i64 0, .int .i64 0, .int .i64 0] 59)) w.heap.size 59 #[.slice none 0 0, .int .i64 0, .int .i64 0, .int .i64 0] := (Blk.new w _ _).alloc _
  have e0 : Blk ((w.alloc (.cells #[.slice none 0 0, .int .i64 0, .int .i64 0, .int .i64 0] 59)).alloc (.cells #[.slice none 0 0, .int .i64 0, .int .i64 0, .int .i64 0] 59)) (w.heap.size + 1) 59 #[.slice none 0 0, .int .i64 0, .int .i64 0, .int .i64 0] := by
    have := Blk.new (w.alloc (.cells #[.slice none 0 0, .int .i64 0, .int .i64 0, .int .i64 0] 59)) 59 #[.slice none 0 0, .int .i64 0, .int .i64 0, .int .i64 0]
    rw [World.size_alloc] at this
    exact this
  have hsz0 : w.heap.size + 2 ≤ ((w.alloc (.cells #[.slice none 0 0, .int .i64 0, .int .i64 0, .int .i64 0] 59)).alloc (.cells #[.slice none 0 0, .int .i64 0, .int .i64 0, .int .i64 0] 59)).heap.size := by rw [World.size_alloc, World.size_alloc]; omega
  go_enter Tryz.func92, Tryz.ntmps92
  go_wp2_with fail
  generalize (w.alloc (.cells #[.slice none 0 0, .int .i64 0, .int .i64 0, .int .i64 0] 59)).alloc (.cells #[.slice none 0 0, .int .i64 0, .int .i64 0, .int .i64 0] 59) = W0 at *
  refine (q1.out W0 hR0).mono ?_
  rintro e w1 ⟨rfl, hR1, hgA⟩
  have kA : Kept W0 w1 (fun k => k = q) := Kept.of_grown hgA fun k e => (Option.some.inj e).symm
  have r1 := r0.keptK kA (by omega)
  have e1 := e0.keptK kA (by omega)
  have k1 := bW.trans kA
  have hsz1 := Nat.le_trans hsz0 kA.size
  clear r0 e0 bW q1 hgA hR0 kA hsz0 h W0
  have d1 := (Blk.cell hR1 1).trans (show _ = some (Value.bool cA.2) from rfl)
  cases hbad : cA.2 with
  | true =>
    rw [hbad] at d1
    have HX := Lib.hid (HR1.out hbad)
    clear HR2 HV HR1 HB hbad
    obtain ⟨⟨x0, x1, x2, x3⟩, _⟩ := cells4 e1
    obtain ⟨⟨u0, u1, u2, u3⟩, v0, v1, v2, v3⟩ := cells4 r1
    obtain ⟨rE, hkE⟩ := set4 r1 (.slice none 0 0) (.int .i64 0) (.int .i64 0) (.int .i64 0)
    have hRE : Rd _ q cA gen sy av a := Blk.keptK hR1 hkE (by omega)
    have hKE := k1.then_over hkE (fun i hi h => by omega)
    go_wp2_with fail
    (try simp only [Exit.inBlock, Exit.then])
    refine bodyPost_ret (results_c rfl _ _ w.heap.size 59 _ _ rfl rE Tryz.underlying59 rfl (by kernel_rfl)) rfl ?_
    rw [HX.out]
    exact ⟨.slice none 0 0, rfl, hRE, labsOwn_row (B := 0) (L := []) (World.ownsRow_nil _ _ _ _) (Nat.zero_le _) (fun x h => by cases h), hKE⟩
  | false =>
    rw [hbad] at d1
    have HR := Lib.hid (HR2.out hbad)
    obtain ⟨y, hy⟩ := HV.out hbad
    rw [hy] at HR ⊢
    have hyn := y.toNat_lt
    have hy0 : ∀ W, (Instr.index 9 (.string (bs [y])) (.int .i64 0)).run Tryz.prog W = .ok (.int .u8 (y.toNat : Int)) W := fun W => run_index_bs (P := Tryz.prog) 9 Tryz.underlying9 [y] 0 y rfl .i64 W
    have hyw : IntKind.u64.wrap (y.toNat : Int) = (y.toNat : Int) := by simp [IntKind.wrap, IntKind.bits, IntKind.signed]; omega
    rw [show ([y].getD 0 0).toNat = y.toNat from rfl] at HR
    have q2 := Lib.hid (fun W (hR : Rd W q cA gen sy av a) => many_any q y.toNat 6 cA gen sy av a W hR (by omega) (by omega))
    have hml := many_le (y.toNat : Int) 6 cA (by omega)
    generalize manyN (y.toNat : Int) 6 cA = M at *
    obtain ⟨N, c0⟩ := M
    simp only at hml q2 HR
    clear HR1 HR2 HV hy
    generalize y.toNat = yn at *
    go_wp2_with fail
    refine (q2.out _ hR1).mono ?_
    rintro e w2 ⟨rfl, hR2, hgB⟩
    have kB : Kept w1 w2 (fun k => k = q) := Kept.of_grown hgB fun k e => (Option.some.inj e).symm
    have r2 := r1.keptK kB (by omega)
    have e2 := e1.keptK kB (by omega)
    have k2 := k1.trans kB
    have rw0 : w2.ownsRow (w.heap.size + 2) 37 2 (.slice none 0 0) ([] : List Lb).length (lbCells []) := World.ownsRow_nil _ _ _ _
    have hsz2 : w.heap.size + 2 ≤ w2.heap.size := Nat.le_trans hsz1 kB.size
    clear r1 e1 k1 kB hgB q2 hR1 hsz1 hy0 hyw hyn d1 hbad
    go_wp2_with fail
    go_loopw [20] (fun vi wr => ∃ (i : Nat) (T : List Lb) (c1 : CS) (vl : Value), i ≤ N ∧ vi = .int .i64 (i : Int) ∧ T.length = i ∧ c1.1.length ≤ 1000000 ∧ Rd wr q c1 gen sy av a ∧ Blk wr (w.heap.size + 1) 59 (entC vl zeroEn) ∧ Blk wr w.heap.size 59 #[.slice none 0 0, .int .i64 0, .int .i64 0, .int .i64 0] ∧
        wr.ownsRow (w.heap.size + 2) 37 2 vl T.length (lbCells T) ∧ Kept w wr (fun k => k = q) ∧ w.heap.size + 2 ≤ wr.heap.size ∧ Hid (labs1R N c0 = (T ++ (labs1R (N - i) c1).1, (labs1R (N - i) c1).2))) (fun vi _ => N - (intOf vi).toNat)
    case atStart => exact ⟨0, [], c0, _, Nat.zero_le _, rfl, rfl, by omega, hR2, e2, r2, rw0, k2, hsz2, Lib.hid rfl⟩
    clear hR2 e2 r2 rw0 k2 hsz2
    obtain ⟨i, T, c1, vl, hi, rfl, hTi, hcl, hR, hB, r0, hrow, hk, hsz, HI⟩ := hrel
    subst hTi
    have hvq : vl.ownBlock ≠ some q := fun e => by have h1 := tag_row hrow e; rw [tag_blk hR] at h1; simp at h1
    have hve : vl.ownBlock ≠ some (w.heap.size + 1) := fun e => by have h1 := tag_row hrow e; rw [tag_blk hB] at h1; simp at h1
    have hvr : vl.ownBlock ≠ some w.heap.size := fun e => by have h1 := tag_row hrow e; rw [tag_blk r0] at h1; simp at h1
    have hltr : ∀ k, vl.ownBlock = some k → k < wr.heap.size := fun k hk => owns_lt hrow hk
    obtain ⟨va, vc, rfl⟩ := row_form hrow
    rcases (show T.length < N ∨ T.length = N by omega) with hil | hiN
    · have HI2 := Lib.hid (show labs1R N c0 = (T ++ [(fxV c1, fxV (fxN c1))] ++ (labs1R (N - (T.length + 1)) (fxN (fxN c1))).1, (labs1R (N - (T.length + 1)) (fxN (fxN c1))).2) by
        rw [HI.out, show N - T.length = N - (T.length + 1) + 1 by omega]
        conv => lhs; unfold labs1R
        simp)
      have s1 := fxN_len c1
      have s2 := fxN_len (fxN c1)
      have K1 := Lib.hid (fun W (hR : Rd W q c1 gen sy av a) => RFx q c1 gen sy av a W hR (by omega))
      have K2 := Lib.hid (fun W (hR : Rd W q (fxN c1) gen sy av a) => RFx q (fxN c1) gen sy av a W hR (by omega))
      have hl1 := fxV_le c1
      have hl2 := fxV_le (fxN c1)
      generalize fxV c1 = t1 at *
      generalize fxN c1 = c2 at *
      generalize fxV c2 = t2 at *
      generalize fxN c2 = c3 at *
      have HOV := Lib.hid (fun W (hk' : Kept wr W (SR q (.slice va T.length vc))) => hk.then_over hk' (fun i hi hT => by
        rcases hT with e | e
        · exact e
        · have := (hrow.lt i e).1
          omega))
      have hcell : ∀ x : PW (rowPhR wr q gen sy av a [c1, c2, c3, c3] c1 rfl hR (.slice va T.length vc) (appendedTo wr (.slice va T.length vc) 2 T.length [.string (bs t1), .string (bs t2)]) 2 hltr), x.w.cell? ⟨w.heap.size + 1, 0, none⟩ = some (.slice va T.length vc) := rowPhR_blk hB (by omega) hve rfl
      clear HI
      go_wp2_with fail
      refine wp_region_ledC (rowPhR wr q gen sy av a [c1, c2, c3, c3] c1 rfl hR (.slice va T.length vc) (appendedTo wr (.slice va T.length vc) 2 T.length [.string (bs t1), .string (bs t2)]) 2 hltr) [5, 9, 12] rfl (by kernel_rfl) (by kernel_rfl) rfl (by kernel_rfl) (by kernel_rfl) (by kernel_rfl) ?_
      (refine lexc_one (by kernel_rfl) (by kernel_rfl) (by kernel_rfl) (by kernel_rfl) (fun K hK => ?_); go_big_quiet_step (fail); refine wpQuiet_nil (hK _ ?_); clear hK K); (refine lexc_one (by kernel_rfl) (by kernel_rfl) (by kernel_rfl) (by kernel_rfl) (fun K hK => ?_); go_big_quiet_step (fail); refine wpQuiet_nil (hK _ ?_); clear hK K); (refine lexc_one (by kernel_rfl) (by kernel_rfl) (by kernel_rfl) (by kernel_rfl) (fun K hK => ?_); go_big_quiet_step (fail); refine wpQuiet_nil (hK _ ?_); clear hK K); (refine lexc_one (by kernel_rfl) (by kernel_rfl) (by kernel_rfl) (by kernel_rfl) (fun K hK => ?_); go_big_quiet_step (fail); refine wpQuiet_nil (hK _ ?_); clear hK K); (refine lexc_one (by kernel_rfl) (by kernel_rfl) (by kernel_rfl) (by kernel_rfl) (fun K hK => ?_); go_big_quiet_step (fail); refine wpQuiet_nil (hK _ ?_); clear hK K)
      (refine lexc_row 0 (f := 126) (args := #[.pointer (some ⟨q, 0, none⟩), .int .i64 12]) (v := .string (bs t1)) (by kernel_rfl) (by kernel_rfl) (by kernel_rfl) (fun _ _ h => by cases h) (by kernel_rfl) (by kernel_rfl) (fun _ => by go_simp) (fun W hW => rowPhR_row hvq hW rfl rfl (by omega) (fun hR' _ => K1.out W hR')) (lexc_put (type := 0) (pos := "") (fun K hK => ?_)); go_big_quiet_step (fail); refine wpQuiet_nil (hK _ ?_); clear hK K)
      (refine lexc_one (by kernel_rfl) (by kernel_rfl) (by kernel_rfl) (by kernel_rfl) (fun K hK => ?_); go_big_quiet_step (fail); refine wpQuiet_nil (hK _ ?_); clear hK K); (refine lexc_one (by kernel_rfl) (by kernel_rfl) (by kernel_rfl) (by kernel_rfl) (fun K hK => ?_); go_big_quiet_step (fail); refine wpQuiet_nil (hK _ ?_); clear hK K); (refine lexc_one (by kernel_rfl) (by kernel_rfl) (by kernel_rfl) (by kernel_rfl) (fun K hK => ?_); go_big_quiet_step (fail); refine wpQuiet_nil (hK _ ?_); clear hK K)
      (refine lexc_row 1 (f := 126) (args := #[.pointer (some ⟨q, 0, none⟩), .int .i64 12]) (v := .string (bs t2)) (by kernel_rfl) (by kernel_rfl) (by kernel_rfl) (fun _ _ h => by cases h) (by kernel_rfl) (by kernel_rfl) (fun _ => by go_simp) (fun W hW => rowPhR_row hvq hW rfl rfl (by omega) (fun hR' _ => K2.out W hR')) (lexc_put (type := 0) (pos := "") (fun K hK => ?_)); go_big_quiet_step (fail); refine wpQuiet_nil (hK _ ?_); clear hK K)
      (refine lexc_val (v := .agg #[.string (bs t1), .string (bs t2)]) (by kernel_rfl) (by kernel_rfl) (fun _ _ h => by cases h) (by kernel_rfl) (by kernel_rfl) (fun W hW => by skip; go_simp) (lexc_put (type := 0) (pos := "") (fun K hK => ?_)); go_big_quiet_step (fail); refine wpQuiet_nil (hK _ ?_); clear hK K)
      refine lexc_cellsR (d := 33) (mm := 1) (news := [.string (bs t1), .string (bs t2)]) (by kernel_rfl) (by kernel_rfl) (fun _ _ h => by cases h) (by kernel_rfl) rfl 37 (fun W => by go_simp) ?_
      refine lexc_appR (d := 34) (s := 23) (x := 33) (c := c3) rfl (by kernel_rfl) (by kernel_rfl) rfl rfl rfl Tryz.underlying57 hin hz0 hz1 hz2 rfl (by decide) rfl rfl rfl hrow rfl (by simp [Value.oneCell']) (by unfold maxLen; omega) (by omega) hsz hvq rfl rfl ?_
      (refine lexc_one (by kernel_rfl) (by kernel_rfl) (by kernel_rfl) (by kernel_rfl) (fun K hK => ?_); go_big_quiet_step (fail); refine wpQuiet_nil (hK _ ?_); clear hK K)
      refine lexc_nil (by kernel_rfl) (by kernel_rfl) (by kernel_rfl) ?_
      rintro w5 hK5 ⟨hk5, ⟨cc, hcc, hR5⟩, _⟩
      obtain rfl : cc = c3 := (Option.some.inj hcc).symm
      simp only [hideAll]
      rintro v' ⟨hown, _⟩ z _
      simp only [Act.put, List.setIfInBounds_toArray, List.set_cons_succ, List.set_cons_zero]
      obtain ⟨va', vc', rfl⟩ := row_form hown
      have hB5 : Blk w5 (w.heap.size + 1) 59 #[.slice va T.length vc, .int .i64 0, .int .i64 0, .int .i64 0] := hB.keptK hk5 (fun e => e.elim (fun e => by omega) (fun e => hve e))
      have r5 := r0.keptK hk5 (fun e => e.elim (fun e => by omega) (fun e => hvr e))
      have hkk5 := HOV.out w5 hk5
      have e1 : w5.cell? ⟨w.heap.size + 1, 0, none⟩ = some (.slice va T.length vc) := (Blk.cell hB5 0).trans rfl
      have f1 := Blk.frozen hB5 0
      have hnb : (Value.slice va' (T.length + 1) vc').ownBlock ≠ some (w.heap.size + 1) := fun e => by have h1 := tag_row hown e; rw [tag_blk hB5] at h1; simp at h1
      have hk6 : Kept w5 (w5.setCell ⟨w.heap.size + 1, 0, none⟩ (.slice va' (T.length + 1) vc')) (fun k => k = w.heap.size + 1) := Kept.of_grown (grown_set _ _ _ _) fun k e => (Option.some.inj e).symm
      have hB6 : Blk (w5.setCell ⟨w.heap.size + 1, 0, none⟩ (.slice va' (T.length + 1) vc')) (w.heap.size + 1) 59 (entC (.slice va' (T.length + 1) vc') zeroEn) := Blk.set_ hB5 0 _
      have hR6 : Rd (w5.setCell ⟨w.heap.size + 1, 0, none⟩ (.slice va' (T.length + 1) vc')) q cc gen sy av a := Blk.keptK hR5 hk6 (by omega)
      have r6 := r5.keptK hk6 (by omega)
      have hr6 := ownsRow_kept hown hk6 (fun k e e2 => hnb (e2 ▸ e))
      have hkk6 := hkk5.then_over hk6 (fun i hi e => by omega)
      have hsz6 : w.heap.size + 2 ≤ (w5.setCell ⟨w.heap.size + 1, 0, none⟩ (.slice va' (T.length + 1) vc')).heap.size := Nat.le_trans hsz (Nat.le_trans hk5.size hk6.size)
      have hrl : lbCells (T ++ [(t1, t2)]) = lbCells T ++ [.string (bs t1), .string (bs t2)] := by unfold lbCells; simp
      clear K1 K2 hcell hK5 hk5 hR5 hown hB5 r5 hkk5 hk6 hrow hB hR r0 hk hltr hvq hve hvr hnb HOV
      go_wp2_with fail
      go_roundw
      case rel =>
        refine ⟨T.length + 1, T ++ [(t1, t2)], cc, _, by omega, by go_num, by simp, by omega, hR6, hB6, r6, ?_, hkk6, hsz6, Lib.hid HI2.out⟩
        rw [hrl, List.length_append]
        exact hr6
      case measure => simp [intOf]; omega
    subst hiN
    have HX := Lib.hid (show X = fin1 (T, c1) by
      rw [HR.out, HI.out, Nat.sub_self]
      simp [labs1R])
    have hXl : X.1.labels = T := by rw [HX.out]; rfl
    have hlo := labsOwn_row hrow (by have := HB.out.2.1; rw [hXl] at this; omega) (fun x hx => by have := HB.out.2.2.2 x (by rw [hXl]; exact hx); omega)
    have hne : w.heap.size + 1 ≠ q := by omega
    have l1 := wN_len c1
    have l2 := wN_len (wN c1)
    obtain ⟨n1, hn1, hn1'⟩ := wV_nat c1
    obtain ⟨n2, hn2, hn2'⟩ := wV_nat (wN c1)
    obtain ⟨n3, hn3, hn3'⟩ := wV_nat (wN (wN c1))
    have q3 := Lib.hid (fun W (hR : Rd W q c1 gen sy av a) => RWd q c1 gen sy av a W hR (by omega))
    have q4 := Lib.hid (fun W (hR : Rd W q (wN c1) gen sy av a) => RWd q (wN c1) gen sy av a W hR (by omega))
    have q5 := Lib.hid (fun W (hR : Rd W q (wN (wN c1)) gen sy av a) => RWd q (wN (wN c1)) gen sy av a W hR (by omega))
    unfold fin1 at HX
    simp only at HX
    rw [hn1] at q3
    rw [hn2] at q4
    rw [hn3] at q5
    rw [hn1, hn2, hn3] at HX
    clear HR HI HB hvr hve hvq hltr hrow
    generalize wN c1 = c2 at *
    generalize wN c2 = c3 at *
    generalize wN c3 = c4 at *
    have wA : IntKind.i64.wrap (n1 : Int) = wr64' (n1 : Int) := rfl
    have wC : IntKind.i64.wrap (n2 : Int) = wr64' (n2 : Int) := rfl
    have wD : IntKind.i64.wrap (n3 : Int) = wr64' (n3 : Int) := rfl
    generalize wr64' (n1 : Int) = L at *
    generalize wr64' (n2 : Int) = O at *
    generalize wr64' (n3 : Int) = E at *
    go_wp2_with fail
    refine wp_region_C (rePh wr q (w.heap.size + 1) 59 gen sy av a [c1, c2, c3, c4, c4, c4, c4] [entC (.slice va T.length vc) zeroEn, entC (.slice va T.length vc) zeroEn, entC (.slice va T.length vc) zeroEn, entC (.slice va T.length vc) zeroEn, (entC (.slice va T.length vc) zeroEn).setIfInBounds 1 (.int .i64 L), ((entC (.slice va T.length vc) zeroEn).setIfInBounds 1 (.int .i64 L)).setIfInBounds 2 (.int .i64 O), (((entC (.slice va T.length vc) zeroEn).setIfInBounds 1 (.int .i64 L)).setIfInBounds 2 (.int .i64 O)).setIfInBounds 3 (.int .i64 E)] c1 (entC (.slice va T.length vc) zeroEn) rfl rfl hR hB) [3, 8, 13, 16, 18, 20] rfl (by kernel_rfl) (by kernel_rfl) (by kernel_rfl) (by kernel_rfl) ?_
    (refine lexc_one (by kernel_rfl) (by kernel_rfl) (by kernel_rfl) (by kernel_rfl) (fun K hK => ?_); go_big_quiet_step (fail); refine wpQuiet_nil (hK _ ?_); clear hK K); (refine lexc_one (by kernel_rfl) (by kernel_rfl) (by kernel_rfl) (by kernel_rfl) (fun K hK => ?_); go_big_quiet_step (fail); refine wpQuiet_nil (hK _ ?_); clear hK K); (refine lexc_one (by kernel_rfl) (by kernel_rfl) (by kernel_rfl) (by kernel_rfl) (fun K hK => ?_); go_big_quiet_step (fail); refine wpQuiet_nil (hK _ ?_); clear hK K)
    (refine lexc_row 0 (f := 91) (args := #[.pointer (some ⟨q, 0, none⟩)]) (v := .int .u64 (n1 : Int)) (by kernel_rfl) (by kernel_rfl) (by kernel_rfl) (fun _ _ h => by cases h) (by kernel_rfl) (by kernel_rfl) (fun _ => by go_simp) (fun W hW => rePh_row hne hW rfl rfl rfl rfl (fun hR' => q3.out W hR')) (lexc_put (type := 0) (pos := "") (fun K hK => ?_)); go_big_quiet_step (fail); refine wpQuiet_nil (hK _ ?_); clear hK K)
    (refine lexc_one (by kernel_rfl) (by kernel_rfl) (by kernel_rfl) (by kernel_rfl) (fun K hK => ?_); go_big_quiet_step (fail); refine wpQuiet_nil (hK _ ?_); clear hK K); (refine lexc_one (by kernel_rfl) (by kernel_rfl) (by kernel_rfl) (by kernel_rfl) (fun K hK => ?_); go_big_quiet_step (fail); refine wpQuiet_nil (hK _ ?_); clear hK K); (refine lexc_one (by kernel_rfl) (by kernel_rfl) (by kernel_rfl) (by kernel_rfl) (fun K hK => ?_); go_big_quiet_step (fail); refine wpQuiet_nil (hK _ ?_); clear hK K); (refine lexc_one (by kernel_rfl) (by kernel_rfl) (by kernel_rfl) (by kernel_rfl) (fun K hK => ?_); go_big_quiet_step (fail); refine wpQuiet_nil (hK _ ?_); clear hK K)
    (refine lexc_row 1 (f := 91) (args := #[.pointer (some ⟨q, 0, none⟩)]) (v := .int .u64 (n2 : Int)) (by kernel_rfl) (by kernel_rfl) (by kernel_rfl) (fun _ _ h => by cases h) (by kernel_rfl) (by kernel_rfl) (fun _ => by go_simp) (fun W hW => rePh_row hne hW rfl rfl rfl rfl (fun hR' => q4.out W hR')) (lexc_put (type := 0) (pos := "") (fun K hK => ?_)); go_big_quiet_step (fail); refine wpQuiet_nil (hK _ ?_); clear hK K)
    (refine lexc_one (by kernel_rfl) (by kernel_rfl) (by kernel_rfl) (by kernel_rfl) (fun K hK => ?_); go_big_quiet_step (fail); refine wpQuiet_nil (hK _ ?_); clear hK K); (refine lexc_one (by kernel_rfl) (by kernel_rfl) (by kernel_rfl) (by kernel_rfl) (fun K hK => ?_); go_big_quiet_step (fail); refine wpQuiet_nil (hK _ ?_); clear hK K); (refine lexc_one (by kernel_rfl) (by kernel_rfl) (by kernel_rfl) (by kernel_rfl) (fun K hK => ?_); go_big_quiet_step (fail); refine wpQuiet_nil (hK _ ?_); clear hK K); (refine lexc_one (by kernel_rfl) (by kernel_rfl) (by kernel_rfl) (by kernel_rfl) (fun K hK => ?_); go_big_quiet_step (fail); refine wpQuiet_nil (hK _ ?_); clear hK K)
    (refine lexc_row 2 (f := 91) (args := #[.pointer (some ⟨q, 0, none⟩)]) (v := .int .u64 (n3 : Int)) (by kernel_rfl) (by kernel_rfl) (by kernel_rfl) (fun _ _ h => by cases h) (by kernel_rfl) (by kernel_rfl) (fun _ => by go_simp) (fun W hW => rePh_row hne hW rfl rfl rfl rfl (fun hR' => q5.out W hR')) (lexc_put (type := 0) (pos := "") (fun K hK => ?_)); go_big_quiet_step (fail); refine wpQuiet_nil (hK _ ?_); clear hK K)
    (refine lexc_one (by kernel_rfl) (by kernel_rfl) (by kernel_rfl) (by kernel_rfl) (fun K hK => ?_); go_big_quiet_step (fail); refine wpQuiet_nil (hK _ ?_); clear hK K); (refine lexc_one (by kernel_rfl) (by kernel_rfl) (by kernel_rfl) (by kernel_rfl) (fun K hK => ?_); go_big_quiet_step (fail); refine wpQuiet_nil (hK _ ?_); clear hK K)
    refine lexc_do 3 (by kernel_rfl) (by kernel_rfl) rfl (fun _ _ h => by cases h) (by kernel_rfl) rfl (fun W hW => ?_) ?_
    · obtain ⟨_, _, z, hz, hE⟩ := id hW
      obtain rfl : entC (.slice va T.length vc) zeroEn = z := Option.some.inj hz
      have g0 := (Blk.cell hE 1).trans (show _ = some (Value.int .i64 0) from rfl)
      have g1 := Blk.frozen hE 1
      exact ⟨_, by go_simp, rePh_set hne hW rfl rfl rfl rfl⟩
    (refine lexc_one (by kernel_rfl) (by kernel_rfl) (by kernel_rfl) (by kernel_rfl) (fun K hK => ?_); go_big_quiet_step (fail); refine wpQuiet_nil (hK _ ?_); clear hK K)
    refine lexc_do 4 (by kernel_rfl) (by kernel_rfl) rfl (fun _ _ h => by cases h) (by kernel_rfl) rfl (fun W hW => ?_) ?_
    · obtain ⟨_, _, z, hz, hE⟩ := id hW
      obtain rfl : (entC (.slice va T.length vc) zeroEn).setIfInBounds 1 (.int .i64 L) = z := Option.some.inj hz
      have g0 := (Blk.cell hE 2).trans (show _ = some (Value.int .i64 0) from rfl)
      have g1 := Blk.frozen hE 2
      exact ⟨_, by go_simp, rePh_set hne hW rfl rfl rfl rfl⟩
    (refine lexc_one (by kernel_rfl) (by kernel_rfl) (by kernel_rfl) (by kernel_rfl) (fun K hK => ?_); go_big_quiet_step (fail); refine wpQuiet_nil (hK _ ?_); clear hK K)
    refine lexc_do 5 (by kernel_rfl) (by kernel_rfl) rfl (fun _ _ h => by cases h) (by kernel_rfl) rfl (fun W hW => ?_) ?_
    · obtain ⟨_, _, z, hz, hE⟩ := id hW
      obtain rfl : ((entC (.slice va T.length vc) zeroEn).setIfInBounds 1 (.int .i64 L)).setIfInBounds 2 (.int .i64 O) = z := Option.some.inj hz
      have g0 := (Blk.cell hE 3).trans (show _ = some (Value.int .i64 0) from rfl)
      have g1 := Blk.frozen hE 3
      exact ⟨_, by go_simp, rePh_set hne hW rfl rfl rfl rfl⟩
    refine lexc_nil (by kernel_rfl) (by kernel_rfl) (by kernel_rfl) ?_
    rintro W3 hK3 ⟨_, ⟨c', hc', hR3⟩, z', hz', hB3⟩
    obtain rfl : c4 = c' := Option.some.inj hc'
    obtain rfl := Option.some.inj hz'
    simp only [hideAll]
    have hB3 : Blk W3 (w.heap.size + 1) 59 #[.slice va T.length vc, .int .i64 L, .int .i64 O, .int .i64 E] := hB3
    have r3 := r0.keptK hK3 (by omega)
    have hk3 := hk.then_over hK3 (fun i hi h => by omega)
    have hlo3 := hlo.kept hK3 (fun b hb e => by
      rcases e with rfl | rfl
      · rw [tag_blk hR] at hb; simp at hb
      · rw [tag_blk hB] at hb; simp at hb)
    obtain ⟨rE, hkE⟩ := set4 r3 (.slice va T.length vc) (.int .i64 L) (.int .i64 O) (.int .i64 E)
    have hRE : Rd _ q c4 gen sy av a := Blk.keptK hR3 hkE (by omega)
    have hKE := hk3.then_over hkE (fun i hi h => by omega)
    have hloE := hlo3.kept hkE (fun b hb e => by subst e; rw [tag_blk r3] at hb; simp at hb)
    obtain ⟨⟨x0, x1, x2, x3⟩, _⟩ := cells4 hB3
    obtain ⟨⟨u0, u1, u2, u3⟩, v0, v1, v2, v3⟩ := cells4 r3
    clear hK3 hR hB r0 hk hlo hR3 hk3 hlo3 hB3
    go_wp2_with fail
    (try simp only [Exit.inBlock, Exit.then])
    refine bodyPost_ret (results_c rfl _ _ w.heap.size 59 _ _ rfl rE Tryz.underlying59 rfl (by kernel_rfl)) rfl ?_
    rw [HX.out]
    exact ⟨.slice va T.length vc, rfl, hRE, hloE, hKE⟩
end Go.Proofs.YtpeahjocimhneaaGreatDoor
namespace Go.Proofs.YtpeahjocimhneaaGreatDoor
open Go.RowKit Go.Maps Go.WideMaps
attribute [local go_sem] bs_toList bs_size

theorem allR_1 (c : CS) : allR 1 c = entsG (fun _ c => ent1R c) (manyN (wV c) 20 (wN c)).1 zeroEn (manyN (wV c) 20 (wN c)).2 := by
  unfold allR
  rw [if_pos rfl, ← ents1_G]
/-- The symbols. -/
def symsR (g : Int) (c : CS) : List (List UInt8) × CS := tabR g (manyN (sV c) 240 (sN c)).1 [] (manyN (sV c) 240 (sN c)).2
theorem allR_2 (g : Int) (hg : g ≠ 1) (c : CS) : allR g c = entsG (ent2R g (symsR g c).1) (manyN (sV (symsR g c).2) 20 (sN (symsR g c).2)).1 zeroEn (manyN (sV (symsR g c).2) 20 (sN (symsR g c).2)).2 := by
  unfold allR
  rw [if_neg hg]
  simp only
  rw [ents2_G]
  rfl
theorem syms_ok (g : Int) (c : CS) : (symsR g c).1.length ≤ 240 ∧ (symsR g c).2.1.length ≤ c.1.length ∧ ∀ s ∈ (symsR g c).1, s.length ≤ 1048576 := by
  obtain ⟨n, hn, _⟩ := sV_nat c
  have h1 := many_le (sV c) 240 (sN c) (by omega)
  have h2 := sN_len c
  obtain ⟨k1, k2, k3⟩ := tab_ok g (manyN (sV c) 240 (sN c)).1 [] (manyN (sV c) 240 (sN c)).2
  unfold symsR
  refine ⟨by omega, by omega, fun s hs => ?_⟩
  have := k3 s hs
  simp only [List.length_nil] at this
  omega
set_option maxRecDepth 100000 in
set_option maxHeartbeats 4000000 in
theorem rall_any (q : Nat) (c : CS) (gen : Int) (w : World) (h : Rd w q c gen (.slice none 0 0) (.slice none 0 0) zeroEn) (hl : c.1.length ≤ 1000000) (hg1 : -9223372036854775808 ≤ gen) (hg2 : gen ≤ 9223372036854775807) :
    Calls Tryz.prog 57 #[.pointer (some ⟨q, 0, none⟩)] w fun e w' => ∃ v sy av a, e = .returned v ∧ EntsAt w' v ((allR gen c).1.getD []) ∧ Rd w' q (allR gen c).2 gen sy av a ∧ Kept w w' (fun k => k = q) := by
  have ⟨i0, hin, hz0, hz1, hz2⟩ := info_parts (show (Tryz.prog.info? 59).map (fun i => (i.zero, i.size, i.bytes)) = some (some (.agg #[.slice none 0 0, .int .i64 0, .int .i64 0, .int .i64 0]), 4, 48) by kernel_rfl)
  have dg := (Blk.cell h 2).trans (show _ = some (Value.int .i64 gen) from rfl)
  by_cases hg : gen = 1
  · subst hg
    have f1 : ((1 : Int) == 1) = true := rfl
    rw [allR_1]
    have q1 := Lib.hid (RWd q c 1 _ _ _ w h (by omega))
    have h1 := wN_len c
    obtain ⟨n0, hn0, hn1⟩ := wV_nat c
    rw [hn0] at q1 ⊢
    have qm := Lib.hid (fun W (hR : Rd W q (wN c) 1 (.slice none 0 0) (.slice none 0 0) zeroEn) => many_any q n0 20 (wN c) 1 _ _ _ W hR hn1 (by omega))
    have hml := many_le n0 20 (wN c) (by omega)
    generalize manyN n0 20 (wN c) = M at *
    obtain ⟨N, c0⟩ := M
    simp only at hml qm ⊢
    generalize wN c = cA at *
    clear hn0 hn1
    go_enter Tryz.func57, Tryz.ntmps57
    go_wp2_with fail
    refine q1.out.mono ?_
    rintro e w1 ⟨rfl, hRm, hg1'⟩
    have km : Kept w w1 (fun k => k = q) := Kept.of_grown hg1' fun k e => (Option.some.inj e).symm
    clear q1 hg1' dg h
    go_wp2_with fail
    refine (qm.out _ hRm).mono ?_
    rintro e w2 ⟨rfl, hR2, hgB⟩
    have k2 := km.trans (Kept.of_grown hgB fun k e => (Option.some.inj e).symm)
    have rw0 : w2.ownsRow w.heap.size 59 4 (.slice none 0 0) ([] : List (En × Value)).length (entCells []) := World.ownsRow_nil _ _ _ _
    clear qm hRm hgB km
    go_wp2_with fail
    go_loopw [5, 28] (fun v5 vi wr => ∃ (i : Nat) (Z : List (En × Value)) (c1 : CS) (a1 ar : En) (av vl : Value), i ≤ N ∧ vi = .int .i64 (i : Int) ∧ v5 = vl ∧ Z.length = i ∧ c1.1.length ≤ 1000000 ∧ Rd wr q c1 1 (.slice none 0 0) av ar ∧ wr.ownsRow w.heap.size 59 4 vl Z.length (entCells Z) ∧ (∀ z ∈ Z, z.1.ok ∧ LabsOwn wr z.2 z.1.labels) ∧ Kept w wr (fun k => k = q) ∧ Hid (entsG (fun _ c => ent1R c) N zeroEn c0 = preE (Z.map (·.1)) (entsG (fun _ c => ent1R c) (N - i) a1 c1))) (fun _ vi _ => N - (intOf vi).toNat)
    case atStart => exact ⟨0, [], c0, zeroEn, zeroEn, _, _, Nat.zero_le _, rfl, rfl, rfl, by omega, hR2, rw0, (fun z hz => by cases hz), k2,  Lib.hid (preE_nil _).symm⟩
    clear hR2 rw0 k2
    obtain ⟨i, Z, c1, a1, ar, av, vl, hi, rfl, rfl, hTi, hcl, hR, hrow, hZ, hk,  HI⟩ := hrel
    subst hTi
    obtain ⟨va, vc, rfl⟩ := row_form hrow
    rcases (show Z.length < N ∨ Z.length = N by omega) with hil | hiN
    · have hc1 : True := trivial
      have qe := Lib.hid (entry1_any q c1 1 (.slice none 0 0) av ar wr hR (by omega))
      have HB := Lib.hid (ent1_ok c1)
      have HG := Lib.hid (fun h => entsG_good (f := (fun _ c => ent1R c)) (n := N - (Z.length + 1)) (a := a1) (c := c1) (Z.map (·.1)) h)
      have HX := Lib.hid (fun h => entsG_bad (f := (fun _ c => ent1R c)) (n := N - (Z.length + 1)) (a := a1) (c := c1) (Z.map (·.1)) h)
      have HI2 := Lib.hid (show entsG (fun _ c => ent1R c) N zeroEn c0 = preE (Z.map (·.1)) (entsG (fun _ c => ent1R c) (N - (Z.length + 1) + 1) a1 c1) by rw [HI.out, show N - Z.length = N - (Z.length + 1) + 1 by omega])
      skip
      generalize ent1R c1 = X at *
      obtain ⟨x, c2⟩ := X
      simp only at HB HG HX qe
      clear HI hc1
      go_wp2_with fail
      refine qe.out.mono ?_
      rintro e W3 ⟨ve, rfl, hR3, hL3, hk3⟩
      have hrow3 := ownsRow_kept hrow hk3 (fun k hk e => by have h1 := tag_row hrow hk; rw [e, tag_blk hR] at h1; simp at h1)
      have hZ3 : ∀ z ∈ Z, z.1.ok ∧ LabsOwn W3 z.2 z.1.labels := fun z hz => ⟨(hZ z hz).1, (hZ z hz).2.kept hk3 (fun b hb e => by subst e; rw [tag_blk hR] at hb; simp at hb)⟩
      have hkk3 := hk.trans hk3
      obtain ⟨⟨la, lc, rfl, hLm, _⟩, _⟩ := id hL3
      rw [show enV (.slice la x.labels.length lc) x = .agg #[.slice la x.labels.length lc, .int .i64 x.last, .int .i64 x.off, .int .i64 x.len] from rfl]
      have hsz3 : w.heap.size ≤ W3.heap.size := hkk3.size
      have hnq : ∀ k, (Value.slice va Z.length vc).ownBlock = some k → k ≠ q := fun k hk e => by have h1 := tag_row hrow3 hk; rw [e, tag_blk hR3] at h1; simp at h1
      have HNQ := Lib.hid hnq
      have hcn := cells_new W3 (enC (.slice la x.labels.length lc) x) 59 W3.heap.size rfl
      have hlo : ∀ k, (Value.slice va Z.length vc).ownBlock = some k → w.heap.size ≤ k := fun k hk => (hrow3.lt k hk).1
      have htg : ∀ k, (Value.slice va Z.length vc).ownBlock = some k → tag (W3.alloc (.cells (enC (.slice la x.labels.length lc) x).toArray 59)) k = some (some 59) := fun k hk => tag_row (World.ownsRow.alloc hrow3 _) hk
      have HTG := Lib.hid htg
      have HLO := Lib.hid hlo
      clear hrow hk hR hk3 hZ hnq hlo htg qe
      cases hbad : c2.2 with
      | true =>
        have HF := Lib.hid (HI2.out.trans (HX.out hbad))
        go_wp2_with (at_builtin; go_loud (refine wpList_append_own_at _ rfl _ _ 22 rfl w.heap.size 59 i0 (.agg #[.slice none 0 0, .int .i64 0, .int .i64 0, .int .i64 0]) 4 48 Tryz.underlying22 hin hz0 hz1 hz2 rfl (by decide) _ _ _ rfl (World.ownsRow.alloc hrow3 _) ⟨W3.heap.size, 0, none⟩ 1 1 (enC (.slice la x.labels.length lc) x) rfl rfl hcn (by simp [Value.oneCell', enC]) (by unfold maxLen; omega) (by omega) (by simp; omega) ?_; intro v' w5 hown' hgrow hnil2 hloc; obtain ⟨va', vc', rfl⟩ := row_form hown'; have hR5 : Rd w5 q c2 1 (.slice none 0 0) av ar := Blk.grown (Blk.alloc hR3 _) hgrow (fun e => HNQ.out q e.symm rfl); have dbd : w5.cell? ⟨q, 1, none⟩ = some (Value.bool true) := (Blk.cell hR5 1).trans (show _ = some (Value.bool c2.2) from rfl) |>.trans (by rw [hbad]); have hk45 : Kept W3 w5 (fun k => (Value.slice va Z.length vc).ownBlock = some k) := (Kept.alloc W3 _ _).trans (Kept.of_grown hgrow fun k e => e); have hk5 := hkk3.then_over hk45 (fun i hi e => by have := HLO.out i e; skip; omega); clear hgrow hnil2 hloc))
        have hL5 := hL3.kept hk45 (fun b hb e => by
          have h1 := tag_row hrow3 e
          rw [h1] at hb
          simp at hb)
        have hZ5 : ∀ z ∈ Z, z.1.ok ∧ LabsOwn w5 z.2 z.1.labels := fun z hz => ⟨(hZ3 z hz).1, (hZ3 z hz).2.kept hk45 (fun b hb e => by
          have h1 := tag_row hrow3 e
          rw [h1] at hb
          simp at hb)⟩
        have E1 : EntsAt w5 (.slice none 0 0) ((entsG (fun _ c => ent1R c) N zeroEn c0).1.getD []) := by rw [HF.out]; exact ents_nil _
        have E2 : Rd w5 q (entsG (fun _ c => ent1R c) N zeroEn c0).2 1 (.slice none 0 0) av ar := by rw [HF.out]; exact hR5
        go_ret
        first
          | exact ⟨_, rfl, E1, ⟨_, _, _, E2⟩, hk5⟩
          | exact ⟨_, _, _, _, rfl, E1, E2, hk5⟩
          | exact ⟨_, _, _, E1, E2, hk5⟩
          | exact ⟨E1, ⟨_, _, _, E2⟩, hk5⟩
      | false =>
        have HF := Lib.hid (HI2.out.trans (HG.out hbad))
        go_wp2_with (at_builtin; go_loud (refine wpList_append_own_at _ rfl _ _ 22 rfl w.heap.size 59 i0 (.agg #[.slice none 0 0, .int .i64 0, .int .i64 0, .int .i64 0]) 4 48 Tryz.underlying22 hin hz0 hz1 hz2 rfl (by decide) _ _ _ rfl (World.ownsRow.alloc hrow3 _) ⟨W3.heap.size, 0, none⟩ 1 1 (enC (.slice la x.labels.length lc) x) rfl rfl hcn (by simp [Value.oneCell', enC]) (by unfold maxLen; omega) (by omega) (by simp; omega) ?_; intro v' w5 hown' hgrow hnil2 hloc; obtain ⟨va', vc', rfl⟩ := row_form hown'; have hR5 : Rd w5 q c2 1 (.slice none 0 0) av ar := Blk.grown (Blk.alloc hR3 _) hgrow (fun e => HNQ.out q e.symm rfl); have dbd : w5.cell? ⟨q, 1, none⟩ = some (Value.bool false) := (Blk.cell hR5 1).trans (show _ = some (Value.bool c2.2) from rfl) |>.trans (by rw [hbad]); have hk45 : Kept W3 w5 (fun k => (Value.slice va Z.length vc).ownBlock = some k) := (Kept.alloc W3 _ _).trans (Kept.of_grown hgrow fun k e => e); have hk5 := hkk3.then_over hk45 (fun i hi e => by have := HLO.out i e; skip; omega); clear hgrow hnil2 hloc))
        have hL5 := hL3.kept hk45 (fun b hb e => by
          have h1 := tag_row hrow3 e
          rw [h1] at hb
          simp at hb)
        have hZ5 : ∀ z ∈ Z, z.1.ok ∧ LabsOwn w5 z.2 z.1.labels := fun z hz => ⟨(hZ3 z hz).1, (hZ3 z hz).2.kept hk45 (fun b hb e => by
          have h1 := tag_row hrow3 e
          rw [h1] at hb
          simp at hb)⟩
        go_roundw
        case rel =>
          refine ⟨Z.length + 1, Z ++ [(x, .slice la x.labels.length lc)], c2, x, ar, av, _, by omega, by go_num, rfl, by simp, by have := HB.out.2.2.1; omega, hR5, ?_, fun z hz => ?_, hk5,  Lib.hid ?_⟩
          · rw [← entCells_snoc, List.length_append]
            exact hown'
          · rcases List.mem_append.1 hz with hz | hz
            · exact hZ5 z hz
            · obtain rfl := List.mem_singleton.1 hz
              exact ⟨HB.out.1, hL5⟩
          · rw [HF.out]
            simp
        case measure => simp [intOf]; omega
    · subst hiN
      have HF := Lib.hid (show entsG (fun _ c => ent1R c) Z.length zeroEn c0 = (some (Z.map (·.1)), c1) by
        rw [HI.out, Nat.sub_self, entsG_end])
      have E1 : EntsAt wr (.slice va Z.length vc) ((entsG (fun _ c => ent1R c) Z.length zeroEn c0).1.getD []) := by rw [HF.out]; exact entsAt_row hrow rfl (by omega) hZ
      have E2 : Rd wr q (entsG (fun _ c => ent1R c) Z.length zeroEn c0).2 1 (.slice none 0 0) av ar := by rw [HF.out]; exact hR
      go_wp2_with fail
      go_ret
      first
        | exact ⟨_, rfl, E1, ⟨_, _, _, E2⟩, hk⟩
        | exact ⟨_, _, _, _, rfl, E1, E2, hk⟩
  · have f1 : (gen == 1) = false := by simpa using hg
    rw [allR_2 gen hg]
    have qt := Lib.hid (table_any q c gen (.slice none 0 0) zeroEn w h hl hg1 hg2)
    have hso := syms_ok gen c
    have HD := Lib.hid (show tabR gen (manyN (sV c) 240 (sN c)).1 [] (manyN (sV c) 240 (sN c)).2 = symsR gen c from rfl)
    rw [HD.out] at qt
    clear HD
    generalize symsR gen c = Y at *
    obtain ⟨S, cB⟩ := Y
    simp only at qt hso ⊢
    have h1 := sN_len cB
    obtain ⟨n0, hn0, hn1⟩ := sV_nat cB
    have q1 := Lib.hid (fun W sv (hR : Rd W q cB gen sv (.slice none 0 0) zeroEn) => RSm q cB gen sv (.slice none 0 0) zeroEn W hR (by omega))
    rw [hn0] at q1 ⊢
    have qm0 := Lib.hid (fun W sv (hR : Rd W q (sN cB) gen sv (.slice none 0 0) zeroEn) => many_any q n0 20 (sN cB) gen sv _ _ W hR hn1 (by omega))
    have hml := many_le n0 20 (sN cB) (by omega)
    generalize manyN n0 20 (sN cB) = M at *
    obtain ⟨N, c0⟩ := M
    simp only at hml qm0 ⊢
    generalize sN cB = cA at *
    clear hn0 hn1 hg
    go_enter Tryz.func57, Tryz.ntmps57
    go_wp2_with fail
    refine qt.out.mono ?_
    rintro e wt ⟨rfl, sv, hRt, hrt, hkt⟩
    have hSt : StrsAt wt sv S := strs_of_own hrt rfl (by omega) hso.2.2
    have hsq : ∀ b, sv.ownBlock = some b → b ≠ q := fun b hb e => by have h1 := tag_row hrt hb; rw [e, tag_blk hRt] at h1; simp at h1
    have HS := Lib.hid (fun W (hk : Kept wt W (fun k => k = q)) => hSt.kept hk hsq)
    have HSQ := Lib.hid hsq
    have HWS := Lib.hid hkt.size
    clear qt hrt hSt hsq dg h
    go_wp2_with fail
    refine (q1.out wt sv hRt).mono ?_
    rintro e w1 ⟨rfl, hRm, hg1'⟩
    have kt1 : Kept wt w1 (fun k => k = q) := Kept.of_grown hg1' fun k e => (Option.some.inj e).symm
    have km := hkt.trans kt1
    have qm := Lib.hid (fun W hR => qm0.out W sv hR)
    clear q1 qm0 hg1' hRt
    go_wp2_with fail
    refine (qm.out _ hRm).mono ?_
    rintro e w2 ⟨rfl, hR2, hgB⟩
    have hgB0 := Lib.hid hgB
    have k2 := km.trans (Kept.of_grown hgB fun k e => (Option.some.inj e).symm)
    have rw0 : w2.ownsRow wt.heap.size 59 4 (.slice none 0 0) ([] : List (En × Value)).length (entCells []) := World.ownsRow_nil _ _ _ _
    clear qm hRm hgB km
    go_wp2_with fail
    go_loopw [5, 28] (fun v5 vi wr => ∃ (i : Nat) (Z : List (En × Value)) (c1 : CS) (a1 ar : En) (av vl : Value), i ≤ N ∧ vi = .int .i64 (i : Int) ∧ v5 = vl ∧ Z.length = i ∧ c1.1.length ≤ 1000000 ∧ Rd wr q c1 gen sv av a1 ∧ wr.ownsRow wt.heap.size 59 4 vl Z.length (entCells Z) ∧ (∀ z ∈ Z, z.1.ok ∧ LabsOwn wr z.2 z.1.labels) ∧ Kept w wr (fun k => k = q) ∧ Kept wt wr (fun k => k = q) ∧ Hid (entsG (ent2R gen S) N zeroEn c0 = preE (Z.map (·.1)) (entsG (ent2R gen S) (N - i) a1 c1))) (fun _ vi _ => N - (intOf vi).toNat)
    case atStart => exact ⟨0, [], c0, zeroEn, zeroEn, _, _, Nat.zero_le _, rfl, rfl, rfl, by omega, hR2, rw0, (fun z hz => by cases hz), k2, kt1.trans (Kept.of_grown hgB0.out fun k e => (Option.some.inj e).symm), Lib.hid (preE_nil _).symm⟩
    clear hR2 rw0 k2 hgB0
    obtain ⟨i, Z, c1, a1, ar, av, vl, hi, rfl, rfl, hTi, hcl, hR, hrow, hZ, hk, hkt1, HI⟩ := hrel
    subst hTi
    obtain ⟨va, vc, rfl⟩ := row_form hrow
    rcases (show Z.length < N ∨ Z.length = N by omega) with hil | hiN
    · have hc1 : True := trivial
      have qe := Lib.hid (entry2_any q S c1 gen sv av a1 wr hR (HS.out wr hkt1) HSQ.out (by omega) hg1 hg2)
      have HB := Lib.hid (ent2_ok gen S 1048576 hso.2.2 a1 c1)
      have HG := Lib.hid (fun h => entsG_good (f := (ent2R gen S)) (n := N - (Z.length + 1)) (a := a1) (c := c1) (Z.map (·.1)) h)
      have HX := Lib.hid (fun h => entsG_bad (f := (ent2R gen S)) (n := N - (Z.length + 1)) (a := a1) (c := c1) (Z.map (·.1)) h)
      have HI2 := Lib.hid (show entsG (ent2R gen S) N zeroEn c0 = preE (Z.map (·.1)) (entsG (ent2R gen S) (N - (Z.length + 1) + 1) a1 c1) by rw [HI.out, show N - Z.length = N - (Z.length + 1) + 1 by omega])
      skip
      generalize ent2R gen S a1 c1 = X at *
      obtain ⟨x, c2⟩ := X
      simp only at HB HG HX qe
      clear HI hc1
      go_wp2_with fail
      refine qe.out.mono ?_
      rintro e W3 ⟨ve, rfl, hR3, hL3, hk3⟩
      have hrow3 := ownsRow_kept hrow hk3 (fun k hk e => by have h1 := tag_row hrow hk; rw [e, tag_blk hR] at h1; simp at h1)
      have hZ3 : ∀ z ∈ Z, z.1.ok ∧ LabsOwn W3 z.2 z.1.labels := fun z hz => ⟨(hZ z hz).1, (hZ z hz).2.kept hk3 (fun b hb e => by subst e; rw [tag_blk hR] at hb; simp at hb)⟩
      have hkk3 := hk.trans hk3
      have hkt3 := hkt1.trans hk3
      obtain ⟨⟨la, lc, rfl, hLm, _⟩, _⟩ := id hL3
      rw [show enV (.slice la x.labels.length lc) x = .agg #[.slice la x.labels.length lc, .int .i64 x.last, .int .i64 x.off, .int .i64 x.len] from rfl]
      have hsz3 : wt.heap.size ≤ W3.heap.size := hkt3.size
      have hnq : ∀ k, (Value.slice va Z.length vc).ownBlock = some k → k ≠ q := fun k hk e => by have h1 := tag_row hrow3 hk; rw [e, tag_blk hR3] at h1; simp at h1
      have HNQ := Lib.hid hnq
      have hcn := cells_new W3 (enC (.slice la x.labels.length lc) x) 59 W3.heap.size rfl
      have hlo : ∀ k, (Value.slice va Z.length vc).ownBlock = some k → wt.heap.size ≤ k := fun k hk => (hrow3.lt k hk).1
      have htg : ∀ k, (Value.slice va Z.length vc).ownBlock = some k → tag (W3.alloc (.cells (enC (.slice la x.labels.length lc) x).toArray 59)) k = some (some 59) := fun k hk => tag_row (World.ownsRow.alloc hrow3 _) hk
      have HTG := Lib.hid htg
      have HLO := Lib.hid hlo
      clear hrow hk hR hk3 hZ hnq hlo htg qe
      cases hbad : c2.2 with
      | true =>
        have HF := Lib.hid (HI2.out.trans (HX.out hbad))
        go_wp2_with (at_builtin; go_loud (refine wpList_append_own_at _ rfl _ _ 22 rfl wt.heap.size 59 i0 (.agg #[.slice none 0 0, .int .i64 0, .int .i64 0, .int .i64 0]) 4 48 Tryz.underlying22 hin hz0 hz1 hz2 rfl (by decide) _ _ _ rfl (World.ownsRow.alloc hrow3 _) ⟨W3.heap.size, 0, none⟩ 1 1 (enC (.slice la x.labels.length lc) x) rfl rfl hcn (by simp [Value.oneCell', enC]) (by unfold maxLen; omega) (by omega) (by simp; omega) ?_; intro v' w5 hown' hgrow hnil2 hloc; obtain ⟨va', vc', rfl⟩ := row_form hown'; have hR5 : Rd w5 q c2 gen sv (.slice la x.labels.length lc) x := Blk.grown (Blk.alloc hR3 _) hgrow (fun e => HNQ.out q e.symm rfl); have dbd : w5.cell? ⟨q, 1, none⟩ = some (Value.bool true) := (Blk.cell hR5 1).trans (show _ = some (Value.bool c2.2) from rfl) |>.trans (by rw [hbad]); have hk45 : Kept W3 w5 (fun k => (Value.slice va Z.length vc).ownBlock = some k) := (Kept.alloc W3 _ _).trans (Kept.of_grown hgrow fun k e => e); have hk5 := hkk3.then_over hk45 (fun i hi e => by have := HLO.out i e; have := HWS.out; omega); clear hgrow hnil2 hloc))
        have hkt5 := hkt3.then_over hk45 (fun i hi e => by have := HLO.out i e; omega)
        have hL5 := hL3.kept hk45 (fun b hb e => by
          have h1 := tag_row hrow3 e
          rw [h1] at hb
          simp at hb)
        have hZ5 : ∀ z ∈ Z, z.1.ok ∧ LabsOwn w5 z.2 z.1.labels := fun z hz => ⟨(hZ3 z hz).1, (hZ3 z hz).2.kept hk45 (fun b hb e => by
          have h1 := tag_row hrow3 e
          rw [h1] at hb
          simp at hb)⟩
        have E1 : EntsAt w5 (.slice none 0 0) ((entsG (ent2R gen S) N zeroEn c0).1.getD []) := by rw [HF.out]; exact ents_nil _
        have E2 : Rd w5 q (entsG (ent2R gen S) N zeroEn c0).2 gen sv (.slice la x.labels.length lc) x := by rw [HF.out]; exact hR5
        go_ret
        first
          | exact ⟨_, rfl, E1, ⟨_, _, _, E2⟩, hk5⟩
          | exact ⟨_, _, _, _, rfl, E1, E2, hk5⟩
          | exact ⟨_, _, _, E1, E2, hk5⟩
          | exact ⟨E1, ⟨_, _, _, E2⟩, hk5⟩
      | false =>
        have HF := Lib.hid (HI2.out.trans (HG.out hbad))
        go_wp2_with (at_builtin; go_loud (refine wpList_append_own_at _ rfl _ _ 22 rfl wt.heap.size 59 i0 (.agg #[.slice none 0 0, .int .i64 0, .int .i64 0, .int .i64 0]) 4 48 Tryz.underlying22 hin hz0 hz1 hz2 rfl (by decide) _ _ _ rfl (World.ownsRow.alloc hrow3 _) ⟨W3.heap.size, 0, none⟩ 1 1 (enC (.slice la x.labels.length lc) x) rfl rfl hcn (by simp [Value.oneCell', enC]) (by unfold maxLen; omega) (by omega) (by simp; omega) ?_; intro v' w5 hown' hgrow hnil2 hloc; obtain ⟨va', vc', rfl⟩ := row_form hown'; have hR5 : Rd w5 q c2 gen sv (.slice la x.labels.length lc) x := Blk.grown (Blk.alloc hR3 _) hgrow (fun e => HNQ.out q e.symm rfl); have dbd : w5.cell? ⟨q, 1, none⟩ = some (Value.bool false) := (Blk.cell hR5 1).trans (show _ = some (Value.bool c2.2) from rfl) |>.trans (by rw [hbad]); have hk45 : Kept W3 w5 (fun k => (Value.slice va Z.length vc).ownBlock = some k) := (Kept.alloc W3 _ _).trans (Kept.of_grown hgrow fun k e => e); have hk5 := hkk3.then_over hk45 (fun i hi e => by have := HLO.out i e; have := HWS.out; omega); clear hgrow hnil2 hloc))
        have hkt5 := hkt3.then_over hk45 (fun i hi e => by have := HLO.out i e; omega)
        have hL5 := hL3.kept hk45 (fun b hb e => by
          have h1 := tag_row hrow3 e
          rw [h1] at hb
          simp at hb)
        have hZ5 : ∀ z ∈ Z, z.1.ok ∧ LabsOwn w5 z.2 z.1.labels := fun z hz => ⟨(hZ3 z hz).1, (hZ3 z hz).2.kept hk45 (fun b hb e => by
          have h1 := tag_row hrow3 e
          rw [h1] at hb
          simp at hb)⟩
        go_roundw
        case rel =>
          refine ⟨Z.length + 1, Z ++ [(x, .slice la x.labels.length lc)], c2, x, x, (.slice la x.labels.length lc), _, by omega, by go_num, rfl, by simp, by have := HB.out.2.2.1; omega, hR5, ?_, fun z hz => ?_, hk5, hkt5, Lib.hid ?_⟩
          · rw [← entCells_snoc, List.length_append]
            exact hown'
          · rcases List.mem_append.1 hz with hz | hz
            · exact hZ5 z hz
            · obtain rfl := List.mem_singleton.1 hz
              exact ⟨HB.out.1, hL5⟩
          · rw [HF.out]
            simp
        case measure => simp [intOf]; omega
    · subst hiN
      have HF := Lib.hid (show entsG (ent2R gen S) Z.length zeroEn c0 = (some (Z.map (·.1)), c1) by
        rw [HI.out, Nat.sub_self, entsG_end])
      have E1 : EntsAt wr (.slice va Z.length vc) ((entsG (ent2R gen S) Z.length zeroEn c0).1.getD []) := by rw [HF.out]; exact entsAt_row hrow rfl (by omega) hZ
      have E2 : Rd wr q (entsG (ent2R gen S) Z.length zeroEn c0).2 gen sv av a1 := by rw [HF.out]; exact hR
      go_wp2_with fail
      go_ret
      first
        | exact ⟨_, rfl, E1, ⟨_, _, _, E2⟩, hk⟩
        | exact ⟨_, _, _, _, rfl, E1, E2, hk⟩
end Go.Proofs.YtpeahjocimhneaaGreatDoor
namespace Go.Proofs.YtpeahjocimhneaaGreatDoor
open Go.RowKit Go.Maps Go.WideMaps
attribute [local go_sem] bs_toList bs_size

theorem getI_out {s : List UInt8} {g : Int} (h : g < 1 ∨ 3 < g) : getI s g = ([], 1) := by unfold getI; rw [if_pos h]
theorem getI_torn {s : List UInt8} {g : Int} (h : ¬ (g < 1 ∨ 3 < g)) (hg : goodB s = none) : getI s g = ([], 9) := by unfold getI; rw [if_neg h, hg]
theorem getI_in {s b : List UInt8} {g : Int} (h : ¬ (g < 1 ∨ 3 < g)) (hg : goodB s = some b) :
    getI s g = if (allR g (b, false)).2.2 = true ∨ putI ((allR g (b, false)).1.getD []) g ≠ (s, 0) then ([], 9) else ((allR g (b, false)).1.getD [], 0) := by unfold getI; rw [if_neg h, hg]
theorem good_len {s b : List UInt8} (h : goodB s = some b) : s.length = b.length + 4 := by
  have := goodB_some h
  rw [this, List.length_append, tailB_len]
set_option maxRecDepth 100000 in
set_option maxHeartbeats 4000000 in
theorem IGet_any (s : List UInt8) (gen : Int) (w : World) (hl : s.length ≤ 1000004) (h1 : -9223372036854775808 ≤ gen) (h2 : gen ≤ 9223372036854775807) :
    Calls Tryz.prog 27 #[.string (bs s), .int .i64 gen] w fun e w' => ∃ v, e = .returned (.tuple #[v, .int .i64 (getI s gen).2]) ∧ EntsAt w' v (getI s gen).1 ∧ Below w.heap.size w w' := by
  by_cases g1 : gen < 1
  · have f1 : decide (gen < 1) = true := by simpa using g1
    rw [getI_out (.inl g1)]
    clear g1
    go_enter Tryz.func27, Tryz.ntmps27
    go_wp2_with fail
    go_ret2
    exact ⟨_, rfl, ents_nil _, Below.refl _ _⟩
  have f1 : decide (gen < 1) = false := by simpa using g1
  by_cases g2 : 3 < gen
  · have f2 : decide (3 < gen) = true := by simpa using g2
    rw [getI_out (.inr g2)]
    clear g1 g2
    go_enter Tryz.func27, Tryz.ntmps27
    go_wp2_with fail
    go_ret2
    exact ⟨_, rfl, ents_nil _, Below.refl _ _⟩
  have f2 : decide (3 < gen) = false := by simpa using g2
  have q1 := Lib.hid (Good_any s (by omega) w)
  cases hG : goodB s with
  | none =>
    rw [getI_torn (by omega) hG]
    rw [show goodV s = .tuple #[.string ⟨#[]⟩, .bool false] by unfold goodV; rw [hG]] at q1
    clear g1 g2 hG
    go_enter Tryz.func27, Tryz.ntmps27
    go_wp2_with fail
    refine q1.out.mono ?_
    rintro e w1 ⟨rfl, b1⟩
    go_wp2_with fail
    go_ret2
    exact ⟨_, rfl, ents_nil _, b1⟩
  | some b =>
    have HY := Lib.hid (getI_in (s := s) (b := b) (g := gen) (by omega) hG)
    have hbl := good_len hG
    rw [show goodV s = .tuple #[.string (bs b), .bool true] by unfold goodV; rw [hG]] at q1
    have qa := Lib.hid (fun q W (hR : Rd W q (b, false) gen (.slice none 0 0) (.slice none 0 0) zeroEn) => rall_any q (b, false) gen W hR (by simp only; omega) h1 h2)
    generalize allR gen (b, false) = R at *
    obtain ⟨r, c⟩ := R
    simp only at HY qa
    generalize r.getD [] = E at *
    have qp := Lib.hid (fun v W h => IPut_any E v gen W h h1 h2)
    generalize getI s gen = GI at *
    unfold putIV at qp
    generalize putI E gen = P at *
    obtain ⟨pb, pe⟩ := P
    simp only at HY qp
    clear g1 g2 hG
    go_enter Tryz.func27, Tryz.ntmps27
    go_wp2_with fail
    refine q1.out.mono ?_
    rintro e w1 ⟨rfl, b1⟩
    have kR : Rd (w1.alloc (.cells (rdC (b, false) gen (.slice none 0 0) (.slice none 0 0) zeroEn) 91)) w1.heap.size (b, false) gen (.slice none 0 0) (.slice none 0 0) zeroEn := Blk.new _ _ _
    have b2 := b1.trans ((one_alloc w1 (.cells (rdC (b, false) gen (.slice none 0 0) (.slice none 0 0) zeroEn) 91)).mono b1.size)
    have hws := b1.size
    clear q1
    go_wp2_with fail
    refine (qa.out _ _ kR).mono ?_
    rintro e w3 ⟨v, sy, av, a, rfl, hE, hR3, hk3⟩
    have b3 := b2.trans (Kept.below hk3 b2.size (fun k hk => by omega))
    clear kR b2 qa hk3
    obtain ⟨va, vc, rfl, _⟩ := id hE
    go_wp2_with fail
    refine (qp.out _ _ hE).mono ?_
    rintro e w4 ⟨rfl, b4⟩
    have hR4 := Blk.below hR3 b4 (Blk.lt hR3)
    have hE4 := hE.below b4
    have b5 := b3.trans (b4.mono b3.size)
    have dbd := (Blk.cell hR4 1).trans (show _ = some (Value.bool c.2) from rfl)
    clear qp hR3 hE b4 b3
    cases hbad : c.2 with
    | true =>
      rw [hbad] at dbd
      have HF := Lib.hid (show GI = ([], 9) by rw [HY.out, if_pos (.inl hbad)])
      go_wp2_with fail
      go_ret2
      rw [HF.out]
      exact ⟨_, rfl, ents_nil _, b5⟩
    | false =>
      rw [hbad] at dbd
      by_cases hpe : pe = 0
      · subst hpe
        have f3 : ((0 : Int) != 0) = false := rfl
        by_cases hps : pb = s
        · subst hps
          have f4 : (pb == pb) = true := by simp
          have HF := Lib.hid (show GI = (E, 0) by rw [HY.out, if_neg (by simp [hbad])])
          go_wp2_with fail
          go_ret2
          rw [HF.out]
          exact ⟨_, rfl, hE4, b5⟩
        · have f4 : (pb == s) = false := by simpa using hps
          have HF := Lib.hid (show GI = ([], 9) by rw [HY.out, if_pos (.inr (fun e => hps (Prod.mk.inj e).1))])
          clear hps
          go_wp2_with fail
          go_ret2
          rw [HF.out]
          exact ⟨_, rfl, ents_nil _, b5⟩
      · have f3 : (pe != 0) = true := by simpa using hpe
        have HF := Lib.hid (show GI = ([], 9) by rw [HY.out, if_pos (.inr (fun e => hpe (Prod.mk.inj e).2))])
        clear hpe
        go_wp2_with fail
        go_ret2
        rw [HF.out]
        exact ⟨_, rfl, ents_nil _, b5⟩
end Go.Proofs.YtpeahjocimhneaaGreatDoor
namespace Go.Proofs.YtpeahjocimhneaaGreatDoor
open Go.RowKit

def eA : En := ⟨[([97], [120])], 5, 0, 9⟩
def eB : En := ⟨[([97], [121])], 7, 9, 3⟩
def lAB : List En := [eA, eB]
theorem key_eA : keyB eA.labels = keyB [([97], [120])] := rfl
theorem valid3 : validI lAB 3 = 0 := by decide +kernel
theorem valid1 : validI lAB 1 = 0 := by decide +kernel
theorem valid0 : validI lAB 0 = 1 := by decide +kernel
theorem validN : validI [] 2 = 0 := by decide +kernel
theorem who1 : whoN lAB ([97], [121]) = [1] := by decide +kernel
theorem ask01 : askN [⟨3, [97], []⟩] lAB = [0, 1] := by decide +kernel
theorem sameAA : sameI lAB lAB = true := by decide +kernel
theorem sameA1 : sameI lAB [eA] = false := by decide +kernel
theorem symN : symI [] = [] := List.eq_nil_iff_forall_not_mem.2 fun s hs => by rw [mem_symI] at hs; cases hs
theorem sym3 : (symI lAB).length = 3 := by
  have h1 := symI_nodup lAB
  have h2 : ∀ s, s ∈ symI lAB ↔ s = [97] ∨ s = [120] ∨ s = [121] := fun s => by
    rw [mem_symI]
    have : textsOf lAB = [[97], [120], [97], [121]] := rfl
    rw [this]
    simp only [List.mem_cons, List.not_mem_nil, or_false]
    constructor
    · rintro (h | h | h | h)
      · exact .inl h
      · exact .inr (.inl h)
      · exact .inl h
      · exact .inr (.inr h)
    · rintro (h | h | h)
      · exact .inl h
      · exact .inr (.inl h)
      · exact .inr (.inr (.inr h))
  have h3 : List.Perm (symI lAB) [[97], [120], [121]] := (List.perm_ext_iff_of_nodup h1 (by decide)).2 fun s => by rw [h2]; simp
  exact h3.length_eq
theorem putN : (putI [] 2).2 = 0 ∧ (putI [] 2).1.length = 6 ∧ (putI [] 2).1.take 2 = [0, 0] := by
  have hb : bodyI [] 2 = [0, 0] := by
    unfold bodyI moreI headI
    rw [symN]
    decide +kernel
  rw [putI_ok validN, hb]
  have ht := tailB_len [0, 0]
  refine ⟨rfl, by simp [ht], ?_⟩
  rfl
theorem put3 : (putI lAB 3).2 = 0 ∧ (putI lAB 3).1.length ≤ 1000000 + 4 := by
  rw [putI_ok valid3]
  have h1 := body_len lAB 3 valid3
  have ht := tailB_len (bodyI lAB 3)
  refine ⟨rfl, ?_⟩
  simp only [List.length_append]
  omega
theorem get3 : getI (putI lAB 3).1 3 = (lAB, 0) := getI_put valid3
end Go.Proofs.YtpeahjocimhneaaGreatDoor
namespace Go.Proofs.YtpeahjocimhneaaGreatDoor
open Go.RowKit Go.Maps Go.WideMaps
attribute [local go_sem] bs_toList bs_size

theorem ents_two {W : World} {b bA bB : Nat} (hA : Blk W bA 37 #[.string ⟨#[97]⟩, .string ⟨#[120]⟩]) (hB : Blk W bB 37 #[.string ⟨#[97]⟩, .string ⟨#[121]⟩])
    (hE : Blk W b 59 #[.slice (some ⟨bA, 0, none⟩) 1 1, .int .i64 5, .int .i64 0, .int .i64 9, .slice (some ⟨bB, 0, none⟩) 1 1, .int .i64 7, .int .i64 9, .int .i64 3]) :
    EntsAt W (.slice (some ⟨b, 0, none⟩) 2 2) lAB := by
  have one : ∀ {g : Nat} {y : UInt8}, Blk W g 37 #[.string ⟨#[97]⟩, .string ⟨#[y]⟩] → LabsAt W (.slice (some ⟨g, 0, none⟩) 1 1) [([97], [y])] := fun {g y} h => by
    refine ⟨_, 1, rfl, by simp, fun i x hx => ?_⟩
    rcases i with _ | i
    · obtain rfl : ([97], [y]) = x := by simpa using hx
      exact ⟨by simp, by simp, g, 0, rfl, (Blk.cell h 0).trans rfl, (Blk.cell h 1).trans rfl⟩
    · simp at hx
  refine ⟨_, 2, rfl, (fun e => by cases e), by simp [lAB], by simp [lAB], fun i x hx => ?_⟩
  rcases i with _ | _ | i
  · obtain rfl : eA = x := by simpa [lAB] using hx
    exact ⟨by unfold En.ok eA; simp, b, 0, rfl, _, 1, (Blk.cell hE 0).trans rfl, one hA, (Blk.cell hE 1).trans rfl, (Blk.cell hE 2).trans rfl, (Blk.cell hE 3).trans rfl⟩
  · obtain rfl : eB = x := by simpa [lAB] using hx
    exact ⟨by unfold En.ok eB; simp, b, 0, rfl, _, 1, (Blk.cell hE 4).trans rfl, one hB, (Blk.cell hE 5).trans rfl, (Blk.cell hE 6).trans rfl, (Blk.cell hE 7).trans rfl⟩
  · simp [lAB] at hx
theorem mats_one (w : World) : MatsAt (w.alloc (.cells #[.int .i64 3, .string ⟨#[97]⟩, .string ⟨#[]⟩] 55)) (.slice (some ⟨w.heap.size, 0, none⟩) 1 1) [⟨3, [97], []⟩] := by
  have h := Blk.new w 55 #[.int .i64 3, .string ⟨#[97]⟩, .string ⟨#[]⟩]
  refine ⟨_, 1, rfl, by simp, fun i x hx => ?_⟩
  rcases i with _ | i
  · obtain rfl : (⟨3, [97], []⟩ : Mr) = x := by simpa using hx
    exact ⟨⟨by simp, by simp⟩, by simp [maxLen], by simp [maxLen], w.heap.size, 0, rfl, (Blk.cell h 0).trans rfl, (Blk.cell h 1).trans rfl, (Blk.cell h 2).trans rfl⟩
  · simp at hx
set_option maxRecDepth 100000 in
set_option maxHeartbeats 4000000 in
theorem works_any (w : World) : Calls Tryz.prog 9 #[] w fun e w' => e = .returned (.bool true) ∧ Below w.heap.size w w' := by
  obtain ⟨n1, n2, n3⟩ := putN
  obtain ⟨p1, p2⟩ := put3
  have q1 := Lib.hid (IPut_any [] (.slice none 0 0) 2 w (ents_nil w) (by omega) (by omega))
  rw [show putIV [] 2 = .tuple #[.string (bs (putI [] 2).1), .int .i64 0] by unfold putIV; rw [n1]] at q1
  have hx0 : (bs (putI [] 2).1).extract 0 2 = bs [0, 0] := by rw [bs_extract]; simp [n3]
  have q2 := Lib.hid (fun v W (h : EntsAt W v lAB) => IPut_any lAB v 3 W h (by omega) (by omega))
  rw [show putIV lAB 3 = .tuple #[.string (bs (putI lAB 3).1), .int .i64 0] by unfold putIV; rw [p1]] at q2
  have q3 := Lib.hid (fun W => IGet_any (putI lAB 3).1 3 W (by omega) (by omega) (by omega))
  rw [get3] at q3
  have q4 := Lib.hid (fun W => IGet_any (putI lAB 3).1 9 W (by omega) (by omega) (by omega))
  rw [getI_out (.inr (by omega))] at q4
  have q5 := Lib.hid (fun v W (h : EntsAt W v lAB) => Postings_any lAB v ([97], [121]) W h)
  rw [who1, show intsN [1] = [1] from rfl] at q5
  have q6 := Lib.hid (fun v W (h : EntsAt W v lAB) mv hM => Ask_any lAB v [⟨3, [97], []⟩] mv W h hM)
  rw [ask01, show intsN [0, 1] = [0, 1] from rfl] at q6
  have q7 := Lib.hid (fun v W (h : EntsAt W v lAB) => ISymbols_any lAB v W h (by decide))
  rw [sym3] at q7
  have q8 := Lib.hid (fun v u W (h1 : EntsAt W v lAB) (h2 : EntsAt W u lAB) => ISame_any lAB lAB v u W h1 h2)
  rw [sameAA] at q8
  have q9 := Lib.hid (fun v u W (h1 : EntsAt W v lAB) (h2 : EntsAt W u [eA]) => ISame_any lAB [eA] v u W h1 h2)
  rw [sameA1] at q9
  have qa := Lib.hid (fun v W (h : EntsAt W v lAB) => IValid_any lAB v 1 W h (by omega) (by omega))
  rw [valid1] at qa
  have qb := Lib.hid (fun v W (h : EntsAt W v lAB) => IValid_any lAB v 0 W h (by omega) (by omega))
  rw [valid0] at qb
  have hn2 : ((putI [] 2).1.length : Int) = 6 := by omega
  generalize (putI [] 2).1 = PA at *
  generalize (putI lAB 3).1 = PB at *
  clear n1 n3 p1
  go_enter Tryz.func9, Tryz.ntmps9
  go_wp2_with fail
  refine q1.out.mono ?_
  rintro e w1 ⟨rfl, b1⟩
  have hE0 : EntsAt (((w1.alloc (.cells #[.string ⟨#[97]⟩, .string ⟨#[120]⟩] 37)).alloc (.cells #[.string ⟨#[97]⟩, .string ⟨#[121]⟩] 37)).alloc (.cells #[.slice (some ⟨w1.heap.size, 0, none⟩) 1 1, .int .i64 5, .int .i64 0, .int .i64 9, .slice (some ⟨w1.heap.size + 1, 0, none⟩) 1 1, .int .i64 7, .int .i64 9, .int .i64 3] 59)) (.slice (some ⟨w1.heap.size + 2, 0, none⟩) 2 2) lAB := by
    refine ents_two (bA := w1.heap.size) (bB := w1.heap.size + 1) (((Blk.new w1 _ _).alloc _).alloc _) ?_ ?_
    · have := (Blk.new (w1.alloc (.cells #[.string ⟨#[97]⟩, .string ⟨#[120]⟩] 37)) 37 #[.string ⟨#[97]⟩, .string ⟨#[121]⟩]).alloc (.cells #[.slice (some ⟨w1.heap.size, 0, none⟩) 1 1, .int .i64 5, .int .i64 0, .int .i64 9, .slice (some ⟨w1.heap.size + 1, 0, none⟩) 1 1, .int .i64 7, .int .i64 9, .int .i64 3] 59)
      rw [World.size_alloc] at this
      exact this
    · have := Blk.new ((w1.alloc (.cells #[.string ⟨#[97]⟩, .string ⟨#[120]⟩] 37)).alloc (.cells #[.string ⟨#[97]⟩, .string ⟨#[121]⟩] 37)) 59 #[.slice (some ⟨w1.heap.size, 0, none⟩) 1 1, .int .i64 5, .int .i64 0, .int .i64 9, .slice (some ⟨w1.heap.size + 1, 0, none⟩) 1 1, .int .i64 7, .int .i64 9, .int .i64 3]
      rw [World.size_alloc, World.size_alloc] at this
      exact this
  have b2 := b1.trans ((((Below.refl _ w1).alloc (Nat.le_refl _) (.cells #[.string ⟨#[97]⟩, .string ⟨#[120]⟩] 37)).alloc (by simp) (.cells #[.string ⟨#[97]⟩, .string ⟨#[121]⟩] 37)).alloc (by simp; omega) (.cells #[.slice (some ⟨w1.heap.size, 0, none⟩) 1 1, .int .i64 5, .int .i64 0, .int .i64 9, .slice (some ⟨w1.heap.size + 1, 0, none⟩) 1 1, .int .i64 7, .int .i64 9, .int .i64 3] 59)|>.mono b1.size)
  clear q1 b1
  go_wp2_with fail
  generalize ((w1.alloc (.cells #[.string ⟨#[97]⟩, .string ⟨#[120]⟩] 37)).alloc (.cells #[.string ⟨#[97]⟩, .string ⟨#[121]⟩] 37)).alloc (.cells #[.slice (some ⟨w1.heap.size, 0, none⟩) 1 1, .int .i64 5, .int .i64 0, .int .i64 9, .slice (some ⟨w1.heap.size + 1, 0, none⟩) 1 1, .int .i64 7, .int .i64 9, .int .i64 3] 59) = w2 at *
  generalize w1.heap.size + 2 = bl at *
  refine (q2.out _ _ hE0).mono ?_
  rintro e w3 ⟨rfl, b3⟩
  have hE3 := hE0.below b3
  have B3 := b2.trans (b3.mono b2.size)
  clear q2 hE0 b2 b3
  go_wp2_with fail
  refine (q3.out _).mono ?_
  rintro e w4 ⟨vm, rfl, hM4, b4⟩
  have hE4 := hE3.below b4
  have B4 := B3.trans (b4.mono B3.size)
  obtain ⟨ma, mc, rfl, _⟩ := id hM4
  clear q3 hE3 b4 B3
  go_wp2_with fail
  refine (q4.out _).mono ?_
  rintro e w5 ⟨vn, rfl, hN5, b5⟩
  have hE5 := hE4.below b5
  have hM5 := hM4.below b5
  have B5 := B4.trans (b5.mono B4.size)
  obtain ⟨na, nc, rfl, _⟩ := id hN5
  clear q4 hE4 hM4 hN5 b5 B4
  go_wp2_with fail
  refine (q5.out _ _ hE5).mono ?_
  rintro e w6 ⟨vp, rfl, hP6, b6⟩
  have hE6 := hE5.below b6
  have hM6 := hM5.below b6
  have B6 := B5.trans (b6.mono B5.size)
  obtain ⟨pa, pc, rfl, _, _, _, hpx⟩ := id hP6
  obtain ⟨pb, po, rfl, hp0⟩ := hpx 0 1 rfl
  rw [Nat.add_zero] at hp0
  clear q5 hE5 hM5 hP6 hpx b6 B5
  have hE7 := hE6.below (one_alloc w6 (.cells #[.int .i64 3, .string ⟨#[97]⟩, .string ⟨#[]⟩] 55))
  have hM7 := hM6.below (one_alloc w6 (.cells #[.int .i64 3, .string ⟨#[97]⟩, .string ⟨#[]⟩] 55))
  have hp7 := ((one_alloc w6 (.cells #[.int .i64 3, .string ⟨#[97]⟩, .string ⟨#[]⟩] 55)).cell (World.block_lt_of_cell? _ _ hp0)).trans hp0
  have B7 := B6.trans ((one_alloc w6 (.cells #[.int .i64 3, .string ⟨#[97]⟩, .string ⟨#[]⟩] 55)).mono B6.size)
  have hMt := mats_one w6
  clear hE6 hM6 hp0 B6
  go_wp2_with fail
  generalize w6.alloc (.cells #[.int .i64 3, .string ⟨#[97]⟩, .string ⟨#[]⟩] 55) = w7 at *
  generalize w6.heap.size = bm at *
  refine (q6.out _ _ hE7 _ hMt).mono ?_
  rintro e w8 ⟨vq, rfl, hQ8, b8⟩
  have hE8 := hE7.below b8
  have hM8 := hM7.below b8
  have hp8 := (b8.cell (World.block_lt_of_cell? _ _ hp7)).trans hp7
  have B8 := B7.trans (b8.mono B7.size)
  obtain ⟨qa', qc', rfl, _⟩ := id hQ8
  clear q6 hE7 hM7 hp7 hMt b8 B7 hQ8
  go_wp2_with fail
  refine (q7.out _ _ hE8).mono ?_
  rintro e w9 ⟨vs, rfl, hS9, b9⟩
  have hE9 := hE8.below b9
  have hM9 := hM8.below b9
  have hp9 := (b9.cell (World.block_lt_of_cell? _ _ hp8)).trans hp8
  have B9 := B8.trans (b9.mono B8.size)
  obtain ⟨sa', sc', rfl⟩ := row_form hS9
  clear q7 hE8 hM8 hp8 b9 B8 hS9
  go_wp2_with fail
  have hE1 : EntsAt w9 (.slice (some ⟨bl, 0, none⟩) 1 2) [eA] := hE9.take (m := 1) (by simp)
  have p0 := grow_cell hp9
  refine wp_region_at (R := GrowR) (by kernel_rfl) (by kernel_rfl) ?_
  simp only [List.append_eq, List.cons_append, List.nil_append]
  (refine lex_one (by kernel_rfl) (by kernel_rfl) (by kernel_rfl) (fun K hK => ?_); go_big_quiet_step (fail); refine wpQuiet_nil (hK _ ?_); clear hK K); (refine lex_one (by kernel_rfl) (by kernel_rfl) (by kernel_rfl) (fun K hK => ?_); go_big_quiet_step (fail); refine wpQuiet_nil (hK _ ?_); clear hK K); (refine lex_one (by kernel_rfl) (by kernel_rfl) (by kernel_rfl) (fun K hK => ?_); go_big_quiet_step (fail); refine wpQuiet_nil (hK _ ?_); clear hK K); (refine lex_one (by kernel_rfl) (by kernel_rfl) (by kernel_rfl) (fun K hK => ?_); go_big_quiet_step (fail); refine wpQuiet_nil (hK _ ?_); clear hK K)
  (refine lex_val (v := .int .i64 6) (by kernel_rfl) (fun _ _ h => by cases h) (by kernel_rfl) (by kernel_rfl) (fun _ _ => by go_simp) (lex_put (type := 0) (pos := "") (fun K hK => ?_)); go_big_quiet_step (fail); refine wpQuiet_nil (hK _ ?_); clear hK K)
  (refine lex_one (by kernel_rfl) (by kernel_rfl) (by kernel_rfl) (fun K hK => ?_); go_big_quiet_step (fail); refine wpQuiet_nil (hK _ ?_); clear hK K); (refine lex_one (by kernel_rfl) (by kernel_rfl) (by kernel_rfl) (fun K hK => ?_); go_big_quiet_step (fail); refine wpQuiet_nil (hK _ ?_); clear hK K); (refine lex_one (by kernel_rfl) (by kernel_rfl) (by kernel_rfl) (fun K hK => ?_); go_big_quiet_step (fail); refine wpQuiet_nil (hK _ ?_); clear hK K); (refine lex_one (by kernel_rfl) (by kernel_rfl) (by kernel_rfl) (fun K hK => ?_); go_big_quiet_step (fail); refine wpQuiet_nil (hK _ ?_); clear hK K)
  (refine lex_val (v := .string (bs [0, 0])) (by kernel_rfl) (fun _ _ h => by cases h) (by kernel_rfl) (by kernel_rfl) (fun _ _ => by go_simp) (lex_put (type := 0) (pos := "") (fun K hK => ?_)); go_big_quiet_step (fail); refine wpQuiet_nil (hK _ ?_); clear hK K)
  (refine lex_make (rowOf_keeps [0, 0]) (by kernel_rfl) (fun _ _ h => by cases h) (by kernel_rfl) rfl (make_bytes 5 [0, 0] fun W => by go_simp) ?_)
  (refine lex_turn (by kernel_rfl) rfl rfl (by kernel_rfl) (by kernel_rfl) (turn_bytes 63 9 5 Tryz.underlying63 Tryz.underlying5 Tryz.underlying9 [0, 0]) (lex_put (type := 0) (pos := "") (fun K hK => ?_)); go_big_quiet_step (fail); refine wpQuiet_nil (hK _ ?_); clear hK K)
  (refine lex_one (by kernel_rfl) (by kernel_rfl) (by kernel_rfl) (fun K hK => ?_); go_big_quiet_step (fail); refine wpQuiet_nil (hK _ ?_); clear hK K); (refine lex_one (by kernel_rfl) (by kernel_rfl) (by kernel_rfl) (fun K hK => ?_); go_big_quiet_step (fail); refine wpQuiet_nil (hK _ ?_); clear hK K); (refine lex_one (by kernel_rfl) (by kernel_rfl) (by kernel_rfl) (fun K hK => ?_); go_big_quiet_step (fail); refine wpQuiet_nil (hK _ ?_); clear hK K); (refine lex_one (by kernel_rfl) (by kernel_rfl) (by kernel_rfl) (fun K hK => ?_); go_big_quiet_step (fail); refine wpQuiet_nil (hK _ ?_); clear hK K); (refine lex_one (by kernel_rfl) (by kernel_rfl) (by kernel_rfl) (fun K hK => ?_); go_big_quiet_step (fail); refine wpQuiet_nil (hK _ ?_); clear hK K); (refine lex_one (by kernel_rfl) (by kernel_rfl) (by kernel_rfl) (fun K hK => ?_); go_big_quiet_step (fail); refine wpQuiet_nil (hK _ ?_); clear hK K); (refine lex_one (by kernel_rfl) (by kernel_rfl) (by kernel_rfl) (fun K hK => ?_); go_big_quiet_step (fail); refine wpQuiet_nil (hK _ ?_); clear hK K); (refine lex_one (by kernel_rfl) (by kernel_rfl) (by kernel_rfl) (fun K hK => ?_); go_big_quiet_step (fail); refine wpQuiet_nil (hK _ ?_); clear hK K); (refine lex_one (by kernel_rfl) (by kernel_rfl) (by kernel_rfl) (fun K hK => ?_); go_big_quiet_step (fail); refine wpQuiet_nil (hK _ ?_); clear hK K); (refine lex_one (by kernel_rfl) (by kernel_rfl) (by kernel_rfl) (fun K hK => ?_); go_big_quiet_step (fail); refine wpQuiet_nil (hK _ ?_); clear hK K); (refine lex_one (by kernel_rfl) (by kernel_rfl) (by kernel_rfl) (fun K hK => ?_); go_big_quiet_step (fail); refine wpQuiet_nil (hK _ ?_); clear hK K); (refine lex_one (by kernel_rfl) (by kernel_rfl) (by kernel_rfl) (fun K hK => ?_); go_big_quiet_step (fail); refine wpQuiet_nil (hK _ ?_); clear hK K); (refine lex_one (by kernel_rfl) (by kernel_rfl) (by kernel_rfl) (fun K hK => ?_); go_big_quiet_step (fail); refine wpQuiet_nil (hK _ ?_); clear hK K); (refine lex_one (by kernel_rfl) (by kernel_rfl) (by kernel_rfl) (fun K hK => ?_); go_big_quiet_step (fail); refine wpQuiet_nil (hK _ ?_); clear hK K); (refine lex_one (by kernel_rfl) (by kernel_rfl) (by kernel_rfl) (fun K hK => ?_); go_big_quiet_step (fail); refine wpQuiet_nil (hK _ ?_); clear hK K); (refine lex_one (by kernel_rfl) (by kernel_rfl) (by kernel_rfl) (fun K hK => ?_); go_big_quiet_step (fail); refine wpQuiet_nil (hK _ ?_); clear hK K); (refine lex_one (by kernel_rfl) (by kernel_rfl) (by kernel_rfl) (fun K hK => ?_); go_big_quiet_step (fail); refine wpQuiet_nil (hK _ ?_); clear hK K)
  (refine lex_call (f := 17) (args := #[.slice (some ⟨bl, 0, none⟩) 2 2, .slice ma lAB.length mc]) (v := .bool true) (by kernel_rfl) (fun _ _ h => by cases h) (by kernel_rfl) (by kernel_rfl) (fun _ => by go_simp) (fun W hW => q8.out _ _ W (hE9.below hW) (hM9.below hW)) (lex_put (type := 0) (pos := "") (fun K hK => ?_)); go_big_quiet_step (fail); refine wpQuiet_nil (hK _ ?_); clear hK K)
  (refine lex_one (by kernel_rfl) (by kernel_rfl) (by kernel_rfl) (fun K hK => ?_); go_big_quiet_step (fail); refine wpQuiet_nil (hK _ ?_); clear hK K); (refine lex_one (by kernel_rfl) (by kernel_rfl) (by kernel_rfl) (fun K hK => ?_); go_big_quiet_step (fail); refine wpQuiet_nil (hK _ ?_); clear hK K); (refine lex_one (by kernel_rfl) (by kernel_rfl) (by kernel_rfl) (fun K hK => ?_); go_big_quiet_step (fail); refine wpQuiet_nil (hK _ ?_); clear hK K); (refine lex_one (by kernel_rfl) (by kernel_rfl) (by kernel_rfl) (fun K hK => ?_); go_big_quiet_step (fail); refine wpQuiet_nil (hK _ ?_); clear hK K)
  (refine lex_val (v := .slice (some ⟨bl, 0, none⟩) 1 2) (by kernel_rfl) (fun _ _ h => by cases h) (by kernel_rfl) (by kernel_rfl) (fun _ _ => by go_simp) (lex_put (type := 0) (pos := "") (fun K hK => ?_)); go_big_quiet_step (fail); refine wpQuiet_nil (hK _ ?_); clear hK K)
  (refine lex_call (f := 17) (args := #[.slice (some ⟨bl, 0, none⟩) 2 2, .slice (some ⟨bl, 0, none⟩) 1 2]) (v := .bool false) (by kernel_rfl) (fun _ _ h => by cases h) (by kernel_rfl) (by kernel_rfl) (fun _ => by go_simp) (fun W hW => q9.out _ _ W (hE9.below hW) (hE1.below hW)) (lex_put (type := 0) (pos := "") (fun K hK => ?_)); go_big_quiet_step (fail); refine wpQuiet_nil (hK _ ?_); clear hK K)
  (refine lex_one (by kernel_rfl) (by kernel_rfl) (by kernel_rfl) (fun K hK => ?_); go_big_quiet_step (fail); refine wpQuiet_nil (hK _ ?_); clear hK K); (refine lex_one (by kernel_rfl) (by kernel_rfl) (by kernel_rfl) (fun K hK => ?_); go_big_quiet_step (fail); refine wpQuiet_nil (hK _ ?_); clear hK K); (refine lex_one (by kernel_rfl) (by kernel_rfl) (by kernel_rfl) (fun K hK => ?_); go_big_quiet_step (fail); refine wpQuiet_nil (hK _ ?_); clear hK K); (refine lex_one (by kernel_rfl) (by kernel_rfl) (by kernel_rfl) (fun K hK => ?_); go_big_quiet_step (fail); refine wpQuiet_nil (hK _ ?_); clear hK K)
  (refine lex_val (v := .int .i64 1) (by kernel_rfl) (fun _ _ h => by cases h) (by kernel_rfl) (by kernel_rfl) (fun _ _ => by go_simp) (lex_put (type := 0) (pos := "") (fun K hK => ?_)); go_big_quiet_step (fail); refine wpQuiet_nil (hK _ ?_); clear hK K)
  (refine lex_one (by kernel_rfl) (by kernel_rfl) (by kernel_rfl) (fun K hK => ?_); go_big_quiet_step (fail); refine wpQuiet_nil (hK _ ?_); clear hK K); (refine lex_one (by kernel_rfl) (by kernel_rfl) (by kernel_rfl) (fun K hK => ?_); go_big_quiet_step (fail); refine wpQuiet_nil (hK _ ?_); clear hK K); (refine lex_one (by kernel_rfl) (by kernel_rfl) (by kernel_rfl) (fun K hK => ?_); go_big_quiet_step (fail); refine wpQuiet_nil (hK _ ?_); clear hK K); (refine lex_one (by kernel_rfl) (by kernel_rfl) (by kernel_rfl) (fun K hK => ?_); go_big_quiet_step (fail); refine wpQuiet_nil (hK _ ?_); clear hK K); (refine lex_one (by kernel_rfl) (by kernel_rfl) (by kernel_rfl) (fun K hK => ?_); go_big_quiet_step (fail); refine wpQuiet_nil (hK _ ?_); clear hK K); (refine lex_one (by kernel_rfl) (by kernel_rfl) (by kernel_rfl) (fun K hK => ?_); go_big_quiet_step (fail); refine wpQuiet_nil (hK _ ?_); clear hK K); (refine lex_one (by kernel_rfl) (by kernel_rfl) (by kernel_rfl) (fun K hK => ?_); go_big_quiet_step (fail); refine wpQuiet_nil (hK _ ?_); clear hK K); (refine lex_one (by kernel_rfl) (by kernel_rfl) (by kernel_rfl) (fun K hK => ?_); go_big_quiet_step (fail); refine wpQuiet_nil (hK _ ?_); clear hK K); (refine lex_one (by kernel_rfl) (by kernel_rfl) (by kernel_rfl) (fun K hK => ?_); go_big_quiet_step (fail); refine wpQuiet_nil (hK _ ?_); clear hK K); (refine lex_one (by kernel_rfl) (by kernel_rfl) (by kernel_rfl) (fun K hK => ?_); go_big_quiet_step (fail); refine wpQuiet_nil (hK _ ?_); clear hK K)
  (refine lex_val (v := .int .i64 2) (by kernel_rfl) (fun _ _ h => by cases h) (by kernel_rfl) (by kernel_rfl) (fun _ _ => by go_simp) (lex_put (type := 0) (pos := "") (fun K hK => ?_)); go_big_quiet_step (fail); refine wpQuiet_nil (hK _ ?_); clear hK K)
  (refine lex_one (by kernel_rfl) (by kernel_rfl) (by kernel_rfl) (fun K hK => ?_); go_big_quiet_step (fail); refine wpQuiet_nil (hK _ ?_); clear hK K); (refine lex_one (by kernel_rfl) (by kernel_rfl) (by kernel_rfl) (fun K hK => ?_); go_big_quiet_step (fail); refine wpQuiet_nil (hK _ ?_); clear hK K); (refine lex_one (by kernel_rfl) (by kernel_rfl) (by kernel_rfl) (fun K hK => ?_); go_big_quiet_step (fail); refine wpQuiet_nil (hK _ ?_); clear hK K); (refine lex_one (by kernel_rfl) (by kernel_rfl) (by kernel_rfl) (fun K hK => ?_); go_big_quiet_step (fail); refine wpQuiet_nil (hK _ ?_); clear hK K)
  (refine lex_val (v := .int .i64 3) (by kernel_rfl) (fun _ _ h => by cases h) (by kernel_rfl) (by kernel_rfl) (fun _ _ => by go_simp) (lex_put (type := 0) (pos := "") (fun K hK => ?_)); go_big_quiet_step (fail); refine wpQuiet_nil (hK _ ?_); clear hK K)
  (refine lex_one (by kernel_rfl) (by kernel_rfl) (by kernel_rfl) (fun K hK => ?_); go_big_quiet_step (fail); refine wpQuiet_nil (hK _ ?_); clear hK K); (refine lex_one (by kernel_rfl) (by kernel_rfl) (by kernel_rfl) (fun K hK => ?_); go_big_quiet_step (fail); refine wpQuiet_nil (hK _ ?_); clear hK K); (refine lex_one (by kernel_rfl) (by kernel_rfl) (by kernel_rfl) (fun K hK => ?_); go_big_quiet_step (fail); refine wpQuiet_nil (hK _ ?_); clear hK K); (refine lex_one (by kernel_rfl) (by kernel_rfl) (by kernel_rfl) (fun K hK => ?_); go_big_quiet_step (fail); refine wpQuiet_nil (hK _ ?_); clear hK K)
  (refine lex_call (f := 16) (args := #[.slice (some ⟨bl, 0, none⟩) 2 2, .int .i64 1]) (v := .int .i64 0) (by kernel_rfl) (fun _ _ h => by cases h) (by kernel_rfl) (by kernel_rfl) (fun _ => by go_simp) (fun W hW => qa.out _ W (hE9.below hW)) (lex_put (type := 0) (pos := "") (fun K hK => ?_)); go_big_quiet_step (fail); refine wpQuiet_nil (hK _ ?_); clear hK K)
  (refine lex_one (by kernel_rfl) (by kernel_rfl) (by kernel_rfl) (fun K hK => ?_); go_big_quiet_step (fail); refine wpQuiet_nil (hK _ ?_); clear hK K); (refine lex_one (by kernel_rfl) (by kernel_rfl) (by kernel_rfl) (fun K hK => ?_); go_big_quiet_step (fail); refine wpQuiet_nil (hK _ ?_); clear hK K); (refine lex_one (by kernel_rfl) (by kernel_rfl) (by kernel_rfl) (fun K hK => ?_); go_big_quiet_step (fail); refine wpQuiet_nil (hK _ ?_); clear hK K); (refine lex_one (by kernel_rfl) (by kernel_rfl) (by kernel_rfl) (fun K hK => ?_); go_big_quiet_step (fail); refine wpQuiet_nil (hK _ ?_); clear hK K)
  (refine lex_call (f := 16) (args := #[.slice (some ⟨bl, 0, none⟩) 2 2, .int .i64 0]) (v := .int .i64 1) (by kernel_rfl) (fun _ _ h => by cases h) (by kernel_rfl) (by kernel_rfl) (fun _ => by go_simp) (fun W hW => qb.out _ W (hE9.below hW)) (lex_put (type := 0) (pos := "") (fun K hK => ?_)); go_big_quiet_step (fail); refine wpQuiet_nil (hK _ ?_); clear hK K)
  (refine lex_one (by kernel_rfl) (by kernel_rfl) (by kernel_rfl) (fun K hK => ?_); go_big_quiet_step (fail); refine wpQuiet_nil (hK _ ?_); clear hK K); (refine lex_one (by kernel_rfl) (by kernel_rfl) (by kernel_rfl) (fun K hK => ?_); go_big_quiet_step (fail); refine wpQuiet_nil (hK _ ?_); clear hK K); (refine lex_one (by kernel_rfl) (by kernel_rfl) (by kernel_rfl) (fun K hK => ?_); go_big_quiet_step (fail); refine wpQuiet_nil (hK _ ?_); clear hK K)
  refine lex_nil (by kernel_rfl) (by kernel_rfl) (by kernel_rfl) ?_
  intro W10 hb10
  simp only [hideAll]
  intro y hy
  clear hy
  go_wp2
  go_ret
  exact ⟨rfl, B9.trans (Below.mono hb10 B9.size)⟩
end Go.Proofs.YtpeahjocimhneaaGreatDoor
