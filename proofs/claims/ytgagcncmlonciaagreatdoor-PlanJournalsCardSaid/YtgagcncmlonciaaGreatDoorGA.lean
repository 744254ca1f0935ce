/- A row that the call owns, of whose cells none is frozen (a mark behind them may stand, as behind a conversion of a text to bytes): appends onto it. After the kit's own law on appends, arm for arm, with such a mark. General lemmas beside the kit: byte strings as lists, arrays of bytes in a block, slices of an array, blocks known whole. Over any program. Numbers and texts as bytes: plain functions on lists, and their laws. No program in sight. More plain laws of numbers and texts as bytes. The walks of the small functions of num and of its reference that only compute. The walks of num.Small, num.Wide, and of the reference's. The walks of num.Wide and of the reference's; of Text. -/
import Derived.WalkKit
import Derived.Deep.AppendLies
import Derived.Laws.IdiomStrings
import Derived.WalkLawsBesides
import Derived.WalkSpells
import Derived.Lib.Hide
import Derived.Laws.BytesArg
import Derived.Deep.Draws
import Derived.Laws.BitsAllLaws
import Derived.Laws.BitsLemmas
import Derived.Test.YtgagcncmlonciaaGreatDoorChecked
namespace Go.Proofs.YtgagcncmlonciaaGreatDoor
open Go.RowKit

/-- The slice value v, of n elements of 'size' cells each, owns the cells xs, in a block from base on, none of whose cells is frozen. -/
def OwnR (w : World) (base : Nat) (e : TypeId) (size : Nat) (v : Value) (n : Nat) (xs : List Value) : Prop :=
  xs.length = n * size ∧
  ((v = .slice none 0 0 ∧ n = 0) ∨
   ∃ g cap cur fz, v = .slice (some ⟨g, 0, none⟩) n cap ∧ base ≤ g ∧ w.heap[g]? = some (.cells cur e fz) ∧ (fz.2 ≤ fz.1 ∨ cur.size ≤ fz.1) ∧ n ≤ cap ∧ cap ≤ maxLen ∧ cur.size = cap * size ∧ cur.toList.take (n * size) = xs)

section
variable {w : World} {base : Nat} {e : TypeId} {size : Nat} {v : Value} {n : Nat} {xs : List Value}

theorem OwnR.of_owns (h : w.ownsRow base e size v n xs) : OwnR w base e size v n xs := by
  refine ⟨h.1, ?_⟩
  rcases h.2 with hn | ⟨g, cap, cur, hv, hb, hg, rest⟩
  · exact .inl hn
  · exact .inr ⟨g, cap, cur, (0, 0), hv, hb, hg, .inl (Nat.le_refl _), rest⟩
theorem OwnR.nil (w : World) (base : Nat) (e : TypeId) (size : Nat) : OwnR w base e size (.slice none 0 0) 0 [] := ⟨by simp, .inl ⟨rfl, rfl⟩⟩
theorem OwnR.lt (h : OwnR w base e size v n xs) : ∀ k, v.ownBlock = some k → base ≤ k ∧ k < w.heap.size := by
  intro k hk
  rcases h.2 with ⟨rfl, _⟩ | ⟨g, cap, cur, fz, rfl, hb, hg, _⟩
  · simp [Value.ownBlock] at hk
  · simp [Value.ownBlock] at hk
    subst hk
    exact ⟨hb, (Array.getElem?_eq_some_iff.1 hg).1⟩
theorem OwnR.keep {w' : World} (h : OwnR w base e size v n xs) (hk : ∀ g, v.ownBlock = some g → w'.heap[g]? = w.heap[g]?) : OwnR w' base e size v n xs := by
  refine ⟨h.1, ?_⟩
  rcases h.2 with hn | ⟨g, cap, cur, fz, rfl, hb, hgg, rest⟩
  · exact .inl hn
  · exact .inr ⟨g, cap, cur, fz, rfl, hb, (hk g rfl).trans hgg, rest⟩
theorem OwnR.kept {w' : World} {row : Option Nat} (h : OwnR w base e size v n xs) (hg : w.grownBy w' row) (hne : v.ownBlock = none ∨ v.ownBlock ≠ row) : OwnR w' base e size v n xs :=
  h.keep fun g hv => hg.block g (h.lt g hv).2 (fun e => by
    rcases hne with h1 | h1
    · rw [hv] at h1; cases h1
    · exact h1 (hv.trans e))
theorem OwnR.alloc (h : OwnR w base e size v n xs) (o : Obj) : OwnR (w.alloc o) base e size v n xs := h.keep fun g hv => heap_alloc_old w o (h.lt g hv).2
theorem OwnR.drew (h : OwnR w base e size v n xs) : OwnR w.drew base e size v n xs := h
theorem OwnR.below {B : Nat} {w' : World} (h : OwnR w base e size v n xs) (hb : Below B w w') (hB : w.heap.size ≤ B) : OwnR w' base e size v n xs :=
  h.keep fun g hv => hb.block g (Nat.lt_of_lt_of_le (h.lt g hv).2 hB)
theorem OwnR.far (h : OwnR w base e size v n xs) {p : Addr} (hp : ∀ g, v.ownBlock = some g → g ≠ p.block) (u : Value) : OwnR (w.setCell p u) base e size v n xs :=
  h.keep fun g hv => Below.heap_setCell w p u g (hp g hv)
theorem OwnR.cells (h : OwnR w base e size v n xs) {g : Nat} (hg : v.ownBlock = some g) : ∀ j u, xs[j]? = some u → w.cell? ((⟨g, 0, none⟩ : Addr).add j) = some u := by
  intro j u hu
  rcases h.2 with ⟨rfl, _⟩ | ⟨g', cap, cur, fz, rfl, _, hgg, _, _, _, _, htake⟩
  · simp [Value.ownBlock] at hg
  · simp [Value.ownBlock] at hg
    subst hg
    have hadd : (⟨g', 0, none⟩ : Addr).add j = ⟨g', j, none⟩ := by unfold Addr.add; split <;> simp_all
    rw [hadd, cell_of_row w g' j cur e fz hgg]
    rw [← htake, List.getElem?_take] at hu
    split at hu
    · simpa using hu
    · cases hu
theorem OwnR.cellAt {g cap : Nat} (h : OwnR w base e size (.slice (some ⟨g, 0, none⟩) n cap) n xs) (j : Nat) (hj : j < n * size) : w.cell? ⟨g, j, none⟩ = xs[j]? := by
  have hadd : (⟨g, 0, none⟩ : Addr).add j = ⟨g, j, none⟩ := by unfold Addr.add; split <;> simp_all
  have hl : j < xs.length := by rw [h.1]; exact hj
  rw [List.getElem?_eq_getElem hl, ← hadd]
  exact h.cells (g := g) rfl j _ (List.getElem?_eq_getElem hl)
theorem OwnR.form (h : OwnR w base e size v n xs) (hn : 0 < n) : ∃ g cap, v = .slice (some ⟨g, 0, none⟩) n cap ∧ base ≤ g ∧ g < w.heap.size := by
  rcases h.2 with ⟨_, h0⟩ | ⟨g, cap, cur, fz, hv, hb, hg, _⟩
  · omega
  · exact ⟨g, cap, hv, hb, (Array.getElem?_eq_some_iff.1 hg).1⟩
/-- What the value looks like, nil or not. -/
theorem OwnR.forms (h : OwnR w base e size v n xs) : ∃ a cap, v = .slice a n cap ∧ (a = none → n = 0 ∧ cap = 0) ∧ (∀ g, a = some g → g.off = 0 ∧ g.spot = none) := by
  rcases h.2 with ⟨h1, h0⟩ | ⟨g, cap, cur, fz, hv, _⟩
  · exact ⟨none, 0, by rw [h1, h0], (fun _ => ⟨h0, rfl⟩), (fun g hg => by cases hg)⟩
  · exact ⟨some ⟨g, 0, none⟩, cap, hv, (fun hx => by cases hx), (fun g' hg => by cases hg; exact ⟨rfl, rfl⟩)⟩
theorem OwnR.len (h : OwnR w base e size v n xs) : xs.length = n * size := h.1
end

theorem run_storeCells_free (P : Program) (g o : Nat) (t : TypeId) (fz : Nat × Nat) : ∀ (vs : List Value) (i : Nat) (cur : Array Value) (w : World), w.heap[g]? = some (.cells cur t fz) → (fz.2 ≤ fz.1 ∨ cur.size ≤ fz.1) → o + i + vs.length ≤ cur.size → (∀ v ∈ vs, v.oneCell' = true) →
    (storeCells ⟨g, o, none⟩ vs i).run P w = .ok () (w.setRow g (cur.toList.take (o + i) ++ vs ++ cur.toList.drop (o + i + vs.length)).toArray)
  | [], i, cur, w, hg, _, _, _ => by
    simp only [storeCells, List.append_nil, List.length_nil, Nat.add_zero, List.take_append_drop, Array.toArray_toList]
    rw [setRow_self w g cur t fz hg]
    rfl
  | v :: rest, i, cur, w, hg, hfz, hl, h1 => by
    have hi : o + i < cur.size := by simp at hl; omega
    have hadd : (⟨g, o, none⟩ : Addr).add i = ⟨g, o + i, none⟩ := by unfold Addr.add; split <;> simp_all
    have hcell : w.cell? ⟨g, o + i, none⟩ = some cur[o + i] := by simp [World.cell?, hg, hi]
    have hfro : w.frozen? ⟨g, o + i, none⟩ = false := by
      obtain ⟨lo, hi'⟩ := fz
      simp only at hfz
      simp only [World.frozen?, hg, Bool.and_eq_false_iff, decide_eq_false_iff_not]
      omega
    have hst : (store ((⟨g, o, none⟩ : Addr).add i) v).run P w = .ok () (w.setRow g (cur.setIfInBounds (o + i) v)) := by
      rw [hadd, run_store P w _ v _ (h1 v (by simp)), hcell]
      simp [hfro, setCell_eq_setRow w g (o + i) cur t fz v hg]
    have ih := run_storeCells_free P g o t fz rest (i + 1) (cur.setIfInBounds (o + i) v) (w.setRow g (cur.setIfInBounds (o + i) v)) (setRow_heap w g cur _ t _ hg) (by simpa using hfz) (by simp at hl ⊢; omega) (fun x hx => h1 x (by simp [hx]))
    simp only [storeCells, Sem.run_bind, hst, Result.andThen_ok, ih, setRow_setRow]
    congr 3
    have e := list_seg_step cur.toList (o + i) v rest (by simp at hl ⊢; omega)
    simpa [Array.toList_setIfInBounds, Nat.add_assoc] using e

section
variable {P : Program} (w : World)

theorem run_append_roomR (t ty e : TypeId) (i : TypeInfo) (ht : P.underlying t = some (.slice e)) (hi : P.info? e = some i)
    (g sLen sCap : Nat) (cur : Array Value) (fz : Nat × Nat) (hg : w.heap[g]? = some (.cells cur e fz)) (hfz : fz.2 ≤ fz.1 ∨ cur.size ≤ fz.1)
    (a : Addr) (m c : Nat) (news : List Value) (hl : news.length = m * i.size) (hnews : ∀ j u, news[j]? = some u → w.cell? (a.add j) = some u) (h1 : ∀ u ∈ news, u.oneCell' = true)
    (hroom : sLen + m ≤ sCap) (hfit : sLen * i.size + news.length ≤ cur.size) :
    (Builtin.append_ #[t, t] ty #[.slice (some ⟨g, 0, none⟩) sLen sCap, .slice (some a) m c]).run P w =
      .ok (.slice (some ⟨g, 0, none⟩) (sLen + m) sCap) (w.setRow g (cur.toList.take (sLen * i.size) ++ news ++ cur.toList.drop (sLen * i.size + news.length)).toArray) := by
  have hf := run_firstCells_some (P := P) w i.size m a m c news hl hnews
  have hst := run_storeCells_free P g (sLen * i.size) e fz news 0 cur w hg hfz (by simpa using hfit) h1
  simp only [Nat.add_zero] at hst
  simp [Builtin.append_, run_underlying ht, sizeOf, typeInfo, hi, Builtin.lenOf, hroom, hf, Addr.add_lit, hst]

/-- append(v, news...), something appended: the new value written out, and where it lies. -/
theorem run_appendR (t ty : TypeId) (base : Nat) (e : TypeId) (i : TypeInfo) (z : Value) (size bytes : Nat) (ht : P.underlying t = some (.slice e)) (hi : P.info? e = some i) (hz : i.zero = some z)
    (hsize : i.size = size) (hby : i.bytes = bytes) (hzs : z.cells.size = size) (hsz : 0 < size)
    (v : Value) (n : Nat) (xs : List Value) (hown : OwnR w base e size v n xs)
    (a : Addr) (m c : Nat) (news : List Value) (hl : news.length = m * size) (hnews : ∀ j u, news[j]? = some u → w.cell? (a.add j) = some u) (h1 : ∀ u ∈ news, u.oneCell' = true)
    (hm : 0 < m) (h63 : n + m ≤ maxLen) (hbytes : (n + m) * bytes ≤ 140737488355328) (hbase : base ≤ w.heap.size) :
    ∃ g cap w', (Builtin.append_ #[t, t] ty #[v, .slice (some a) m c]).run P w = .ok (.slice (some ⟨g, 0, none⟩) (n + m) cap) w' ∧
      OwnR w' base e size (.slice (some ⟨g, 0, none⟩) (n + m) cap) (n + m) (xs ++ news) ∧ w.grownBy w' v.ownBlock ∧ (v.ownBlock = some g ∨ g = w.heap.size) := by
  subst hsize
  subst hby
  have hsmall : n + m ≤ 9223372036854775807 := by simp only [maxLen] at h63; omega
  have hlen : (xs ++ news).length = (n + m) * i.size := by rw [List.length_append, hown.1, hl, Nat.add_mul]
  rcases hown.2 with ⟨rfl, rfl⟩ | ⟨g, cap, cur, fz, rfl, hbg, hg, hfz, hnc, hcm, hcs, htake⟩
  · have hx : xs = [] := List.eq_nil_of_length_eq_zero (by simpa using hown.1)
    subst hx
    obtain ⟨g, cap, w', r1, r2, r3, r4, _⟩ := run_append_lies (P := P) w t ty base e i z i.size i.bytes ht hi hz rfl rfl hzs hsz (.slice none 0 0) 0 [] (World.ownsRow_nil w base e i.size) a m c news hl hnews h1 hm h63 hbytes hbase _ rfl
    exact ⟨g, cap, w', r1, OwnR.of_owns r2, r3, r4⟩
  · by_cases hroom : n + m ≤ cap
    · have hfit : n * i.size + news.length ≤ cur.size := by rw [hl, hcs, ← Nat.add_mul]; exact Nat.mul_le_mul_right _ hroom
      have hr := run_append_roomR (P := P) w t ty e i ht hi g n cap cur fz hg hfz a m c news hl hnews h1 hroom hfit
      have hnl : (cur.toList.take (n * i.size) ++ news ++ cur.toList.drop (n * i.size + news.length)).toArray.size = cur.size := by
        simp only [List.size_toArray, List.length_append, List.length_take, List.length_drop, Array.length_toList]
        omega
      refine ⟨g, cap, _, hr, ⟨hlen, .inr ⟨g, cap, _, fz, rfl, hbg, setRow_heap w g cur _ e _ hg, by rw [hnl]; exact hfz, hroom, hcm, by rw [hnl]; exact hcs, ?_⟩⟩, ⟨rfl, rfl, rfl, by simp, fun k _ hk => setRow_other w g k _ (fun e => hk (by simp [Value.ownBlock, e]))⟩, .inl rfl⟩
      rw [htake, ← hlen]
      exact List.take_left
    · have holds : ∀ j u, xs[j]? = some u → w.cell? ((⟨g, 0, none⟩ : Addr).add j) = some u := hown.cells (g := g) rfl
      have hr := run_append_grow (P := P) w t ty e i z ht hi hz ⟨g, 0, none⟩ n cap xs hown.1 holds a m c news hl hnews (by omega) (by omega) (growslice_fits (by omega) hbytes)
      have hge := grownCap_ge w (n + m) cap e
      have hcm2 : grownCap w (n + m) cap e ≤ maxLen := grownCap_le_maxLen w (n + m) cap e h63
      refine ⟨w.heap.size, _, _, hr, ⟨hlen, .inr ⟨w.heap.size, _, _, (0, 0), rfl, hbase, heap_alloc_new w.drew _, .inl (Nat.le_refl _), hge, hcm2, ?_, ?_⟩⟩, ⟨rfl, rfl, rfl, by simp, fun k hk _ => heap_alloc_old w.drew _ hk⟩, .inr rfl⟩
      · simp only [Array.size_append, List.size_toArray, size_zeroCells, hzs, hown.1, hl, ← Nat.add_mul]
        congr 1
        omega
      · simp only [Array.toList_append, List.append_assoc]
        rw [← List.append_assoc, ← hlen]
        exact List.take_left

theorem wpList_appendR {ops : Array Oper} {rest : List Oper} {o : Oper} {a : Act} {Q : Exit → Act → World → Prop} (hgd : o.guard = none) (s x : Operand) (t : TypeId)
    (ho : o.op = .call { callee := .builtin .append, args := #[s, x], argTypes := #[t, t] })
    (base : Nat) (e : TypeId) (i : TypeInfo) (z : Value) (size bytes : Nat) (ht : P.underlying t = some (.slice e)) (hi : P.info? e = some i) (hz : i.zero = some z)
    (hsize : i.size = size) (hby : i.bytes = bytes) (hzs : z.cells.size = size) (hsz : 0 < size)
    (v : Value) (n : Nat) (xs : List Value) (hs : a.eval s = v) (hown : OwnR w base e size v n xs)
    (ad : Addr) (m c : Nat) (news : List Value) (hx : a.eval x = .slice (some ad) m c) (hl : news.length = m * size) (hnews : ∀ j u, news[j]? = some u → w.cell? (ad.add j) = some u) (h1 : ∀ u ∈ news, u.oneCell' = true)
    (hm : 0 < m) (h63 : n + m ≤ maxLen) (hbytes : (n + m) * bytes ≤ 140737488355328) (hbase : base ≤ w.heap.size)
    (h : ∀ g cap w', OwnR w' base e size (.slice (some ⟨g, 0, none⟩) (n + m) cap) (n + m) (xs ++ news) → w.grownBy w' v.ownBlock → (v.ownBlock = some g ∨ g = w.heap.size) → wpList P ops Q rest (a.put o.dst (.slice (some ⟨g, 0, none⟩) (n + m) cap)) w') : wpList P ops Q (o :: rest) a w := by
  refine wpList_plain hgd fun K hK => ?_
  obtain ⟨g, cap, w', hr, h2, h3, h4⟩ := run_appendR (P := P) w t o.type base e i z size bytes ht hi hz hsize hby hzs hsz v n xs hown ad m c news hl hnews h1 hm h63 hbytes hbase
  unfold Oper.wp execOp
  simp only [ho, resolve, invoke, builtin, Sem.run_bind, Sem.run_pure, Result.andThen_ok, List.map_toArray, List.map_cons, List.map_nil, hs, hx, hr]
  exact hK _ _ (h g cap w' h2 h3 h4)

/-- The same behind a new block in which the one element was laid (append(v, x)). -/
theorem wpList_append_oneR {ops : Array Oper} {rest : List Oper} {o : Oper} {a : Act} {Q : Exit → Act → World → Prop} (hgd : o.guard = none) (s x : Operand) (t : TypeId)
    (ho : o.op = .call { callee := .builtin .append, args := #[s, x], argTypes := #[t, t] })
    (base : Nat) (e : TypeId) (i : TypeInfo) (z : Value) (size bytes : Nat) (ht : P.underlying t = some (.slice e)) (hi : P.info? e = some i) (hz : i.zero = some z)
    (hsize : i.size = size) (hby : i.bytes = bytes) (hzs : z.cells.size = size) (hsz : 0 < size)
    (v : Value) (n : Nat) (xs : List Value) (hs : a.eval s = v) (hown : OwnR w base e size v n xs)
    (c : Nat) (cs : List Value) (hx : a.eval x = .slice (some ⟨w.heap.size, 0, none⟩) 1 c) (hl : cs.length = size) (h1 : ∀ u ∈ cs, u.oneCell' = true)
    (h63 : n + 1 ≤ maxLen) (hbytes : (n + 1) * bytes ≤ 140737488355328) (hbase : base ≤ w.heap.size)
    (h : ∀ g cap w', OwnR w' base e size (.slice (some ⟨g, 0, none⟩) (n + 1) cap) (n + 1) (xs ++ cs) → w.grownBy w' v.ownBlock → base ≤ g → g < w'.heap.size → (v.ownBlock = some g ∨ w.heap.size ≤ g) → wpList P ops Q rest (a.put o.dst (.slice (some ⟨g, 0, none⟩) (n + 1) cap)) w') :
    wpList P ops Q (o :: rest) a (w.alloc (.cells cs.toArray e)) := by
  refine wpList_appendR (w.alloc (.cells cs.toArray e)) hgd s x t ho base e i z size bytes ht hi hz hsize hby hzs hsz v n xs hs (hown.alloc _) ⟨w.heap.size, 0, none⟩ 1 c cs hx (by omega)
    (fun j u hu => by
      have hadd : (⟨w.heap.size, 0, none⟩ : Addr).add j = ⟨w.heap.size, j, none⟩ := by unfold Addr.add; split <;> simp_all
      rw [hadd, World.cell?_alloc_new]; simpa using hu) h1 (by omega) h63 hbytes (by simp; omega) ?_
  intro g cap w' h2 h3 h4
  have hlt := h2.lt g rfl
  refine h g cap w' h2 ⟨h3.os, h3.tape, h3.output, by have := h3.size; simp at this; omega, fun k hk hne => (h3.block k (by simp; omega) hne).trans (heap_alloc_old w _ hk)⟩ hlt.1 hlt.2 ?_
  rcases h4 with h4 | h4
  · exact .inl h4
  · right; simp at h4; omega

/-- []byte(s): one draw, one new row, with its mark. -/
theorem run_bytes_ofR (src dst e : TypeId) (s : ByteArray) (hs : P.underlying src = some .string) (hd : P.underlying dst = some (.slice e)) (he : P.underlying e = some (.int .u8)) (hl : s.size ≤ maxLen)
    (base : Nat) (hbase : base ≤ w.heap.size) :
    ∃ cap w', (convert src dst (.string s)).run P w = .ok (.slice (some ⟨w.heap.size, 0, none⟩) s.size cap) w' ∧
      OwnR w' base e 1 (.slice (some ⟨w.heap.size, 0, none⟩) s.size cap) s.size (s.data.toList.map fun b => .int .u8 b.toNat) ∧ Below w.heap.size w w' := by
  have hlen : (s.data.toList.map fun b : UInt8 => Value.int .u8 b.toNat).length = s.size * 1 := by rw [List.length_map, Nat.mul_one]; rfl
  have hnew := heap_alloc_new w.drew (.cells (bytesRow s (grownCap w s.size 0 e)) e ((bytesRow s (grownCap w s.size 0 e)).size, (bytesRow s (grownCap w s.size 0 e)).size + 1))
  have hge := grownCap_ge w s.size 0 e
  refine ⟨_, _, run_bytes_of_string w src dst e s hs hd he, ⟨hlen, .inr ⟨w.heap.size, _, _, _, rfl, hbase, hnew, .inr (Nat.le_refl _), hge, grownCap_le_maxLen w s.size 0 e hl, ?_, ?_⟩⟩, ((Below.refl _ w).drew).alloc (Nat.le_refl _) _⟩
  · unfold bytesRow
    simp only [Array.size_append, Array.size_map, Array.size_replicate]
    have : s.data.size = s.size := rfl
    omega
  · simp only [bytesRow, Array.toList_append, Array.toList_map]
    rw [List.take_left' hlen]
end
end Go.Proofs.YtgagcncmlonciaaGreatDoor
namespace Go.Proofs.YtgagcncmlonciaaGreatDoor
open Go.RowKit

/-- A text as a list of bytes. -/
def bs (l : List UInt8) : ByteArray := ⟨l.toArray⟩
theorem bs_size (l : List UInt8) : (bs l).size = l.length := by simp [bs, ByteArray.size]
theorem bs_toList (l : List UInt8) : (bs l).toList = l := by simp [bs]
theorem bs_data (l : List UInt8) : (bs l).data.toList = l := by simp [bs]
theorem bs_append (a b : List UInt8) : bs a ++ bs b = bs (a ++ b) := ByteArray.mk_append_mk a b
theorem bs_of (s : ByteArray) : bs s.data.toList = s := by cases s; simp [bs]
theorem bs_ex (s : ByteArray) : ∃ l, s = bs l := ⟨s.data.toList, (bs_of s).symm⟩
theorem bs_inj {a b : List UInt8} (h : bs a = bs b) : a = b := by rw [← bs_data a, h, bs_data]
theorem bs_extract (l : List UInt8) (i j : Nat) : (bs l).extract i j = bs ((l.drop i).take (j - i)) := ByteArray.extract_mk l i j
theorem bs_getElem (l : List UInt8) (i : Nat) (h : i < (bs l).size) : (bs l)[i] = l[i]'(by rw [bs_size] at h; exact h) := by simp [bs, ByteArray.getElem_eq_getElem_data]

theorem run_add_bs {P : Program} (a b : List UInt8) (h : a.length + b.length ≤ 9223372036854775807) (W : World) : (Op.stringOp .add (bs a) (bs b)).run P W = .ok (.string (bs (a ++ b))) W := by
  rw [run_string_add_sum W (bs a) (bs b) (by rw [bs_size, bs_size]; exact h), bs_append]

/-- An array of n bytes that begins with these. -/
def arrV (n : Nat) (E : List UInt8) : Array Value := (E.map (fun b : UInt8 => Value.int .u8 b.toNat) ++ List.replicate (n - E.length) (Value.int .u8 0)).toArray
theorem arrV_at (n : Nat) (E : List UInt8) (i : Nat) (h : i < E.length) : (arrV n E)[i]? = some (.int .u8 (E[i].toNat : Int)) := by
  unfold arrV
  rw [List.getElem?_toArray, List.getElem?_append_left (by simpa using h), List.getElem?_map, List.getElem?_eq_getElem h]; rfl
theorem arrV_next (n : Nat) (E : List UInt8) (h : E.length < n) : (arrV n E)[E.length]? = some (.int .u8 0) := by
  unfold arrV
  rw [List.getElem?_toArray, List.getElem?_append_right (by simp), List.getElem?_replicate]; simp; omega
theorem arrV_set (n : Nat) (E : List UInt8) (h : E.length < n) (b : UInt8) : (arrV n E).setIfInBounds E.length (.int .u8 (b.toNat : Int)) = arrV n (E ++ [b]) := by
  obtain ⟨m, hm⟩ : ∃ m, n - E.length = m + 1 := ⟨n - E.length - 1, by omega⟩
  have hm' : n - (E ++ [b]).length = m := by simp; omega
  unfold arrV
  rw [hm, hm', List.replicate_succ, List.setIfInBounds_toArray]
  congr 1
  rw [List.set_append_right _ _ (by simp)]
  simp

/-- x[:h] of an array variable. -/
theorem run_sliceAt_h {P : Program} (t e : TypeId) (n s : Nat) (hu : P.underlying t = some (.array n e)) (hi : (P.info? e).map (·.size) = some s) (g h : Nat) (k : IntKind) (hh : h ≤ n) (w : World) :
    (Instr.sliceAt t (.pointer (some ⟨g, 0, none⟩)) none (some (.int k (h : Int))) none).run P w = .ok (.slice (some ⟨g, 0, none⟩) h n) w := by
  have ha : P.arrayLen t = n := by simp [Program.arrayLen, hu]
  have he : P.elem t = e := by simp [Program.elem, hu]
  have hu' : P.underlying t = some (.array (P.arrayLen t) (P.elem t)) := by rw [ha, he]; exact hu
  rw [run_sliceAt_array_h w t ⟨g, 0, none⟩ hu' k h (by omega) (by omega), ha, he]
  cases hq : P.info? e with
  | none => simp [hq] at hi
  | some i => simp [sizeOf, typeInfo, hq, slicedAt, Result.andThen, Addr.add]

theorem run_sliceAt_all {P : Program} (t e : TypeId) (n s : Nat) (hu : P.underlying t = some (.array n e)) (hi : (P.info? e).map (·.size) = some s) (g : Nat) (w : World) :
    (Instr.sliceAt t (.pointer (some ⟨g, 0, none⟩)) none none none).run P w = .ok (.slice (some ⟨g, 0, none⟩) n n) w := by
  have ha : P.arrayLen t = n := by simp [Program.arrayLen, hu]
  have he : P.elem t = e := by simp [Program.elem, hu]
  have hu' : P.underlying t = some (.array (P.arrayLen t) (P.elem t)) := by rw [ha, he]; exact hu
  rw [run_sliceAt_array_all w t ⟨g, 0, none⟩ hu', ha, he]
  cases hq : P.info? e with
  | none => simp [hq] at hi
  | some i => simp [sizeOf, typeInfo, hq, slicedAt, Result.andThen, Addr.add]

/-- string(b) of a row of bytes whose cells are known. -/
theorem run_conv_cells {P : Program} (src dst e : TypeId) (hs : P.underlying src = some (.slice e)) (he : P.underlying e = some (.int .u8)) (hd : P.underlying dst = some .string)
    (g off cap : Nat) (E : List UInt8) (w : World) (hc : ∀ i (h : i < E.length), w.cell? ⟨g, off + i, none⟩ = some (.int .u8 (E[i].toNat : Int))) :
    (convert src dst (.slice (some ⟨g, off, none⟩) E.length cap)).run P w = .ok (.string (bs E)) w := by
  have h := run_convert_bytes_arg (P := P) w src e hs he g off E.length cap (E.map fun b => (b.toNat : Int)) (by simp) (fun i hi => by
    rw [hc i hi]; simp [List.getD, hi]) dst hd
  rw [h]
  congr 2
  unfold strOfNums bs
  rw [List.map_map]
  congr 2
  conv => rhs; rw [← List.map_id E]
  apply List.map_congr_left
  intro b _
  simp

theorem run_conv_one {P : Program} (src dst e : TypeId) (hs : P.underlying src = some (.slice e)) (he : P.underlying e = some (.int .u8)) (hd : P.underlying dst = some .string)
    (g c : Nat) (x : Int) (b : UInt8) (hx : x = (b.toNat : Int)) (W : World) (hc : W.cell? ⟨g, 0, none⟩ = some (.int .u8 x)) :
    (convert src dst (.slice (some ⟨g, 0, none⟩) 1 c)).run P W = .ok (.string (bs [b])) W :=
  run_conv_cells src dst e hs he hd g 0 c [b] W fun i h => by
    obtain rfl : i = 0 := by simpa using h
    simpa [hx] using hc

theorem lt_alloc (w : World) (o : Obj) : w.heap.size < (w.alloc o).heap.size := by simp

theorem cell_new_arr (w : World) (cs : Array Value) (t : TypeId) (i : Nat) : (w.alloc (.cells cs t)).cell? ⟨w.heap.size, i, none⟩ = cs[i]? := World.cell?_alloc_new w cs t i

/-- string(b[:k]) of an array of bytes in the newest block. -/
theorem run_conv_arr {P : Program} (src dst e : TypeId) (hs : P.underlying src = some (.slice e)) (he : P.underlying e = some (.int .u8)) (hd : P.underlying dst = some .string)
    (n cap : Nat) (E : List UInt8) (t : TypeId) (w : World) :
    (convert src dst (.slice (some ⟨w.heap.size, 0, none⟩) E.length cap)).run P (w.alloc (.cells (arrV n E) t)) = .ok (.string (bs E)) (w.alloc (.cells (arrV n E) t)) :=
  run_conv_cells src dst e hs he hd w.heap.size 0 cap E _ fun i h => by
    rw [cell_new_arr, Nat.zero_add]; exact arrV_at n E i h

/-- Block g is just these cells, none frozen. -/
def Blk (w : World) (g : Nat) (t : TypeId) (cs : Array Value) : Prop := w.heap[g]? = some (.cells cs t (0, 0))
section
variable {w w' : World} {g : Nat} {t : TypeId} {cs : Array Value}
theorem Blk.lt (h : Blk w g t cs) : g < w.heap.size := by
  rcases Nat.lt_or_ge g w.heap.size with hlt | hge
  · exact hlt
  · unfold Blk at h; rw [Array.getElem?_eq_none hge] at h; cases h
theorem Blk.cell (h : Blk w g t cs) (i : Nat) : w.cell? ⟨g, i, none⟩ = cs[i]? := cell_of_row w g i cs t (0, 0) h
theorem Blk.frozen (h : Blk w g t cs) (i : Nat) : w.frozen? ⟨g, i, none⟩ = false := by
  unfold Blk at h
  simp [World.frozen?, h]
theorem Blk.new (w : World) (t : TypeId) (cs : Array Value) : Blk (w.alloc (.cells cs t)) w.heap.size t cs := heap_alloc_new w _
theorem Blk.drew (h : Blk w g t cs) : Blk w.drew g t cs := h
theorem Blk.drewN (h : Blk w g t cs) (n : Nat) : Blk (w.drewN n) g t cs := h
theorem Blk.alloc (h : Blk w g t cs) (o : Obj) : Blk (w.alloc o) g t cs := (Below.heap_alloc w o g h.lt).trans h
theorem Blk.set_ (h : Blk w g t cs) (i : Nat) (u : Value) : Blk (w.setCell ⟨g, i, none⟩ u) g t (cs.setIfInBounds i u) := by
  unfold Blk at h ⊢
  simp [World.setCell, Array.getElem?_modify, h]
theorem Blk.far (h : Blk w g t cs) {p : Addr} (hp : g ≠ p.block) (u : Value) : Blk (w.setCell p u) g t cs := (Below.heap_setCell w p u g hp).trans h
theorem Blk.below {B : Nat} (h : Blk w g t cs) (hb : Below B w w') (hg : g < B) : Blk w' g t cs := (hb.block g hg).trans h
theorem Blk.grown {row : Option Nat} (h : Blk w g t cs) (hb : w.grownBy w' row) (hg : some g ≠ row) : Blk w' g t cs := (hb.block g h.lt hg).trans h
end

/-- v is a slice of the call's own (from block base on) that holds just these bytes; e: the number of byte's type. -/
def OwnB (w : World) (base : Nat) (e : TypeId) (v : Value) (E : List UInt8) : Prop := OwnR w base e 1 v E.length (E.map fun b : UInt8 => Value.int .u8 b.toNat)
theorem OwnB.nil (w : World) (base : Nat) (e : TypeId) : OwnB w base e (.slice none 0 0) [] := OwnR.nil w base e 1
theorem OwnB.alloc {w : World} {base : Nat} {e : TypeId} {v : Value} {E : List UInt8} (h : OwnB w base e v E) (o : Obj) : OwnB (w.alloc o) base e v E := OwnR.alloc h o
theorem OwnB.form {w : World} {base : Nat} {e : TypeId} {v : Value} {E : List UInt8} (h : OwnB w base e v E) (hn : 0 < E.length) : ∃ g cap, v = .slice (some ⟨g, 0, none⟩) E.length cap ∧ base ≤ g ∧ g < w.heap.size := OwnR.form h hn

/-- append(b, x) of one byte, its element laid in the newest block. -/
theorem wpList_append_byte {P : Program} {w : World} {ops : Array Oper} {rest : List Oper} {o : Oper} {a : Act} {Q : Exit → Act → World → Prop} (hgd : o.guard = none) (s x : Operand) (t : TypeId)
    (ho : o.op = .call { callee := .builtin .append, args := #[s, x], argTypes := #[t, t] })
    (base : Nat) (e : TypeId) (ht : P.underlying t = some (.slice e)) (hi : (P.info? e).map (fun i => (i.zero, i.size, i.bytes)) = some (some (.int .u8 0), 1, 1))
    (v : Value) (E : List UInt8) (hs : a.eval s = v) (hown : OwnB w base e v E) (c : Nat) (y : Int) (b : UInt8) (hx : a.eval x = .slice (some ⟨w.heap.size, 0, none⟩) 1 c)
    (hy : y = (b.toNat : Int)) (hE : E.length + 1 ≤ 140737488355328) (hbase : base ≤ w.heap.size)
    (h : ∀ g cap w', OwnB w' base e (.slice (some ⟨g, 0, none⟩) (E.length + 1) cap) (E ++ [b]) → Below base w w' → wpList P ops Q rest (a.put o.dst (.slice (some ⟨g, 0, none⟩) (E.length + 1) cap)) w') :
    wpList P ops Q (o :: rest) a (w.alloc (.cells #[.int .u8 y] e)) := by
  obtain ⟨i0, hi0, hz0, hz1, hz2⟩ := info_parts hi
  refine wpList_append_oneR w hgd s x t ho base e i0 _ 1 1 ht hi0 hz0 hz1 hz2 rfl (by omega) v E.length _ hs hown c [.int .u8 y] hx rfl (by simp [Value.oneCell']) (by unfold maxLen; omega) (by omega) hbase ?_
  intro g cap w' h1 h2 _ _ _
  refine h g cap w' ?_ ((Below.refl base w).grown h2 hbase (fun k hk => (hown.lt k hk).1))
  unfold OwnB; simpa [hy] using h1

/-- string(b) of such a slice. -/
theorem run_conv_own {P : Program} (src dst e : TypeId) (hs : P.underlying src = some (.slice e)) (he : P.underlying e = some (.int .u8)) (hd : P.underlying dst = some .string)
    (w : World) (base g n cap : Nat) (E : List UInt8) (h : OwnB w base e (.slice (some ⟨g, 0, none⟩) n cap) E) (hn : n = E.length) :
    (convert src dst (.slice (some ⟨g, 0, none⟩) n cap)).run P w = .ok (.string (bs E)) w := by
  subst hn
  refine run_conv_cells src dst e hs he hd g 0 cap E w fun i hi => ?_
  have := OwnR.cellAt h i (by omega)
  rw [Nat.zero_add, this, List.getElem?_map, List.getElem?_eq_getElem hi]; rfl

/-- []byte(s) of a text that is a list. -/
theorem run_bytes_own {P : Program} (src dst e : TypeId) (hs : P.underlying src = some .string) (hd : P.underlying dst = some (.slice e)) (he : P.underlying e = some (.int .u8)) (w : World) (l : List UInt8) (hl : l.length ≤ maxLen)
    (base : Nat) (hbase : base ≤ w.heap.size) :
    ∃ cap w', (convert src dst (.string (bs l))).run P w = .ok (.slice (some ⟨w.heap.size, 0, none⟩) l.length cap) w' ∧ OwnB w' base e (.slice (some ⟨w.heap.size, 0, none⟩) l.length cap) l ∧ Below w.heap.size w w' := by
  obtain ⟨cap, w', h1, h2, h3⟩ := run_bytes_ofR w src dst e (bs l) hs hd he (by rw [bs_size]; exact hl) base hbase
  rw [bs_size] at h1 h2
  rw [bs_data] at h2
  exact ⟨cap, w', h1, h2, h3⟩
end Go.Proofs.YtgagcncmlonciaaGreatDoor
namespace Go.Proofs.YtgagcncmlonciaaGreatDoor.Num

def zigI (n : Int) : Int := if 0 ≤ n then 2 * n else -2 * n - 1
def zagI (n : Int) : Int := if n % 2 = 0 then n / 2 else -(n / 2) - 1
theorem zag_zig (n : Int) : zagI (zigI n) = n := by unfold zagI zigI; split <;> (split <;> omega)
theorem zig_zag (n : Int) (h : 0 ≤ n) : zigI (zagI n) = n := by unfold zagI zigI; split <;> (split <;> omega)
theorem zig_bd (n : Int) (h1 : -9223372036854775808 ≤ n) (h2 : n ≤ 9223372036854775807) : 0 ≤ zigI n ∧ zigI n < 18446744073709551616 := by
  unfold zigI; split <;> omega
theorem zag_bd (n : Int) (h1 : 0 ≤ n) (h2 : n < 18446744073709551616) : -9223372036854775808 ≤ zagI n ∧ zagI n ≤ 9223372036854775807 := by
  unfold zagI; split <;> omega

def smallF : Nat → Nat → List UInt8
  | 0, n => [UInt8.ofNat n]
  | f + 1, n => if n < 128 then [UInt8.ofNat n] else UInt8.ofNat (n % 128 + 128) :: smallF f (n / 128)
def small (n : Nat) : List UInt8 := smallF 9 n
def text (t : List UInt8) : List UInt8 := small t.length ++ t
def wideF : Nat → Nat → List UInt8
  | 0, _ => []
  | k + 1, n => UInt8.ofNat (n % 256) :: wideF k (n / 256)
def wide (n : Nat) : List UInt8 := wideF 8 n
def szI (k : Int) : Int := min (max k 0) 255
def szN (k : Int) : Nat := (szI k).toNat
def fixed (t : List UInt8) (k : Int) : List UInt8 :=
  t.take (szN k) ++ List.replicate (szN k - (t.take (szN k)).length) 0 ++ [UInt8.ofNat (t.take (szN k)).length]

def gsF : Nat → Nat → Nat → List UInt8 → Option (Nat × Nat)
  | 0, _, _, _ => none
  | _ + 1, _, _, [] => none
  | f + 1, i, n, b :: r =>
    if (i = 9 ∧ 1 < b.toNat) ∨ (0 < i ∧ b.toNat = 0) then none
    else if b.toNat < 128 then some (n + b.toNat * 128 ^ i, i + 1)
    else gsF f (i + 1) (n + (b.toNat - 128) * 128 ^ i) r
def getSmall (l : List UInt8) : Option (Nat × Nat) := gsF 10 0 0 l
def unw : List UInt8 → Nat
  | [] => 0
  | b :: r => b.toNat + 256 * unw r
def getWide (l : List UInt8) : Option (Nat × Nat) := if l.length < 8 then none else some (unw (l.take 8), 8)
def getText (l : List UInt8) (most : Int) : Option (List UInt8 × Nat) :=
  match getSmall l with
  | none => none
  | some (n, k) => if most < 0 ∨ l.length - k < n ∨ most.toNat < n then none else some ((l.drop k).take n, k + n)
def getFixed (l : List UInt8) (k : Int) : Option (List UInt8 × Nat) :=
  match l[szN k]? with
  | none => none
  | some b => if szN k < b.toNat ∨ ((l.take (szN k)).drop b.toNat).all (· == 0) = false then none else some (l.take b.toNat, szN k + 1)
def getTake (l : List UInt8) (n : Int) : Option (List UInt8 × Nat) := if n < 0 ∨ (l.length : Int) < n then none else some (l.take n.toNat, n.toNat)

/-- What a cursor answers, and what it is then. -/
def ans {α : Type} (z : α) (c : List UInt8 × Bool) (g : Option (α × Nat)) : α := if c.2 then z else match g with | none => z | some (v, _) => v
def nxt {α : Type} (c : List UInt8 × Bool) (g : Option (α × Nat)) : List UInt8 × Bool := if c.2 then c else match g with | none => (c.1, true) | some (_, n) => (c.1.drop n, false)

theorem szN_le (k : Int) : szN k ≤ 255 := by unfold szN szI; omega
theorem ofNat_toNat (n : Nat) (h : n < 256) : (UInt8.ofNat n).toNat = n := by simp; omega

theorem smallF_len (f n : Nat) : 1 ≤ (smallF f n).length ∧ (smallF f n).length ≤ f + 1 := by
  induction f generalizing n with
  | zero => simp [smallF]
  | succ f ih =>
    unfold smallF; split
    · simp
    · have := ih (n / 128); simp only [List.length_cons]; omega
theorem small_len (n : Nat) : 1 ≤ (small n).length ∧ (small n).length ≤ 10 := smallF_len 9 n
theorem smallF_mono (f a b : Nat) (h : a ≤ b) : (smallF f a).length ≤ (smallF f b).length := by
  induction f generalizing a b with
  | zero => simp [smallF]
  | succ f ih =>
    unfold smallF
    by_cases hb : b < 128
    · rw [if_pos hb, if_pos (by omega)]; simp
    · rw [if_neg hb]; split
      · simp
      · have := ih (a / 128) (b / 128) (Nat.div_le_div_right h); simp only [List.length_cons]; omega
theorem small_mono (a b : Nat) (h : a ≤ b) : (small a).length ≤ (small b).length := smallF_mono 9 a b h
theorem wideF_len (k n : Nat) : (wideF k n).length = k := by
  induction k generalizing n with
  | zero => rfl
  | succ k ih => simp [wideF, ih]
theorem wide_len (n : Nat) : (wide n).length = 8 := wideF_len 8 n
theorem fixed_len (t : List UInt8) (k : Int) : (fixed t k).length = szN k + 1 := by
  unfold fixed; simp; omega

theorem p128 (i : Nat) : 128 ^ (i + 1) = 128 * 128 ^ i := by rw [Nat.pow_succ, Nat.mul_comm]

/-- What is written is read again. -/
theorem gsF_smallF (f i n acc : Nat) (rest : List UInt8) (hi : i + f = 9) (hn : n * 128 ^ i < 18446744073709551616) (h0 : 0 < i → 0 < n) :
    gsF (f + 1) i acc (smallF f n ++ rest) = some (acc + n * 128 ^ i, i + (smallF f n).length) := by
  induction f generalizing i n acc with
  | zero =>
    obtain rfl : i = 9 := by omega
    have h2 : n < 2 := by
      rcases Nat.lt_or_ge n 2 with h | h
      · exact h
      · have := Nat.mul_le_mul_right (128 ^ 9) h; omega
    have hb : (UInt8.ofNat n).toNat = n := ofNat_toNat n (by omega)
    simp only [smallF, List.cons_append, List.nil_append, gsF, hb]
    have := h0 (by omega)
    rw [if_neg (by omega), if_pos (by omega)]; rfl
  | succ f ih =>
    unfold smallF
    by_cases h : n < 128
    · have hb : (UInt8.ofNat n).toNat = n := ofNat_toNat n (by omega)
      rw [if_pos h]
      simp only [List.cons_append, List.nil_append, gsF, hb]
      rw [if_neg (by rintro (⟨h1, _⟩ | ⟨h1, h2⟩); omega; have := h0 h1; omega), if_pos h]; rfl
    · have hb : (UInt8.ofNat (n % 128 + 128)).toNat = n % 128 + 128 := ofNat_toNat _ (by omega)
      rw [if_neg h]
      simp only [List.cons_append, gsF, hb]
      rw [if_neg (by omega), if_neg (by omega)]
      have hle : n / 128 * 128 ^ (i + 1) ≤ n * 128 ^ i := by
        rw [p128, ← Nat.mul_assoc]; exact Nat.mul_le_mul_right _ (Nat.div_mul_le_self n 128)
      rw [ih (i + 1) (n / 128) _ (by omega) (by omega) (by omega)]
      have e : n * 128 ^ i = (n % 128) * 128 ^ i + n / 128 * 128 ^ (i + 1) := by
        rw [p128, ← Nat.mul_assoc, ← Nat.add_mul]
        have := Nat.div_add_mod n 128
        rw [Nat.mul_comm (n / 128) 128, Nat.add_comm, this]
      simp only [List.length_cons, Nat.add_sub_cancel]
      rw [e]
      congr 2 <;> omega
theorem getSmall_small (n : Nat) (h : n < 18446744073709551616) (rest : List UInt8) : getSmall (small n ++ rest) = some (n, (small n).length) := by
  have := gsF_smallF 9 0 n 0 rest (by omega) (by simpa using h) (by omega)
  simpa [getSmall, small] using this

/-- Nothing else is read. -/
theorem gsF_only (f i acc : Nat) (l : List UInt8) (v k : Nat) (hi : i + f = 9) (h : gsF (f + 1) i acc l = some (v, k)) :
    ∃ m, v = acc + m * 128 ^ i ∧ (0 < i → 0 < m) ∧ m < 2 * 128 ^ f ∧ k = i + (smallF f m).length ∧ ∃ r, l = smallF f m ++ r := by
  induction f generalizing i acc l with
  | zero =>
    obtain rfl : i = 9 := by omega
    cases l with
    | nil => simp [gsF] at h
    | cons b r =>
      simp only [gsF] at h
      split at h
      · cases h
      · rename_i h1
        have h1' : b.toNat ≤ 1 ∧ b.toNat ≠ 0 := by
          have h2 : ¬ 1 < b.toNat := fun h => h1 (.inl ⟨trivial, h⟩)
          have h3 : ¬ b.toNat = 0 := fun h => h1 (.inr ⟨by omega, h⟩)
          omega
        rw [if_pos (by omega)] at h
        simp only [Option.some.injEq, Prod.mk.injEq] at h
        refine ⟨b.toNat, h.1.symm, by omega, by omega, by simp [smallF]; omega, r, by simp [smallF]⟩
  | succ f ih =>
    cases l with
    | nil => simp [gsF] at h
    | cons b r =>
      rw [gsF] at h
      split at h
      · cases h
      · rename_i h1
        split at h
        · rename_i h2
          simp only [Option.some.injEq, Prod.mk.injEq] at h
          have hp : 0 < 128 ^ f := Nat.pow_pos (by omega)
          refine ⟨b.toNat, h.1.symm, by omega, by rw [p128]; omega, ?_, r, ?_⟩
          · unfold smallF; rw [if_pos h2]; simp; omega
          · unfold smallF; rw [if_pos h2]; simp
        · rename_i h2
          obtain ⟨m, hv, hm0, hm, hk, r', hr⟩ := ih (i + 1) _ r (by omega) h
          have hm1 := hm0 (by omega)
          have hbl : b.toNat < 256 := UInt8.toNat_lt b
          have e1 : (m * 128 + (b.toNat - 128)) / 128 = m := by omega
          have e2 : (m * 128 + (b.toNat - 128)) % 128 = b.toNat - 128 := by omega
          refine ⟨m * 128 + (b.toNat - 128), ?_, by omega, by rw [p128]; omega, ?_, r', ?_⟩
          · rw [hv, p128, Nat.add_mul, ← Nat.mul_assoc]; omega
          · unfold smallF; rw [if_neg (by omega), e1, hk]; simp only [List.length_cons]; omega
          · unfold smallF; rw [if_neg (by omega), e1, e2, hr]
            have : b.toNat - 128 + 128 = b.toNat := by omega
            rw [this]; simp
theorem getSmall_only (l : List UInt8) (v k : Nat) (h : getSmall l = some (v, k)) : v < 18446744073709551616 ∧ k = (small v).length ∧ l = small v ++ l.drop k := by
  obtain ⟨m, hv, _, hm, hk, r, hr⟩ := gsF_only 9 0 0 l v k (by omega) h
  have e : v = m := by rw [hv]; simp
  subst e
  have hk' : k = (smallF 9 v).length := by rw [hk]; omega
  refine ⟨by simpa using hm, hk', ?_⟩
  rw [hk']
  conv => rhs; rw [hr]
  rw [hr]
  simp [small]

theorem unw_lt (l : List UInt8) : unw l < 256 ^ l.length := by
  induction l with
  | nil => simp [unw]
  | cons b r ih =>
    have hbl : b.toNat < 256 := UInt8.toNat_lt b
    simp only [unw, List.length_cons, Nat.pow_succ]; omega
theorem unw_wideF (k n : Nat) (h : n < 256 ^ k) : unw (wideF k n) = n := by
  induction k generalizing n with
  | zero => simp [wideF, unw] at *; omega
  | succ k ih =>
    rw [Nat.pow_succ] at h
    have := ih (n / 256) (by omega)
    simp only [wideF, unw, this]
    rw [ofNat_toNat _ (by omega)]; omega
theorem wideF_unw (l : List UInt8) : wideF l.length (unw l) = l := by
  induction l with
  | nil => rfl
  | cons b r ih =>
    have hbl : b.toNat < 256 := UInt8.toNat_lt b
    have e1 : (b.toNat + 256 * unw r) % 256 = b.toNat := by omega
    have e2 : (b.toNat + 256 * unw r) / 256 = unw r := by omega
    simp only [List.length_cons, wideF, unw, e1, e2, ih]
    simp
end Go.Proofs.YtgagcncmlonciaaGreatDoor.Num
namespace Go.Proofs.YtgagcncmlonciaaGreatDoor.Num

theorem getWide_wide (n : Nat) (h : n < 18446744073709551616) (r : List UInt8) : getWide (wide n ++ r) = some (n, 8) := by
  unfold getWide
  rw [if_neg (by simp [wide_len]), List.take_append_of_le_length (by simp [wide_len]), List.take_of_length_le (by simp [wide_len])]
  unfold wide
  rw [unw_wideF 8 n (by simpa using h)]
theorem getWide_only (l : List UInt8) (v k : Nat) (h : getWide l = some (v, k)) : v < 18446744073709551616 ∧ k = 8 ∧ l = wide v ++ l.drop 8 := by
  unfold getWide at h
  split at h
  · cases h
  · rename_i h8
    simp only [Option.some.injEq, Prod.mk.injEq] at h
    have hl : (l.take 8).length = 8 := by simp; omega
    have hlt := unw_lt (l.take 8)
    rw [hl] at hlt
    refine ⟨by rw [← h.1]; simpa using hlt, h.2.symm, ?_⟩
    have := wideF_unw (l.take 8)
    rw [hl] at this
    rw [← h.1]
    unfold wide
    rw [this, List.take_append_drop]
theorem text_len (t : List UInt8) : (text t).length = (small t.length).length + t.length := by simp [text]
theorem getText_text (t : List UInt8) (m : Int) (h : (t.length : Int) ≤ m) (hl : t.length < 18446744073709551616) (r : List UInt8) : getText (text t ++ r) m = some (t, (text t).length) := by
  unfold getText text
  rw [List.append_assoc, getSmall_small t.length hl]
  simp only []
  rw [if_neg (by simp; omega)]
  simp
theorem getText_only (l : List UInt8) (m : Int) (t : List UInt8) (k : Nat) (h : getText l m = some (t, k)) : (t.length : Int) ≤ m ∧ l = text t ++ l.drop k := by
  unfold getText at h
  cases hg : getSmall l with
  | none => rw [hg] at h; cases h
  | some x =>
    obtain ⟨n, j⟩ := x
    obtain ⟨h1, h2, h3⟩ := getSmall_only l n j hg
    rw [hg] at h
    simp only [] at h
    split at h
    · cases h
    · rename_i hc
      simp only [Option.some.injEq, Prod.mk.injEq] at h
      have hlen : t.length = n := by rw [← h.1]; simp; omega
      refine ⟨by omega, ?_⟩
      unfold text
      rw [hlen, ← h.1, ← h.2, List.append_assoc]
      conv => lhs; rw [h3]
      congr 1
      rw [← List.drop_drop, List.take_append_drop]
theorem fixed_at (t : List UInt8) (k : Int) (r : List UInt8) : (fixed t k ++ r)[szN k]? = some (UInt8.ofNat (t.take (szN k)).length) := by
  unfold fixed
  rw [List.append_assoc, List.getElem?_append_right (by simp; omega)]
  simp
  rw [show szN k - (min (szN k) t.length + (szN k - min (szN k) t.length)) = 0 from by omega]
  simp
theorem getFixed_fixed (t : List UInt8) (k : Int) (r : List UInt8) : getFixed (fixed t k ++ r) k = some (t.take (szN k), szN k + 1) := by
  have h255 := szN_le k
  have hb : (UInt8.ofNat (t.take (szN k)).length).toNat = (t.take (szN k)).length := ofNat_toNat _ (by simp; omega)
  have hle : (t.take (szN k)).length ≤ szN k := by simp; omega
  have hz : ((fixed t k ++ r).take (szN k)).drop (t.take (szN k)).length = List.replicate (szN k - (t.take (szN k)).length) 0 := by
    unfold fixed
    rw [List.append_assoc, List.take_left' (by rw [List.length_append, List.length_replicate]; omega), List.drop_left]
  have hp : (fixed t k ++ r).take (t.take (szN k)).length = t.take (szN k) := by
    unfold fixed
    rw [List.append_assoc, List.append_assoc, List.take_left]
  unfold getFixed
  rw [fixed_at]
  simp only [hb]
  rw [if_neg (by rw [hz]; simp; omega), hp]
theorem getFixed_only (l : List UInt8) (k : Int) (t : List UInt8) (j : Nat) (h : getFixed l k = some (t, j)) : l = fixed t k ++ l.drop j := by
  unfold getFixed at h
  cases hg : l[szN k]? with
  | none => rw [hg] at h; cases h
  | some b =>
    rw [hg] at h
    simp only [] at h
    obtain ⟨hlt, hb⟩ := List.getElem?_eq_some_iff.1 hg
    split at h
    · cases h
    · rename_i hc
      simp only [Option.some.injEq, Prod.mk.injEq] at h
      have hbk : b.toNat ≤ szN k := by
        rcases Nat.lt_or_ge (szN k) b.toNat with h' | h'
        · exact absurd (.inl h') hc
        · exact h'
      have hall : ((l.take (szN k)).drop b.toNat).all (· == 0) = true := by
        cases h' : ((l.take (szN k)).drop b.toNat).all (· == 0) with
        | true => rfl
        | false => exact absurd (.inr h') hc
      have htl : t.length = b.toNat := by rw [← h.1]; simp; omega
      have hrep : (l.take (szN k)).drop b.toNat = List.replicate (szN k - b.toNat) 0 := by
        rw [List.eq_replicate_iff]
        refine ⟨by simp; omega, fun x hx => ?_⟩
        have := List.all_eq_true.1 hall x hx
        simpa using this
      have htake : t.take (szN k) = t := List.take_of_length_le (by omega)
      unfold fixed
      rw [htake, htl, ← hrep, ← h.1, ← h.2]
      have e1 : l.take (szN k) = l.take b.toNat ++ (l.take (szN k)).drop b.toNat := by
        conv => lhs; rw [← List.take_append_drop b.toNat (l.take (szN k))]
        rw [List.take_take, Nat.min_eq_left hbk]
      have e2 : l.drop (szN k) = b :: l.drop (szN k + 1) := by rw [List.drop_eq_getElem_cons hlt, hb]
      conv => lhs; rw [← List.take_append_drop (szN k) l, e2, e1]
      simp
theorem getTake_some (l : List UInt8) (n : Nat) (h : n ≤ l.length) : getTake l n = some (l.take n, n) := by
  unfold getTake; rw [if_neg (by omega), Int.toNat_natCast]
end Go.Proofs.YtgagcncmlonciaaGreatDoor.Num
namespace Go.Proofs.YtgagcncmlonciaaGreatDoor
open Go.RowKit

theorem ret_int {k : IntKind} {a b : Int} (h : a = b) : Ending.returned (.int k a) = .returned (.int k b) := by rw [h]

set_option maxHeartbeats 400000 in
theorem num_size_any (n : Int) (w : World) (h1 : -9223372036854775808 ≤ n) (h2 : n ≤ 9223372036854775807) :
    Calls Tryz.prog 282 #[.int .i64 n] w fun e w' => e = .returned (.int .i64 (Num.szI n)) ∧ w = w' := by
  by_cases h0 : n < 0
  · have hb : Hid (0 = Num.szI n) := by show _ = _; unfold Num.szI; omega
    go_enter Tryz.func282, Tryz.ntmps282
    go_wp2
    go_ret
    exact ⟨ret_int hb.out, rfl⟩
  · have h0' : 0 ≤ n := by omega
    clear h0
    by_cases h5 : 255 < n
    · have hb : Hid (255 = Num.szI n) := by show _ = _; unfold Num.szI; omega
      go_enter Tryz.func282, Tryz.ntmps282
      go_wp2
      go_ret
      exact ⟨ret_int hb.out, rfl⟩
    · have hb : Hid (n = Num.szI n) := by show _ = _; unfold Num.szI; omega
      go_enter Tryz.func282, Tryz.ntmps282
      go_wp2
      go_ret
      exact ⟨ret_int hb.out, rfl⟩

theorem not_nat (a : Nat) (h : a < 18446744073709551616) : a ^^^ 18446744073709551615 = 18446744073709551615 - a := by
  have e : (BitVec.ofNat 64 a ^^^ BitVec.allOnes 64).toNat = (~~~ BitVec.ofNat 64 a).toNat := by rw [BitVec.xor_allOnes]
  rw [BitVec.toNat_xor, BitVec.toNat_not, BitVec.toNat_allOnes, BitVec.toNat_ofNat, Nat.mod_eq_of_lt (by simpa using h)] at e
  simpa using e
theorem zig_bits (n : Int) (h1 : -9223372036854775808 ≤ n) (h2 : n ≤ 9223372036854775807) :
    bits BinOp.xor IntKind.u64 (IntKind.u64.wrap (IntKind.u64.wrap n * 2)) (IntKind.u64.wrap (n / 9223372036854775808)) = Num.zigI n := by
  have w (x : Int) : IntKind.u64.wrap x = x % 18446744073709551616 := by simp [IntKind.wrap, IntKind.bits, IntKind.signed]
  rw [u64_xor _ _ (by rw [w]; omega) (by rw [w]; omega) (by rw [w]; omega) (by rw [w]; omega)]
  simp only [w]
  unfold Num.zigI
  by_cases h : 0 ≤ n
  · have e : n / 9223372036854775808 = 0 := by omega
    rw [if_pos h, e]
    simp; omega
  · have e : n / 9223372036854775808 % 18446744073709551616 = 18446744073709551615 := by omega
    rw [if_neg h, e]
    have e2 : (18446744073709551615 : Int).toNat = 18446744073709551615 := rfl
    rw [e2, not_nat _ (by omega)]
    omega

set_option maxHeartbeats 400000 in
theorem num_Zig_any (n : Int) (w : World) (h1 : -9223372036854775808 ≤ n) (h2 : n ≤ 9223372036854775807) :
    Calls Tryz.prog 84 #[.int .i64 n] w fun e w' => e = .returned (.int .u64 (Num.zigI n)) ∧ w = w' := by
  have hb := Lib.hid (zig_bits n h1 h2)
  go_enter Tryz.func84, Tryz.ntmps84
  go_wp2
  go_ret
  exact ⟨ret_int hb.out, rfl⟩

theorem zag_bits (n : Int) (h1 : 0 ≤ n) (h2 : n < 18446744073709551616) :
    bits BinOp.xor IntKind.i64 (n / 2) (wrap64 (-wrap64 (bits BinOp.and IntKind.u64 n 1))) = Num.zagI n := by
  have e1 : bits BinOp.and IntKind.u64 n 1 = n % 2 := by
    rw [u64_and _ _ h1 h2 (by omega) (by omega), show (1 : Int).toNat = 1 from rfl, nat_mask1]; omega
  rw [e1]
  have hx : (BitVec.ofInt 64 (n / 2)).toNat = (n / 2).toNat := by
    rw [BitVec.toNat_ofInt]; simp; omega
  unfold Num.zagI
  by_cases h : n % 2 = 0
  · rw [if_pos h, h]
    have e2 : wrap64 (-wrap64 0) = 0 := by decide +kernel
    rw [e2]
    show IntKind.i64.wrap ((BitVec.ofInt 64 (n / 2) ^^^ BitVec.ofInt 64 0).toNat : Int) = _
    rw [show BitVec.ofInt 64 0 = 0#64 from by decide, BitVec.xor_zero, hx, IntKind.wrap_i64]
    omega
  · have h' : n % 2 = 1 := by omega
    rw [if_neg h, h']
    have e2 : wrap64 (-wrap64 1) = -1 := by decide +kernel
    rw [e2]
    show IntKind.i64.wrap ((BitVec.ofInt 64 (n / 2) ^^^ BitVec.ofInt 64 (-1)).toNat : Int) = _
    rw [show BitVec.ofInt 64 (-1) = BitVec.allOnes 64 from by decide, BitVec.xor_allOnes, BitVec.toNat_not, hx, IntKind.wrap_i64]
    simp
    omega

set_option maxHeartbeats 400000 in
theorem num_Zag_any (n : Int) (w : World) (h1 : 0 ≤ n) (h2 : n < 18446744073709551616) :
    Calls Tryz.prog 114 #[.int .u64 n] w fun e w' => e = .returned (.int .i64 (Num.zagI n)) ∧ w = w' := by
  have hb := Lib.hid (zag_bits n h1 h2)
  go_enter Tryz.func114, Tryz.ntmps114
  go_wp2
  go_ret
  exact ⟨ret_int hb.out, rfl⟩

end Go.Proofs.YtgagcncmlonciaaGreatDoor
namespace Go.Proofs.YtgagcncmlonciaaGreatDoor
open Go.RowKit

theorem or128 (m : Int) (h0 : 0 ≤ m) : bits BinOp.or IntKind.u8 (m % 256) 128 = (((UInt8.ofNat (m.toNat % 128 + 128)).toNat : Nat) : Int) := by
  rw [u8_or _ _ (by omega) (by omega) (by omega) (by omega), Num.ofNat_toNat _ (by omega), show (128 : Int).toNat = 128 from rfl]
  have e : ∀ x : Fin 256, x.val ||| 128 = x.val % 128 + 128 := by decide +kernel
  have h := e ⟨(m % 256).toNat, by omega⟩
  simp only at h
  rw [h]
  congr 1
  omega

def SmallRel (n : Int) (w : World) (vn vi : Value) (wr : World) : Prop :=
  ∃ (k : Nat) (m : Int) (E : List UInt8), vi = .int .i64 (k : Nat) ∧ vn = .int .u64 m ∧ E.length = k ∧ k ≤ 9 ∧ 0 ≤ m ∧ m < 18446744073709551616 ∧ m.toNat < 128 ^ (10 - k) ∧
    Num.small n.toNat = E ++ Num.smallF (9 - k) m.toNat ∧ wr = w.alloc (.cells (arrV 10 E) 253)

theorem SmallRel.next {n : Int} {w : World} {k : Nat} {m : Int} {E : List UInt8} (hk : E.length = k) (hk9 : k ≤ 9) (hm0 : 0 ≤ m) (hm : m < 18446744073709551616) (hp : m.toNat < 128 ^ (10 - k))
    (he : Num.small n.toNat = E ++ Num.smallF (9 - k) m.toNat) (hlt : 128 ≤ m) (wr : World)
    (hw : wr = w.alloc (.cells ((arrV 10 E).setIfInBounds k (.int .u8 (bits BinOp.or IntKind.u8 (m % 256) 128))) 253)) :
    k + 1 ≤ 9 ∧ SmallRel n w (.int .u64 (m / 128)) (.int .i64 ((k : Int) + 1)) wr := by
  have hk8 : k ≤ 8 := by
    rcases Nat.lt_or_ge k 9 with h | h
    · omega
    · obtain rfl : k = 9 := by omega
      simp at hp; omega
  refine ⟨by omega, k + 1, m / 128, E ++ [UInt8.ofNat (m.toNat % 128 + 128)], by simp, rfl, by simp [hk], by omega, by omega, by omega, ?_, ?_, ?_⟩
  · have e : 10 - k = 10 - (k + 1) + 1 := by omega
    rw [e, Num.p128] at hp
    have : (m / 128).toNat = m.toNat / 128 := by omega
    omega
  · have e : 9 - k = 9 - (k + 1) + 1 := by omega
    rw [he, e, Num.smallF, if_neg (by omega)]
    have : (m / 128).toNat = m.toNat / 128 := by omega
    simp [this]
  · rw [hw, or128 m hm0]
    subst hk
    rw [arrV_set 10 E (by omega)]

theorem small_done {n m : Int} {k : Nat} {E : List UInt8} (hm0 : 0 ≤ m) (he : Num.small n.toNat = E ++ Num.smallF (9 - k) m.toNat) (hlt : m < 128) : E ++ [UInt8.ofNat m.toNat] = Num.small n.toNat := by
  rw [he]
  congr 1
  cases 9 - k with
  | zero => simp [Num.smallF]
  | succ f => rw [Num.smallF, if_pos (by omega)]

set_option maxRecDepth 100000 in
set_option maxHeartbeats 400000 in
theorem num_Small_any (n : Int) (w : World) (h1 : 0 ≤ n) (h2 : n < 18446744073709551616) :
    Calls Tryz.prog 83 #[.int .u64 n] w fun e w' => e = .returned (.string (bs (Num.small n.toNat))) ∧ Below w.heap.size w w' := by
  go_enter Tryz.func83, Tryz.ntmps83
  go_wp2
  go_loopw [0, 4] (fun vn vi wr => SmallRel n w vn vi wr) (fun _ vi _ => 10 - (intOf vi).toNat)
  case atStart =>
    exact ⟨0, n, [], rfl, rfl, rfl, by omega, h1, h2, by simp; omega, by simp [Num.small], rfl⟩
  case round =>
    obtain ⟨k, m, E, rfl, rfl, hk, hk9, hm0, hm, hp, he, rfl⟩ := hrel
    by_cases hlt : 128 ≤ m
    · have hn := Lib.hid (fun wr hw => SmallRel.next (w := w) hk hk9 hm0 hm hp he hlt wr hw)
      have ha : (arrV 10 E)[k]? = some (.int .u8 0) := by rw [← hk]; exact arrV_next 10 E (by omega)
      clear hk hp he
      go_wp2
      go_roundw
      case rel => exact (hn.out _ rfl).2
      case measure => have := (hn.out _ rfl).1; simp [intOf]; omega
    · have hlt' : m < 128 := by omega
      have hd := Lib.hid (small_done hm0 he hlt')
      have ha : (arrV 10 E)[k]? = some (.int .u8 0) := by rw [← hk]; exact arrV_next 10 E (by omega)
      have hset : (arrV 10 E).setIfInBounds k (.int .u8 m) = arrV 10 (E ++ [UInt8.ofNat m.toNat]) := by
        have := arrV_set 10 E (by omega) (UInt8.ofNat m.toNat)
        rw [Num.ofNat_toNat _ (by omega), hk, Int.toNat_of_nonneg hm0] at this; exact this
      have hs := fun W => run_sliceAt_h (P := Tryz.prog) 253 5 10 1 Tryz.underlying253 (by kernel_rfl) w.heap.size (k + 1) .i64 (by omega) W
      have hc := run_conv_arr (P := Tryz.prog) 93 9 5 Tryz.underlying93 Tryz.underlying5 Tryz.underlying9 10 10 (E ++ [UInt8.ofNat m.toNat]) 253 w
      have hl : (E ++ [UInt8.ofNat m.toNat]).length = k + 1 := by simp [hk]
      rw [hl] at hc
      rw [hd.out] at hc hset
      clear hk hp he hl hlt
      simp only [Int.natCast_add, Int.cast_ofNat_Int] at hs
      go_wp2
      go_ret
      exact ⟨rfl, (Below.refl _ _).alloc (Nat.le_refl _) _⟩

theorem u8_info : (Tryz.prog.info? 5).map (fun i => (i.zero, i.size, i.bytes)) = some (some (.int .u8 0), 1, 1) := by kernel_rfl

def RSmallRel (n : Int) (w : World) (vn vb : Value) (wr : World) : Prop :=
  ∃ (m : Int) (E : List UInt8), vn = .int .u64 m ∧ OwnB wr w.heap.size 5 vb E ∧ Below w.heap.size w wr ∧ E.length ≤ 9 ∧ 0 ≤ m ∧ m < 18446744073709551616 ∧ m.toNat < 128 ^ (10 - E.length) ∧
    Num.small n.toNat = E ++ Num.smallF (9 - E.length) m.toNat

theorem RSmallRel.next {n : Int} {w : World} {m : Int} {E : List UInt8} (hk9 : E.length ≤ 9) (hm0 : 0 ≤ m) (hm : m < 18446744073709551616) (hp : m.toNat < 128 ^ (10 - E.length))
    (he : Num.small n.toNat = E ++ Num.smallF (9 - E.length) m.toNat) (hlt : 127 < m) (v : Value) (wr : World)
    (ho : OwnB wr w.heap.size 5 v (E ++ [UInt8.ofNat (m.toNat % 128 + 128)])) (hb : Below w.heap.size w wr) : RSmallRel n w (.int .u64 (m / 128)) v wr := by
  have hk8 : E.length ≤ 8 := by
    rcases Nat.lt_or_ge E.length 9 with h | h
    · omega
    · have h9 : E.length = 9 := by omega
      rw [h9] at hp
      simp at hp; omega
  have hl : (E ++ [UInt8.ofNat (m.toNat % 128 + 128)]).length = E.length + 1 := by simp
  have hd : (m / 128).toNat = m.toNat / 128 := by omega
  refine ⟨m / 128, _, rfl, ho, hb, by omega, by omega, by omega, ?_, ?_⟩
  · have e : 10 - E.length = 10 - (E.length + 1) + 1 := by omega
    rw [e, Num.p128] at hp
    rw [hl]
    omega
  · have e : 9 - E.length = 9 - (E.length + 1) + 1 := by omega
    rw [he, e, Num.smallF, if_neg (by omega), hl, hd]
    simp

end Go.Proofs.YtgagcncmlonciaaGreatDoor
namespace Go.Proofs.YtgagcncmlonciaaGreatDoor
open Go.RowKit

theorem wideF_snoc (k n : Nat) : Num.wideF (k + 1) n = Num.wideF k n ++ [UInt8.ofNat (n / 256 ^ k % 256)] := by
  induction k generalizing n with
  | zero => simp [Num.wideF]
  | succ k ih =>
    rw [Num.wideF, ih (n / 256)]
    simp only [Num.wideF, List.cons_append, Nat.div_div_eq_div_mul]
    rw [Nat.pow_succ, Nat.mul_comm 256]

theorem pow8 (n : Int) (h : 0 ≤ n) (k : Nat) : n / 2 ^ (8 * k) % 256 = ((n.toNat / 256 ^ k % 256 : Nat) : Int) := by
  obtain ⟨m, rfl⟩ := Int.eq_ofNat_of_zero_le h
  have e : (2 : Int) ^ (8 * k) = ((256 ^ k : Nat) : Int) := by
    rw [show (256 : Nat) ^ k = 2 ^ (8 * k) from by rw [Nat.pow_mul]]
    simp
  rw [Int.toNat_natCast, e, Int.natCast_emod, Int.natCast_ediv]
  rfl

def WideRel (n : Int) (w : World) (vi : Value) (wr : World) : Prop :=
  ∃ (k : Nat), vi = .int .i64 (k : Nat) ∧ k ≤ 8 ∧ wr = w.alloc (.cells (arrV 8 (Num.wideF k n.toNat)) 292)

set_option maxRecDepth 100000 in
set_option maxHeartbeats 400000 in
theorem num_Wide_any (n : Int) (w : World) (h1 : 0 ≤ n) (_h2 : n < 18446744073709551616) :
    Calls Tryz.prog 127 #[.int .u64 n] w fun e w' => e = .returned (.string (bs (Num.wide n.toNat))) ∧ Below w.heap.size w w' := by
  go_enter Tryz.func127, Tryz.ntmps127
  go_wp2
  go_loopw [5] (fun vi wr => WideRel n w vi wr) (fun vi _ => 10 - (intOf vi).toNat)
  case atStart => exact ⟨0, rfl, by omega, rfl⟩
  case round =>
    obtain ⟨k, rfl, hk8, rfl⟩ := hrel
    by_cases hlt : k < 8
    · have ha : (arrV 8 (Num.wideF k n.toNat))[k]? = some (.int .u8 0) := by
        have := arrV_next 8 (Num.wideF k n.toNat) (by rw [Num.wideF_len]; omega)
        rw [Num.wideF_len] at this; exact this
      have hset : Hid (∀ wr, wr = w.alloc (.cells ((arrV 8 (Num.wideF k n.toNat)).setIfInBounds k (.int .u8 (n / 2 ^ (8 * k) % 256))) 292) → WideRel n w (.int .i64 ((k : Int) + 1)) wr) := by
        rintro wr rfl
        refine ⟨k + 1, rfl, by omega, ?_⟩
        have := arrV_set 8 (Num.wideF k n.toNat) (by rw [Num.wideF_len]; omega) (UInt8.ofNat (n.toNat / 256 ^ k % 256))
        rw [Num.wideF_len] at this
        rw [wideF_snoc, ← this, Num.ofNat_toNat _ (by omega), pow8 n h1 k]
      go_wp2
      go_roundw
      case rel => exact hset.out _ rfl
      case measure => simp [intOf]; omega
    · obtain rfl : k = 8 := by omega
      have hs := fun W => run_sliceAt_all (P := Tryz.prog) 292 5 8 1 Tryz.underlying292 (by kernel_rfl) w.heap.size W
      have hc := run_conv_arr (P := Tryz.prog) 93 9 5 Tryz.underlying93 Tryz.underlying5 Tryz.underlying9 8 8 (Num.wideF 8 n.toNat) 292 w
      rw [Num.wideF_len] at hc
      go_wp2
      go_ret
      exact ⟨rfl, (Below.refl _ _).alloc (Nat.le_refl _) _⟩

def RWideRel (n : Int) (w : World) (vn vb vi : Value) (wr : World) : Prop :=
  ∃ (k : Nat), vi = .int .i64 (k : Nat) ∧ vn = .int .u64 ((n.toNat / 256 ^ k : Nat) : Int) ∧ k ≤ 8 ∧ OwnB wr w.heap.size 5 vb (Num.wideF k n.toNat) ∧ Below w.heap.size w wr

set_option maxRecDepth 100000 in
set_option maxHeartbeats 400000 in
theorem num_Text_any (t : List UInt8) (w : World) (h1 : t.length ≤ 1099511627776) :
    Calls Tryz.prog 151 #[.string (bs t)] w fun e w' => e = .returned (.string (bs (Num.text t))) ∧ Below w.heap.size w w' := by
  have hs := Num.small_len t.length
  have hz := Lib.hid (bs_size t)
  have hz2 := bs_size (Num.small t.length)
  have hz1 : (bs t).size ≤ 1099511627776 := by rw [hz.out]; exact h1
  have hc := Lib.hid (bs_append (Num.small t.length) t)
  have hsz : (bs (Num.small t.length)).size ≤ 10 := by omega
  clear hz2 hs
  go_enter Tryz.func151, Tryz.ntmps151
  go_wp2_with (go_at_call 83; refine (num_Small_any _ _ (by omega) (by omega)).mono ?_; rw [Int.toNat_natCast, hz.out]; rintro e w' ⟨rfl, hb⟩)
  go_ret
  exact ⟨by rw [hc.out]; rfl, hb⟩

end Go.Proofs.YtgagcncmlonciaaGreatDoor
