/- General lemmas beside the kit: byte strings as lists, arrays of bytes in a block, slices of an array, blocks known whole. Over any program. -/
import Derived.WalkKit
import Derived.WalkLawsBesides
import Derived.WalkSpells
import Derived.Lib.Hide
import Derived.Laws.BytesArg
import Derived.Deep.Draws
import Derived.Test.YtgehgjalkponfaaGreatDoorRow
namespace Go.Proofs.YtgehgjalkponfaaGreatDoor
open Go.RowKit

/-- A text as a list of bytes. -/
def bs (l : List UInt8) : ByteArray := ⟨l.toArray⟩
theorem bs_size (l : List UInt8) : (bs l).size = l.length := by simp [bs, ByteArray.size]
theorem bs_toList (l : List UInt8) : (bs l).toList = l := by simp [bs]
theorem bs_data (l : List UInt8) : (bs l).data.toList = l := by simp [bs]
theorem bs_append (a b : List UInt8) : bs a ++ bs b = bs (a ++ b) := ByteArray.mk_append_mk a b
theorem bs_of (s : ByteArray) : bs s.data.toList = s := by cases s; simp [bs]
theorem bs_ex (s : ByteArray) : ∃ l, s = bs l := ⟨s.data.toList, (bs_of s).symm⟩
theorem bs_inj {a b : List UInt8} (h : bs a = bs b) : a = b := by rw [← bs_data a, h, bs_data]
theorem bs_extract (l : List UInt8) (i j : Nat) : (bs l).extract i j = bs ((l.drop i).take (j - i)) := ByteArray.extract_mk l i j
theorem bs_getElem (l : List UInt8) (i : Nat) (h : i < (bs l).size) : (bs l)[i] = l[i]'(by rw [bs_size] at h; exact h) := by simp [bs, ByteArray.getElem_eq_getElem_data]

theorem run_add_bs {P : Program} (a b : List UInt8) (h : a.length + b.length ≤ 9223372036854775807) (W : World) : (Op.stringOp .add (bs a) (bs b)).run P W = .ok (.string (bs (a ++ b))) W := by
  rw [run_string_add_sum W (bs a) (bs b) (by rw [bs_size, bs_size]; exact h), bs_append]

/-- An array of n bytes that begins with these. -/
def arrV (n : Nat) (E : List UInt8) : Array Value := (E.map (fun b : UInt8 => Value.int .u8 b.toNat) ++ List.replicate (n - E.length) (Value.int .u8 0)).toArray
theorem arrV_at (n : Nat) (E : List UInt8) (i : Nat) (h : i < E.length) : (arrV n E)[i]? = some (.int .u8 (E[i].toNat : Int)) := by
  unfold arrV
  rw [List.getElem?_toArray, List.getElem?_append_left (by simpa using h), List.getElem?_map, List.getElem?_eq_getElem h]; rfl
theorem arrV_next (n : Nat) (E : List UInt8) (h : E.length < n) : (arrV n E)[E.length]? = some (.int .u8 0) := by
  unfold arrV
  rw [List.getElem?_toArray, List.getElem?_append_right (by simp), List.getElem?_replicate]; simp; omega
theorem arrV_set (n : Nat) (E : List UInt8) (h : E.length < n) (b : UInt8) : (arrV n E).setIfInBounds E.length (.int .u8 (b.toNat : Int)) = arrV n (E ++ [b]) := by
  obtain ⟨m, hm⟩ : ∃ m, n - E.length = m + 1 := ⟨n - E.length - 1, by omega⟩
  have hm' : n - (E ++ [b]).length = m := by simp; omega
  unfold arrV
  rw [hm, hm', List.replicate_succ, List.setIfInBounds_toArray]
  congr 1
  rw [List.set_append_right _ _ (by simp)]
  simp

/-- x[:h] of an array variable. -/
theorem run_sliceAt_h {P : Program} (t e : TypeId) (n s : Nat) (hu : P.underlying t = some (.array n e)) (hi : (P.info? e).map (·.size) = some s) (g h : Nat) (k : IntKind) (hh : h ≤ n) (w : World) :
    (Instr.sliceAt t (.pointer (some ⟨g, 0, none⟩)) none (some (.int k (h : Int))) none).run P w = .ok (.slice (some ⟨g, 0, none⟩) h n) w := by
  have ha : P.arrayLen t = n := by simp [Program.arrayLen, hu]
  have he : P.elem t = e := by simp [Program.elem, hu]
  have hu' : P.underlying t = some (.array (P.arrayLen t) (P.elem t)) := by rw [ha, he]; exact hu
  rw [run_sliceAt_array_h w t ⟨g, 0, none⟩ hu' k h (by omega) (by omega), ha, he]
  cases hq : P.info? e with
  | none => simp [hq] at hi
  | some i => simp [sizeOf, typeInfo, hq, slicedAt, Result.andThen, Addr.add]

theorem run_sliceAt_all {P : Program} (t e : TypeId) (n s : Nat) (hu : P.underlying t = some (.array n e)) (hi : (P.info? e).map (·.size) = some s) (g : Nat) (w : World) :
    (Instr.sliceAt t (.pointer (some ⟨g, 0, none⟩)) none none none).run P w = .ok (.slice (some ⟨g, 0, none⟩) n n) w := by
  have ha : P.arrayLen t = n := by simp [Program.arrayLen, hu]
  have he : P.elem t = e := by simp [Program.elem, hu]
  have hu' : P.underlying t = some (.array (P.arrayLen t) (P.elem t)) := by rw [ha, he]; exact hu
  rw [run_sliceAt_array_all w t ⟨g, 0, none⟩ hu', ha, he]
  cases hq : P.info? e with
  | none => simp [hq] at hi
  | some i => simp [sizeOf, typeInfo, hq, slicedAt, Result.andThen, Addr.add]

/-- string(b) of a row of bytes whose cells are known. -/
theorem run_conv_cells {P : Program} (src dst e : TypeId) (hs : P.underlying src = some (.slice e)) (he : P.underlying e = some (.int .u8)) (hd : P.underlying dst = some .string)
    (g off cap : Nat) (E : List UInt8) (w : World) (hc : ∀ i (h : i < E.length), w.cell? ⟨g, off + i, none⟩ = some (.int .u8 (E[i].toNat : Int))) :
    (convert src dst (.slice (some ⟨g, off, none⟩) E.length cap)).run P w = .ok (.string (bs E)) w := by
  have h := run_convert_bytes_arg (P := P) w src e hs he g off E.length cap (E.map fun b => (b.toNat : Int)) (by simp) (fun i hi => by
    rw [hc i hi]; simp [List.getD, hi]) dst hd
  rw [h]
  congr 2
  unfold strOfNums bs
  rw [List.map_map]
  congr 2
  conv => rhs; rw [← List.map_id E]
  apply List.map_congr_left
  intro b _
  simp

theorem run_conv_one {P : Program} (src dst e : TypeId) (hs : P.underlying src = some (.slice e)) (he : P.underlying e = some (.int .u8)) (hd : P.underlying dst = some .string)
    (g c : Nat) (x : Int) (b : UInt8) (hx : x = (b.toNat : Int)) (W : World) (hc : W.cell? ⟨g, 0, none⟩ = some (.int .u8 x)) :
    (convert src dst (.slice (some ⟨g, 0, none⟩) 1 c)).run P W = .ok (.string (bs [b])) W :=
  run_conv_cells src dst e hs he hd g 0 c [b] W fun i h => by
    obtain rfl : i = 0 := by simpa using h
    simpa [hx] using hc

theorem lt_alloc (w : World) (o : Obj) : w.heap.size < (w.alloc o).heap.size := by simp

theorem cell_new_arr (w : World) (cs : Array Value) (t : TypeId) (i : Nat) : (w.alloc (.cells cs t)).cell? ⟨w.heap.size, i, none⟩ = cs[i]? := World.cell?_alloc_new w cs t i

/-- string(b[:k]) of an array of bytes in the newest block. -/
theorem run_conv_arr {P : Program} (src dst e : TypeId) (hs : P.underlying src = some (.slice e)) (he : P.underlying e = some (.int .u8)) (hd : P.underlying dst = some .string)
    (n cap : Nat) (E : List UInt8) (t : TypeId) (w : World) :
    (convert src dst (.slice (some ⟨w.heap.size, 0, none⟩) E.length cap)).run P (w.alloc (.cells (arrV n E) t)) = .ok (.string (bs E)) (w.alloc (.cells (arrV n E) t)) :=
  run_conv_cells src dst e hs he hd w.heap.size 0 cap E _ fun i h => by
    rw [cell_new_arr, Nat.zero_add]; exact arrV_at n E i h

/-- Block g is just these cells, none frozen. -/
def Blk (w : World) (g : Nat) (t : TypeId) (cs : Array Value) : Prop := w.heap[g]? = some (.cells cs t (0, 0))
section
variable {w w' : World} {g : Nat} {t : TypeId} {cs : Array Value}
theorem Blk.lt (h : Blk w g t cs) : g < w.heap.size := by
  rcases Nat.lt_or_ge g w.heap.size with hlt | hge
  · exact hlt
  · unfold Blk at h; rw [Array.getElem?_eq_none hge] at h; cases h
theorem Blk.cell (h : Blk w g t cs) (i : Nat) : w.cell? ⟨g, i, none⟩ = cs[i]? := cell_of_row w g i cs t (0, 0) h
theorem Blk.frozen (h : Blk w g t cs) (i : Nat) : w.frozen? ⟨g, i, none⟩ = false := by
  unfold Blk at h
  simp [World.frozen?, h]
theorem Blk.new (w : World) (t : TypeId) (cs : Array Value) : Blk (w.alloc (.cells cs t)) w.heap.size t cs := heap_alloc_new w _
theorem Blk.drew (h : Blk w g t cs) : Blk w.drew g t cs := h
theorem Blk.drewN (h : Blk w g t cs) (n : Nat) : Blk (w.drewN n) g t cs := h
theorem Blk.alloc (h : Blk w g t cs) (o : Obj) : Blk (w.alloc o) g t cs := (Below.heap_alloc w o g h.lt).trans h
theorem Blk.set_ (h : Blk w g t cs) (i : Nat) (u : Value) : Blk (w.setCell ⟨g, i, none⟩ u) g t (cs.setIfInBounds i u) := by
  unfold Blk at h ⊢
  simp [World.setCell, Array.getElem?_modify, h]
theorem Blk.far (h : Blk w g t cs) {p : Addr} (hp : g ≠ p.block) (u : Value) : Blk (w.setCell p u) g t cs := (Below.heap_setCell w p u g hp).trans h
theorem Blk.below {B : Nat} (h : Blk w g t cs) (hb : Below B w w') (hg : g < B) : Blk w' g t cs := (hb.block g hg).trans h
theorem Blk.grown {row : Option Nat} (h : Blk w g t cs) (hb : w.grownBy w' row) (hg : some g ≠ row) : Blk w' g t cs := (hb.block g h.lt hg).trans h
end

/-- v is a slice of the call's own (from block base on) that holds just these bytes; e: the number of byte's type. -/
def OwnB (w : World) (base : Nat) (e : TypeId) (v : Value) (E : List UInt8) : Prop := OwnR w base e 1 v E.length (E.map fun b : UInt8 => Value.int .u8 b.toNat)
theorem OwnB.nil (w : World) (base : Nat) (e : TypeId) : OwnB w base e (.slice none 0 0) [] := OwnR.nil w base e 1
theorem OwnB.alloc {w : World} {base : Nat} {e : TypeId} {v : Value} {E : List UInt8} (h : OwnB w base e v E) (o : Obj) : OwnB (w.alloc o) base e v E := OwnR.alloc h o
theorem OwnB.form {w : World} {base : Nat} {e : TypeId} {v : Value} {E : List UInt8} (h : OwnB w base e v E) (hn : 0 < E.length) : ∃ g cap, v = .slice (some ⟨g, 0, none⟩) E.length cap ∧ base ≤ g ∧ g < w.heap.size := OwnR.form h hn

/-- append(b, x) of one byte, its element laid in the newest block. -/
theorem wpList_append_byte {P : Program} {w : World} {ops : Array Oper} {rest : List Oper} {o : Oper} {a : Act} {Q : Exit → Act → World → Prop} (hgd : o.guard = none) (s x : Operand) (t : TypeId)
    (ho : o.op = .call { callee := .builtin .append, args := #[s, x], argTypes := #[t, t] })
    (base : Nat) (e : TypeId) (ht : P.underlying t = some (.slice e)) (hi : (P.info? e).map (fun i => (i.zero, i.size, i.bytes)) = some (some (.int .u8 0), 1, 1))
    (v : Value) (E : List UInt8) (hs : a.eval s = v) (hown : OwnB w base e v E) (c : Nat) (y : Int) (b : UInt8) (hx : a.eval x = .slice (some ⟨w.heap.size, 0, none⟩) 1 c)
    (hy : y = (b.toNat : Int)) (hE : E.length + 1 ≤ 140737488355328) (hbase : base ≤ w.heap.size)
    (h : ∀ g cap w', OwnB w' base e (.slice (some ⟨g, 0, none⟩) (E.length + 1) cap) (E ++ [b]) → Below base w w' → wpList P ops Q rest (a.put o.dst (.slice (some ⟨g, 0, none⟩) (E.length + 1) cap)) w') :
    wpList P ops Q (o :: rest) a (w.alloc (.cells #[.int .u8 y] e)) := by
  obtain ⟨i0, hi0, hz0, hz1, hz2⟩ := info_parts hi
  refine wpList_append_oneR w hgd s x t ho base e i0 _ 1 1 ht hi0 hz0 hz1 hz2 rfl (by omega) v E.length _ hs hown c [.int .u8 y] hx rfl (by simp [Value.oneCell']) (by unfold maxLen; omega) (by omega) hbase ?_
  intro g cap w' h1 h2 _ _ _
  refine h g cap w' ?_ ((Below.refl base w).grown h2 hbase (fun k hk => (hown.lt k hk).1))
  unfold OwnB; simpa [hy] using h1

/-- string(b) of such a slice. -/
theorem run_conv_own {P : Program} (src dst e : TypeId) (hs : P.underlying src = some (.slice e)) (he : P.underlying e = some (.int .u8)) (hd : P.underlying dst = some .string)
    (w : World) (base g n cap : Nat) (E : List UInt8) (h : OwnB w base e (.slice (some ⟨g, 0, none⟩) n cap) E) (hn : n = E.length) :
    (convert src dst (.slice (some ⟨g, 0, none⟩) n cap)).run P w = .ok (.string (bs E)) w := by
  subst hn
  refine run_conv_cells src dst e hs he hd g 0 cap E w fun i hi => ?_
  have := OwnR.cellAt h i (by omega)
  rw [Nat.zero_add, this, List.getElem?_map, List.getElem?_eq_getElem hi]; rfl

/-- []byte(s) of a text that is a list. -/
theorem run_bytes_own {P : Program} (src dst e : TypeId) (hs : P.underlying src = some .string) (hd : P.underlying dst = some (.slice e)) (he : P.underlying e = some (.int .u8)) (w : World) (l : List UInt8) (hl : l.length ≤ maxLen)
    (base : Nat) (hbase : base ≤ w.heap.size) :
    ∃ cap w', (convert src dst (.string (bs l))).run P w = .ok (.slice (some ⟨w.heap.size, 0, none⟩) l.length cap) w' ∧ OwnB w' base e (.slice (some ⟨w.heap.size, 0, none⟩) l.length cap) l ∧ Below w.heap.size w w' := by
  obtain ⟨cap, w', h1, h2, h3⟩ := run_bytes_ofR w src dst e (bs l) hs hd he (by rw [bs_size]; exact hl) base hbase
  rw [bs_size] at h1 h2
  rw [bs_data] at h2
  exact ⟨cap, w', h1, h2, h3⟩
end Go.Proofs.YtgehgjalkponfaaGreatDoor
