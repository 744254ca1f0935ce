/- A meta in memory; whether it may be: the walk of Valid. Whether two metas are alike: the walk of Same. Numbers as a generation has them: the walk of numbers. A region that draws its order: an append of a known slice onto a fresh row that is full, in a hidden slot. Over any program. A meta as bytes: the walk of Put. A cursor's states in a region that draws its order. (The templates of layer 10 have these too: Lexd.) A meta's numbers read: the walk of read and of what it makes. The meta that bytes are: the walk of Get. -/
import Derived.Test.YtgagcncmlonciaaGreatDoorGD
import Derived.Test.YtgagcncmlonciaaGreatDoorShelfS
import Derived.Lib.OwnBridge
import Derived.Laws.AppendOwnNone
import Derived.Laws.OwnMore
import Derived.Test.YtgagcncmlonciaaGreatDoorGC
import Derived.Deep.Upon
namespace Go.Proofs.YtgagcncmlonciaaGreatDoor
open Go.RowKit Go.Maps Go.WideMaps
attribute [local go_sem] bs_toList bs_size

/-- A slice of numbers. -/
def IntsAt (w : World) (v : Value) (L : List Int) : Prop :=
  ∃ a c, v = .slice a L.length c ∧ (a = none → c = 0) ∧ L.length ≤ 100000 ∧ (∀ x ∈ L, -9223372036854775808 ≤ x ∧ x ≤ 9223372036854775807) ∧ ∀ (i : Nat) x, L[i]? = some x → ∃ b o, a = some ⟨b, o, none⟩ ∧ w.cell? ⟨b, o + i, none⟩ = some (.int .i64 x)
theorem IntsAt.below {w w' : World} {v : Value} {L : List Int} (h : IntsAt w v L) (hb : Below w.heap.size w w') : IntsAt w' v L := by
  obtain ⟨a, c, h1, h2, h3, h4, h5⟩ := h
  refine ⟨a, c, h1, h2, h3, h4, fun i x hx => ?_⟩
  obtain ⟨b, o, h6, h7⟩ := h5 i x hx
  exact ⟨b, o, h6, (Below.cell hb (World.block_lt_of_cell? _ _ h7)).trans h7⟩
def mtV (m : Mt) (bv : Value) : Value := .agg #[.int .i64 m.gen, .int .i64 m.next, .int .i64 m.wal, bv]
/-- Its numbers are such as an int holds. -/
def Mt.ok (m : Mt) : Prop := (-9223372036854775808 ≤ m.gen ∧ m.gen ≤ 9223372036854775807) ∧ (-9223372036854775808 ≤ m.next ∧ m.next ≤ 9223372036854775807) ∧ (-9223372036854775808 ≤ m.wal ∧ m.wal ≤ 9223372036854775807)
theorem cells4 {W : World} {b : Nat} {T : TypeId} {u0 u1 u2 u3 : Value} (h : Blk W b T #[u0, u1, u2, u3]) :
    (W.cell? ⟨b, 0, none⟩ = some u0 ∧ W.cell? ⟨b, 1, none⟩ = some u1 ∧ W.cell? ⟨b, 2, none⟩ = some u2 ∧ W.cell? ⟨b, 3, none⟩ = some u3) ∧ W.frozen? ⟨b, 0, none⟩ = false ∧ W.frozen? ⟨b, 1, none⟩ = false ∧ W.frozen? ⟨b, 2, none⟩ = false ∧ W.frozen? ⟨b, 3, none⟩ = false :=
  ⟨⟨(Blk.cell h 0).trans rfl, (Blk.cell h 1).trans rfl, (Blk.cell h 2).trans rfl, (Blk.cell h 3).trans rfl⟩, Blk.frozen h 0, Blk.frozen h 1, Blk.frozen h 2, Blk.frozen h 3⟩
theorem kept_putRow {α : Type} [Inhabited α] (enc : α → Value) (w : World) (q g : Nat) (d : Array α) : Kept w (Go.Sort.putRow enc (Go.Sort.ahead w q) g 0 d) (fun k => k = g) :=
  ⟨rfl, rfl, rfl, by simp [Go.Sort.ahead], fun i _ hi => by simp [Go.Sort.putRow, Go.Sort.mapBlock, Go.Sort.ahead, Array.getElem?_modify, show g ≠ i from fun e => hi e.symm]⟩
theorem kept_grow (w : World) (os : Array Obj) (S : Nat → Prop) : Kept w (Go.Sort.grow w os) S :=
  ⟨rfl, rfl, rfl, by simp [Go.Sort.grow], fun i hi _ => by simp [Go.Sort.grow, Array.getElem?_append, hi]⟩

/-- An append of a slice, nil or not. -/
theorem wpList_append_any {P : Program} {w : World} {ops : Array Oper} {rest : List Oper} {o : Oper} {a : Act} {Q : Exit → Act → World → Prop} (hgd : o.guard = none) (s x : Operand) (t : TypeId)
    (ho : o.op = .call { callee := .builtin .append, args := #[s, x], argTypes := #[t, t] })
    (base : Nat) (e : TypeId) (i : TypeInfo) (z : Value) (size bytes : Nat) (ht : P.underlying t = some (.slice e)) (hi : P.info? e = some i) (hz : i.zero = some z)
    (hsize : i.size = size) (hby : i.bytes = bytes) (hzs : z.cells.size = size) (hsz : 0 < size)
    (v : Value) (n : Nat) (xs : List Value) (hs : a.eval s = v) (hown : w.ownsRow base e size v n xs)
    (ad : Option Addr) (m c : Nat) (news : List Value) (hx : a.eval x = .slice ad m c) (h0 : ad = none → m = 0 ∧ c = 0) (hl : news.length = m * size) (hnews : ∀ a', ad = some a' → ∀ j u, news[j]? = some u → w.cell? (a'.add j) = some u) (h1 : ∀ u ∈ news, u.oneCell' = true)
    (h63 : n + m ≤ maxLen) (hbytes : (n + m) * bytes ≤ 140737488355328) (hbase : base ≤ w.heap.size)
    (h : ∀ v' w', w'.ownsRow base e size v' (n + m) (xs ++ news) → w.grownBy w' v.ownBlock → (v'.ownBlock = v.ownBlock ∨ v'.ownBlock = some w.heap.size) → wpList P ops Q rest (a.put o.dst v') w') : wpList P ops Q (o :: rest) a w := by
  cases ad with
  | none =>
    obtain ⟨rfl, rfl⟩ := h0 rfl
    obtain rfl : news = [] := List.length_eq_zero_iff.1 (by simpa using hl)
    exact wpList_append_own_none hgd s x t ho base e i size ht hi v n xs hs hown hx (h v w (by simpa using hown) ⟨rfl, rfl, rfl, Nat.le_refl _, fun _ _ _ => rfl⟩ (.inl rfl))
  | some a' =>
    exact wpList_append_own_at w hgd s x t ho base e i z size bytes ht hi hz hsize hby hzs hsz v n xs hs hown a' m c news hx hl (hnews a' rfl) h1 h63 hbytes hbase fun v' w' h2 h3 _ h5 => h v' w' h2 h3 h5
theorem ints_cells {w : World} {L : List Int} {a : Option Addr} (hc : ∀ (i : Nat) x, L[i]? = some x → ∃ b o, a = some ⟨b, o, none⟩ ∧ w.cell? ⟨b, o + i, none⟩ = some (.int .i64 x)) : ∀ a', a = some a' → ∀ j u, (L.map (Value.int .i64))[j]? = some u → w.cell? (a'.add j) = some u := by
  rintro a' rfl j u hj
  rw [List.getElem?_map] at hj
  cases hx : L[j]? with
  | none => rw [hx] at hj; cases hj
  | some x =>
    rw [hx] at hj
    obtain rfl := Option.some.inj hj
    obtain ⟨b, o, e, h⟩ := hc j x hx
    obtain rfl := Option.some.inj e
    have : (⟨b, o, none⟩ : Addr).add j = ⟨b, o + j, none⟩ := by unfold Addr.add; split <;> simp_all
    rw [this]
    exact h
theorem ints_one (L : List Int) : ∀ u ∈ L.map (Value.int .i64), u.oneCell' = true := fun u hu => by
  obtain ⟨x, _, rfl⟩ := List.mem_map.1 hu
  rfl

/-- A row of numbers, ahead of a call and behind it. -/
def rowsPh (w0 : World) (B g n cap : Nat) (r0 r1 : List Int) (h0 : w0.ownsRow B 3 1 (.slice (some ⟨g, 0, none⟩) n cap) n (r0.map (Value.int .i64))) : Phases where
  ph q w := Kept w0 w (fun k => k = g) ∧ ∃ r, (q = 0 ∧ r = r0 ∨ q = 1 ∧ r = r1) ∧ w.ownsRow B 3 1 (.slice (some ⟨g, 0, none⟩) n cap) n (r.map (Value.int .i64))
  K a b := Kept a b (fun k => k = g)
  w0 := w0
  start := ⟨Kept.refl _ _, r0, .inl ⟨rfl, rfl⟩, h0⟩
  refl w := Kept.refl w _
  trans h k := h.trans k
  grow h := Kept.of_below h
  stay h k := ⟨h.1.trans (Kept.of_below k), by obtain ⟨r, h1, h2⟩ := h.2; exact ⟨r, h1, ownsRow_kept h2 (Kept.of_below (S := fun _ => False) k) (fun _ _ e => e)⟩⟩
theorem rowsPh_at {w0 : World} {B g n cap : Nat} {r0 r1 : List Int} {h0 : w0.ownsRow B 3 1 (.slice (some ⟨g, 0, none⟩) n cap) n (r0.map (Value.int .i64))} {w : World} {q : Nat} (h : (rowsPh w0 B g n cap r0 r1 h0).ph q w) (j : Nat) (hj : j < n) : (w.cell? ⟨g, j, none⟩ = (r0.map (Value.int .i64))[j]?) ∨ (w.cell? ⟨g, j, none⟩ = (r1.map (Value.int .i64))[j]?) := by
  obtain ⟨_, r, h1, h2⟩ := h
  have := World.ownsRow.cellAt h2 j (by omega)
  rcases h1 with ⟨_, rfl⟩ | ⟨_, rfl⟩
  · exact .inl this
  · exact .inr this
theorem rowsPh_cell {w0 : World} {B g n cap : Nat} {r0 r1 : List Int} {h0 : w0.ownsRow B 3 1 (.slice (some ⟨g, 0, none⟩) n cap) n (r0.map (Value.int .i64))} {p : Addr} {v : Value} (hp : p.block ≠ g) (hc : w0.cell? p = some v) : ∀ x : PW (rowsPh w0 B g n cap r0 r1 h0), x.w.cell? p = some v := fun x => by
  obtain ⟨w, q, hk, _⟩ := x
  exact (World.cell?_of_block (hk.block p.block (World.block_lt_of_cell? _ _ hc) hp)).trans hc
/-- A number below a bound, in a hidden slot. -/
def belowHeld (b : Int) : Held := fun x _ => ∃ v, x = .int .i64 v ∧ v < b
theorem compact_le (zs : List Int) : (Lib.compact zs).length ≤ zs.length := by
  unfold Lib.compact Lib.compactUpTo
  rw [List.length_map]
  have := List.length_filter_le (Lib.keeps zs.toArray) (List.range zs.length)
  rwa [List.length_range] at this
theorem compact_head (zs : List Int) (h : 0 < zs.length) : (Lib.compact zs)[0]? = some zs[0] := by
  unfold Lib.compact Lib.compactUpTo
  obtain ⟨n, hn⟩ := Nat.exists_eq_succ_of_ne_zero (show zs.length ≠ 0 by omega)
  rw [hn, List.range_succ_eq_map, List.filter_cons, if_pos (by simp [Lib.keeps]), List.map_cons, List.getElem?_cons_zero, arr_at zs 0 h]

theorem compact_same (zs : List Int) (h : (Lib.compact zs).length = zs.length) : Lib.compact zs = zs := by
  unfold Lib.compact at h ⊢
  have hk : ∀ j, j < zs.length → Lib.keeps zs.toArray j = true := by
    unfold Lib.compactUpTo at h
    rw [List.length_map] at h
    have := (List.length_filter_eq_length_iff (p := Lib.keeps zs.toArray) (l := List.range zs.length)).1 (by rw [h, List.length_range])
    exact fun j hj => this j (List.mem_range.2 hj)
  rw [Lib.compactUpTo_all _ _ hk]
  have := Lib.range_map_get zs.toArray
  simpa using this
theorem compact_row {w0 : World} {B g n cap : Nat} {zs : List Int} {h0 : w0.ownsRow B 3 1 (.slice (some ⟨g, 0, none⟩) n cap) n (zs.map (Value.int .i64))} (hn : zs.length = n) (hpos : 0 < n) (hmx : n ≤ 100000) {W : World} (hW : (rowsPh w0 B g n cap zs (Lib.compact zs ++ List.replicate (zs.length - (Lib.compact zs).length) 0) h0).ph 0 W) :
    Calls Tryz.prog 150 #[.slice (some ⟨g, 0, none⟩) n cap] W fun e w' => e = .returned (.slice (some ⟨g, 0, none⟩) (Lib.compact zs).length cap) ∧ (rowsPh w0 B g n cap zs (Lib.compact zs ++ List.replicate (zs.length - (Lib.compact zs).length) 0) h0).K W w' ∧ (rowsPh w0 B g n cap zs (Lib.compact zs ++ List.replicate (zs.length - (Lib.compact zs).length) 0) h0).ph (0 + 1) w' := by
  obtain ⟨hk, r, hr, ho⟩ := hW
  obtain rfl : r = zs := by
    rcases hr with ⟨_, e⟩ | ⟨e, _⟩
    · exact e
    · omega
  obtain ⟨g', cap', e, _, _, hnc, _, _, hH⟩ := Lib.holds_of_ownsRow ho (fun e => by cases e)
  obtain ⟨e1, _, rfl⟩ := Value.slice.inj e
  obtain rfl : g = g' := by
    have := Option.some.inj e1
    exact (Addr.mk.inj this).1
  have hcl := compact_le r
  have q := Tryz.slices_Compact_int g 0 cap r W hH (by omega) (by omega)
  rw [hn] at q
  refine q.mono ?_
  rintro e w' ⟨rfl, q, rfl⟩
  rw [hn]
  refine ⟨rfl, kept_putRow _ _ _ _ _, hk.trans (kept_putRow _ _ _ _ _), _, .inr ⟨rfl, rfl⟩, ?_⟩
  have := Lib.ownsRow_putRow (q := q) (ys := Lib.compact r ++ List.replicate (n - (Lib.compact r).length) 0) ho (by rw [List.length_append, List.length_replicate]; omega) (Nat.le_refl _)
  rwa [List.take_of_length_le (by rw [List.length_append, List.length_replicate]; omega)] at this

set_option maxRecDepth 100000 in
set_option maxHeartbeats 4000000 in
theorem Valid_any (m : Mt) (bv : Value) (w : World) (hm : m.ok) (hb : IntsAt w bv m.blocks) :
    Calls Tryz.prog 81 #[mtV m bv] w fun e w' => e = .returned (.bool (validM m)) ∧ Below w.heap.size w w' := by
  obtain ⟨g, nx, wl, L⟩ := m
  obtain ⟨⟨g1, g2⟩, ⟨n1, n2⟩, w1, w2⟩ := hm
  simp only at g1 g2 n1 n2 w1 w2 hb
  obtain ⟨ba, bc, rfl, hnil, hL, hLb, hc⟩ := hb
  rw [show mtV ⟨g, nx, wl, L⟩ (.slice ba L.length bc) = .agg #[.int .i64 g, .int .i64 nx, .int .i64 wl, .slice ba L.length bc] from rfl]
  have b0 := one_alloc w (.cells #[.int .i64 g, .int .i64 nx, .int .i64 wl, .slice ba L.length bc] 53)
  have k0 := Blk.new w 53 #[.int .i64 g, .int .i64 nx, .int .i64 wl, .slice ba L.length bc]
  obtain ⟨⟨c0, c1, c2, c3⟩, _⟩ := cells4 k0
  by_cases hin : 1 ≤ g ∧ g ≤ 3 ∧ 0 ≤ nx ∧ nx ≤ 999999 ∧ L.length ≤ 40
  · obtain ⟨i1, i2, i3, i4, i5⟩ := id hin
    have f1 : decide (g < 1) = false := by simp; omega
    have f2 : decide (3 < g) = false := by simp; omega
    have f3 : decide (nx < 0) = false := by simp; omega
    have f4 : decide (999999 < nx) = false := by simp; omega
    have f5 : decide ((40 : Int) < (L.length : Int)) = false := by simp; omega
    have f5' : decide (40 < L.length) = false := by simp; omega
    obtain ⟨zs, hzs⟩ : ∃ zs, zs = sortI (wl :: L) := ⟨_, rfl⟩
    have hzl : zs.length = 1 + L.length := by rw [hzs, sortI_len, List.length_cons]; omega
    have hpos : 0 < zs.length := by omega
    have hsrt : zs.Pairwise (· ≤ ·) := by rw [hzs]; exact sortI_sorted _
    have HV := Lib.hid (valid_sorted ⟨g, nx, wl, L⟩ hin zs hzs hpos)
    generalize validM ⟨g, nx, wl, L⟩ = V at *
    clear hin
    go_enter Tryz.func81, Tryz.ntmps81
    have ⟨i0, hin, hz0, hz1, hz2⟩ := info_parts (show (Tryz.prog.info? 3).map (fun i => (i.zero, i.size, i.bytes)) = some (some (.int .i64 0), 1, 8) by kernel_rfl)
    have r1 : ((w.alloc (.cells #[.int .i64 g, .int .i64 nx, .int .i64 wl, .slice ba L.length bc] 53)).alloc (.cells #[.int .i64 wl] 3)).ownsRow w.heap.size 3 1 (.slice (some ⟨w.heap.size + 1, 0, none⟩) 1 1) 1 [.int .i64 wl] := by
      have := World.ownsRow_lit (base := w.heap.size) (e := 3) (size := 1) (w.alloc (.cells #[.int .i64 g, .int .i64 nx, .int .i64 wl, .slice ba L.length bc] 53)) #[.int .i64 wl] 1 (by simp) (by decide) rfl
      rwa [World.size_alloc] at this
    have b1 := b0.alloc b0.size (.cells #[.int .i64 wl] 3)
    have hcs : ∀ a', ba = some a' → ∀ j u, (L.map (Value.int .i64))[j]? = some u → ((w.alloc (.cells #[.int .i64 g, .int .i64 nx, .int .i64 wl, .slice ba L.length bc] 53)).alloc (.cells #[.int .i64 wl] 3)).cell? (a'.add j) = some u := fun a' e j u hj => by
      have h1 := ints_cells hc a' e j u hj
      exact (Below.cell b1 (World.block_lt_of_cell? _ _ h1)).trans h1
    have h00 : ba = none → L.length = 0 ∧ bc = 0 := fun e => by
      refine ⟨?_, hnil e⟩
      cases L with
      | nil => rfl
      | cons x L =>
        obtain ⟨_, _, e2, _⟩ := hc 0 x rfl
        rw [e] at e2
        cases e2
    have k1 := Blk.alloc k0 (.cells #[.int .i64 wl] 3)
    have hb1 : w.heap.size ≤ ((w.alloc (.cells #[.int .i64 g, .int .i64 nx, .int .i64 wl, .slice ba L.length bc] 53)).alloc (.cells #[.int .i64 wl] 3)).heap.size := b1.size
    have hln : (L.map (Value.int .i64)).length = L.length * 1 := by simp
    clear hc hnil b0 k0
    go_wp2_with (at_builtin; refine wpList_append_any rfl _ _ 51 rfl w.heap.size 3 i0 (.int .i64 0) 1 8 Tryz.underlying51 hin hz0 hz1 hz2 rfl (by decide) _ _ _ rfl r1 ba L.length bc (L.map (Value.int .i64)) rfl h00 hln hcs (ints_one L) (by unfold maxLen; omega) (by omega) hb1 ?_; intro v' w8 hown' hgrow hloc)
    have hown2 : w8.ownsRow w.heap.size 3 1 v' (1 + L.length) ((wl :: L).map (Value.int .i64)) := hown'
    obtain ⟨gk, cap, rfl, hgB, hgl, hncap, _, _, hH⟩ := Lib.holds_of_ownsRow hown2 (fun e => by
      rw [e] at hown2
      rcases hown2.2 with ⟨_, h⟩ | ⟨_, _, _, h, _⟩
      · omega
      · cases h)
    have hgk : gk ≠ w.heap.size := by
      rcases hloc with h | h
      · have h : gk = w.heap.size + 1 := Option.some.inj h
        omega
      · have h := Option.some.inj h
        rw [World.size_alloc, World.size_alloc] at h
        have h : gk = w.heap.size + 1 + 1 := h
        omega
    have k8 := Blk.grown k1 hgrow (fun e => by have e : w.heap.size = w.heap.size + 1 := Option.some.inj e; omega)
    have b8 := Below.grown b1 hgrow hb1 (fun k e => by have e : w.heap.size + 1 = k := Option.some.inj e; omega)
    have q := Tryz.slices_Sort_int gk 0 cap (wl :: L) w8 hH hgl (by rw [List.length_cons]; omega)
    rw [List.length_cons, show (wl :: L).mergeSort (fun x y => decide (x ≤ y)) = zs from hzs.symm, Nat.add_comm L.length 1] at q
    have Q := Lib.hid q
    clear q k1 b1 hcs r1 hown' hH hzs
    go_wp2_with fail
    refine Q.out.mono ?_
    rintro e w9 ⟨rfl, q, os, rfl⟩
    have hk9 := (kept_putRow (Value.int .i64) w8 q gk zs.toArray).trans (kept_grow _ os _)
    have hr9 := ownsRow_kept (Lib.ownsRow_putRow (q := q) hown2 hzl (Nat.le_refl _)) (kept_grow _ os (fun _ => False)) (fun _ _ e => e)
    rw [List.take_of_length_le (by omega)] at hr9
    have k9 := Blk.keptK k8 hk9 (fun e => hgk e.symm)
    have b9 := b8.trans (Kept.below hk9 b8.size (fun j hj => by omega))
    generalize Go.Sort.grow (Go.Sort.putRow (Value.int .i64) (Go.Sort.ahead w8 q) gk 0 zs.toArray) os = w9 at *
    obtain ⟨⟨d0, d1, d2, d3⟩, _⟩ := cells4 k9
    have e0 : w9.cell? ⟨gk, 0, none⟩ = some (.int .i64 zs[0]) := by
      rw [World.ownsRow.cellAt hr9 0 (by omega), List.getElem?_map, List.getElem?_eq_getElem hpos]
      rfl
    have eL : w9.cell? ⟨gk, L.length, none⟩ = some (.int .i64 zs[zs.length - 1]) := by
      rw [World.ownsRow.cellAt hr9 L.length (by omega), List.getElem?_map, show L.length = zs.length - 1 by omega, List.getElem?_eq_getElem (by omega)]
      rfl
    have hcl := compact_le zs
    by_cases hA : (0 : Int) ≤ zs[0]
    · by_cases hB : zs[zs.length - 1] < nx
      · have t1 : decide ((0 : Int) ≤ zs[0]) = true := by simpa using hA
        have t2 : decide (zs[zs.length - 1] < nx) = true := by simpa using hB
        have HW := Lib.hid (show V = decide ((Lib.compact zs).length = L.length + 1) by rw [HV.out, t1, t2]; rfl)
        have hlast : ∀ r, (r = zs ∨ r = Lib.compact zs ++ List.replicate (zs.length - (Lib.compact zs).length) 0) → ∃ v, (r.map (Value.int .i64))[L.length]? = some (.int .i64 v) ∧ v < nx := by
          have h0L : zs[0] ≤ zs[zs.length - 1] := by
            by_cases h1 : zs.length - 1 = 0
            · simp only [h1]
              exact Int.le_refl _
            · exact List.pairwise_iff_getElem.1 hsrt 0 (zs.length - 1) hpos (by omega) (by omega)
          rintro r (rfl | rfl)
          · refine ⟨_, ?_, hB⟩
            rw [List.getElem?_map, show L.length = r.length - 1 by omega, List.getElem?_eq_getElem (by omega)]
            rfl
          · by_cases hc : (Lib.compact zs).length = zs.length
            · rw [hc, compact_same zs hc, Nat.sub_self, List.replicate_zero, List.append_nil]
              refine ⟨_, ?_, hB⟩
              rw [List.getElem?_map, show L.length = zs.length - 1 by omega, List.getElem?_eq_getElem (by omega)]
              rfl
            · refine ⟨0, ?_, by omega⟩
              rw [List.getElem?_map, List.getElem?_append_right (by omega), List.getElem?_replicate, if_pos (by omega)]
              rfl
        have hhead : ∀ r, (r = zs ∨ r = Lib.compact zs ++ List.replicate (zs.length - (Lib.compact zs).length) 0) → (r.map (Value.int .i64))[0]? = some (.int .i64 zs[0]) := by
          rintro r (rfl | rfl)
          · rw [List.getElem?_map, List.getElem?_eq_getElem hpos]
            rfl
          · have := compact_head zs hpos
            have h0 : 0 < (Lib.compact zs).length := (List.getElem?_eq_some_iff.1 this).1
            rw [List.getElem?_map, List.getElem?_append_left h0, this]
            rfl
        have x0 : ∀ x : PW (rowsPh w9 w.heap.size gk (1 + L.length) cap zs (Lib.compact zs ++ List.replicate (zs.length - (Lib.compact zs).length) 0) hr9), x.w.cell? ⟨gk, 0, none⟩ = some (.int .i64 zs[0]) := fun x => by
          obtain ⟨W, q, hq⟩ := x
          rcases rowsPh_at hq 0 (by omega) with h | h
          · exact h.trans (hhead _ (.inl rfl))
          · exact h.trans (hhead _ (.inr rfl))
        have xL : ∀ W, (∃ q, (rowsPh w9 w.heap.size gk (1 + L.length) cap zs (Lib.compact zs ++ List.replicate (zs.length - (Lib.compact zs).length) 0) hr9).ph q W) → ∃ v, W.cell? ⟨gk, L.length, none⟩ = some (.int .i64 v) ∧ v < nx := fun W ⟨q, hq⟩ => by
          rcases rowsPh_at hq L.length (by omega) with h | h
          · obtain ⟨v, e, hv⟩ := hlast _ (.inl rfl)
            exact ⟨v, h.trans e, hv⟩
          · obtain ⟨v, e, hv⟩ := hlast _ (.inr rfl)
            exact ⟨v, h.trans e, hv⟩
        have x1 := rowsPh_cell (r1 := Lib.compact zs ++ List.replicate (zs.length - (Lib.compact zs).length) 0) (h0 := hr9) (p := ⟨w.heap.size, 1, none⟩) (fun e => hgk e.symm) d1
        have x3 := rowsPh_cell (r1 := Lib.compact zs ++ List.replicate (zs.length - (Lib.compact zs).length) 0) (h0 := hr9) (p := ⟨w.heap.size, 3, none⟩) (fun e => hgk e.symm) d3
        clear HV hhead hlast
        generalize zs[0] = z0 at *
        go_wp2_with fail
        refine wp_region_C (rowsPh w9 w.heap.size gk (1 + L.length) cap zs (Lib.compact zs ++ List.replicate (zs.length - (Lib.compact zs).length) 0) hr9) [17] rfl (by kernel_rfl) (by kernel_rfl) (by kernel_rfl) (by kernel_rfl) ?_
        iterate 7 (refine lc1 fun K hK => ?_; go_big_quiet_step (fail); refine wpQuiet_nil (hK _ ?_); clear hK K)
        (refine lcv (v := .int .i64 ((1 + L.length : Nat) : Int)) (fun W hW => by skip; go_simp) fun K hK => ?_; go_big_quiet_step (fail); refine wpQuiet_nil (hK _ ?_); clear hK K)
        iterate 2 (refine lc1 fun K hK => ?_; go_big_quiet_step (fail); refine wpQuiet_nil (hK _ ?_); clear hK K)
        refine lexc_make (d := 46) (r := belowHeld nx) (by kernel_rfl) (fun _ _ _ h _ => h) (by kernel_rfl) (fun _ _ h => by cases h) (by kernel_rfl) rfl (fun W hW => by
          obtain ⟨v, h1, h2⟩ := xL W hW
          exact ⟨.int .i64 v, W, by go_simp, Turns.refl W, v, rfl, h2⟩) ?_
        iterate 2 (refine lc1 fun K hK => ?_; go_big_quiet_step (fail); refine wpQuiet_nil (hK _ ?_); clear hK K)
        refine lexc_valx 46 (r := belowHeld nx) (v := .bool true) (by kernel_rfl) (by kernel_rfl) (fun _ _ h => by cases h) rfl (by simp) (by kernel_rfl) (by kernel_rfl) (by kernel_rfl) (by kernel_rfl) (fun x W _ hx => by
          obtain ⟨v, rfl, h2⟩ := hx
          have h3 : decide (v < nx) = true := by simpa using h2
          go_simp) (lexc_put (type := 0) (pos := "") (fun K hK => ?_)); go_big_quiet_step (fail); refine wpQuiet_nil (hK _ ?_); clear hK K
        iterate 3 (refine lc1 fun K hK => ?_; go_big_quiet_step (fail); refine wpQuiet_nil (hK _ ?_); clear hK K)
        (refine lcr 0 (f := 150) (args := #[.slice (some ⟨gk, 0, none⟩) (1 + L.length) cap]) (v := .slice (some ⟨gk, 0, none⟩) (Lib.compact zs).length cap) (fun W hW => compact_row hzl (by omega) (by omega) hW) fun K hK => ?_; go_big_quiet_step (fail); refine wpQuiet_nil (hK _ ?_); clear hK K)
        (refine lcv (v := .int .i64 ((Lib.compact zs).length : Int)) (fun W hW => by skip; go_simp) fun K hK => ?_; go_big_quiet_step (fail); refine wpQuiet_nil (hK _ ?_); clear hK K)
        iterate 2 (refine lc1 fun K hK => ?_; go_big_quiet_step (fail); refine wpQuiet_nil (hK _ ?_); clear hK K)
        (refine lcv (v := .int .i64 (L.length : Int)) (fun W hW => by skip; go_simp) fun K hK => ?_; go_big_quiet_step (fail); refine wpQuiet_nil (hK _ ?_); clear hK K)
        iterate 4 (refine lc1 fun K hK => ?_; go_big_quiet_step (fail); refine wpQuiet_nil (hK _ ?_); clear hK K)
        refine lcn ?_
        intro W10 hK10 hp10
        simp only [hideAll]
        intro y hy
        clear hy
        have hbb : Below w.heap.size w9 W10 := Kept.below hK10 b9.size (fun j hj => by omega)
        go_wp2
        go_ret
        have hfin : (((Lib.compact zs).length : Int) == (L.length : Int) + 1) = decide ((Lib.compact zs).length = L.length + 1) := by
          rw [Bool.eq_iff_iff]
          simp
          omega
        exact ⟨by rw [HW.out, ← hfin]; rfl, b9.trans hbb⟩
      · have t1 : decide ((0 : Int) ≤ zs[0]) = true := by simpa using hA
        have t2 : decide (zs[zs.length - 1] < nx) = false := by simpa using hB
        have HW := Lib.hid (show V = false by rw [HV.out, t1, t2]; rfl)
        have x0 := grow_cell e0
        have xL := grow_cell eL
        have x1 := grow_cell d1
        have x3 := grow_cell d3
        clear HV
        generalize zs[0] = z0 at *
        generalize zs[zs.length - 1] = zl at *
        go_wp2_with fail
        refine wp_region_at (R := GrowR) (by kernel_rfl) (by kernel_rfl) ?_
        iterate 7 (refine lx1 fun K hK => ?_; go_big_quiet_step (fail); refine wpQuiet_nil (hK _ ?_); clear hK K)
        (refine lxv (v := .int .i64 ((1 + L.length : Nat) : Int)) (fun _ _ => by go_simp) fun K hK => ?_; go_big_quiet_step (fail); refine wpQuiet_nil (hK _ ?_); clear hK K)
        iterate 9 (refine lx1 fun K hK => ?_; go_big_quiet_step (fail); refine wpQuiet_nil (hK _ ?_); clear hK K)
        (refine lx0 fun K hK => ?_; go_big_quiet_step (fail); refine wpQuiet_nil (hK _ ?_); clear hK K)
        (refine lx0 fun K hK => ?_; go_big_quiet_step (fail); refine wpQuiet_nil (hK _ ?_); clear hK K)
        iterate 2 (refine lx1 fun K hK => ?_; go_big_quiet_step (fail); refine wpQuiet_nil (hK _ ?_); clear hK K)
        (refine lx0 fun K hK => ?_; go_big_quiet_step (fail); refine wpQuiet_nil (hK _ ?_); clear hK K)
        iterate 4 (refine lx1 fun K hK => ?_; go_big_quiet_step (fail); refine wpQuiet_nil (hK _ ?_); clear hK K)
        refine lxn ?_
        intro W10 hb10
        simp only [hideAll]
        go_wp2
        go_ret
        exact ⟨by rw [HW.out]; rfl, b9.trans (Below.mono hb10 b9.size)⟩
    · have t1 : decide ((0 : Int) ≤ zs[0]) = false := by simpa using hA
      have HW := Lib.hid (show V = false by rw [HV.out, t1]; rfl)
      have x0 := grow_cell e0
      have x1 := grow_cell d1
      have x3 := grow_cell d3
      clear HV
      generalize zs[0] = z0 at *
      go_wp2_with fail
      refine wp_region_at (R := GrowR) (by kernel_rfl) (by kernel_rfl) ?_
      iterate 7 (refine lx1 fun K hK => ?_; go_big_quiet_step (fail); refine wpQuiet_nil (hK _ ?_); clear hK K)
      (refine lx0 fun K hK => ?_; go_big_quiet_step (fail); refine wpQuiet_nil (hK _ ?_); clear hK K)
      iterate 9 (refine lx1 fun K hK => ?_; go_big_quiet_step (fail); refine wpQuiet_nil (hK _ ?_); clear hK K)
      (refine lx0 fun K hK => ?_; go_big_quiet_step (fail); refine wpQuiet_nil (hK _ ?_); clear hK K)
      (refine lx0 fun K hK => ?_; go_big_quiet_step (fail); refine wpQuiet_nil (hK _ ?_); clear hK K)
      iterate 2 (refine lx1 fun K hK => ?_; go_big_quiet_step (fail); refine wpQuiet_nil (hK _ ?_); clear hK K)
      (refine lx0 fun K hK => ?_; go_big_quiet_step (fail); refine wpQuiet_nil (hK _ ?_); clear hK K)
      iterate 4 (refine lx1 fun K hK => ?_; go_big_quiet_step (fail); refine wpQuiet_nil (hK _ ?_); clear hK K)
      refine lxn ?_
      intro W10 hb10
      simp only [hideAll]
      go_wp2
      go_ret
      exact ⟨by rw [HW.out]; rfl, b9.trans (Below.mono hb10 b9.size)⟩
  · have hV : validM ⟨g, nx, wl, L⟩ = false := by
      cases hv : validM ⟨g, nx, wl, L⟩ with
      | false => rfl
      | true => exact absurd ((validM_iff _).1 hv).1 hin
    rw [hV]
    go_enter Tryz.func81, Tryz.ntmps81
    by_cases i1 : 1 ≤ g
    · have f1 : decide (g < 1) = false := by simp; omega
      by_cases i2 : g ≤ 3
      · have f2 : decide (3 < g) = false := by simp; omega
        by_cases i3 : 0 ≤ nx
        · have f3 : decide (nx < 0) = false := by simp; omega
          by_cases i4 : nx ≤ 999999
          · have f4 : decide (999999 < nx) = false := by simp; omega
            have f5 : decide ((40 : Int) < (L.length : Int)) = true := by simp; omega
            have f5' : decide (40 < L.length) = true := by simp; omega
            go_wp2
            go_ret
            exact ⟨rfl, b0⟩
          · have f4 : decide (999999 < nx) = true := by simp; omega
            go_wp2
            go_ret
            exact ⟨rfl, b0⟩
        · have f3 : decide (nx < 0) = true := by simp; omega
          go_wp2
          go_ret
          exact ⟨rfl, b0⟩
      · have f2 : decide (3 < g) = true := by simp; omega
        go_wp2
        go_ret
        exact ⟨rfl, b0⟩
    · have f1 : decide (g < 1) = true := by simp; omega
      go_wp2
      go_ret
      exact ⟨rfl, b0⟩
end Go.Proofs.YtgagcncmlonciaaGreatDoor
namespace Go.Proofs.YtgagcncmlonciaaGreatDoor
open Go.RowKit Go.Maps Go.WideMaps
attribute [local go_sem] bs_toList bs_size

theorem drewN_below (w : World) (n : Nat) : Below w.heap.size w (w.drewN n) := ⟨rfl, rfl, rfl, Nat.le_refl _, fun _ _ => rfl⟩
/-- Alike? -/
def sameM (m n : Mt) : Bool := m.gen == n.gen && (m.next == n.next && (m.wal == n.wal && m.blocks == n.blocks))
theorem sameM_iff (m n : Mt) : sameM m n = true ↔ m = n := by
  unfold sameM
  simp only [Bool.and_eq_true, beq_iff_eq]
  constructor
  · rintro ⟨h1, h2, h3, h4⟩
    exact Mt.ext' h1 h2 h3 h4
  · rintro rfl
    exact ⟨rfl, rfl, rfl, rfl⟩
end Go.Proofs.YtgagcncmlonciaaGreatDoor
namespace Go.Proofs.YtgagcncmlonciaaGreatDoor
open Go.RowKit Go.Maps Go.WideMaps
attribute [local go_sem] bs_toList bs_size

theorem builderString_any (B b : Nat) (l : List UInt8) (w : World) (h : BldAt B b l w) (hBw : B ≤ w.heap.size) :
    Calls Tryz.prog 122 #[.pointer (some ⟨b, 0, none⟩)] w fun e w' => e = .returned (.string (bs l)) ∧ BldAt B b l w' ∧ Below B w w' := Tryz.Builder_String_any_f B b l w h hBw
set_option maxRecDepth 100000 in
set_option maxHeartbeats 2000000 in
theorem numbers_any (g : Int) (L : List Int) (v : Value) (w : World) (h : IntsAt w v L) :
    Calls Tryz.prog 82 #[.int .i64 g, v] w fun e w' => e = .returned (.string (bs (L.flatMap (numB g)))) ∧ Below w.heap.size w w' := by
  obtain ⟨a, c, rfl, _, hn, _, hc⟩ := h
  have HC := Lib.hid hc
  clear hc
  go_enter Tryz.func82, Tryz.ntmps82
  go_wp2
  go_loopw [10] (fun vi wr => ∃ (i : Nat) (l : List UInt8), i ≤ L.length ∧ vi = .int .i64 (i : Int) ∧ l = (L.take i).flatMap (numB g) ∧ l.length ≤ i * 10 ∧ BldAt w.heap.size w.heap.size l wr ∧ Below w.heap.size w wr) (fun vi _ => L.length - (intOf vi).toNat)
  case atStart => exact ⟨0, [], Nat.zero_le _, rfl, rfl, Nat.zero_le _, BldAt.fresh w, one_alloc w _⟩
  obtain ⟨i, l, hi, rfl, hl, hll, hB, hb⟩ := hrel
  rcases (show i < L.length ∨ i = L.length by omega) with hil | rfl
  · have HL := Lib.hid (show l ++ numB g L[i] = (L.take (i + 1)).flatMap (numB g) by
      rw [List.take_succ_eq_append_getElem hil, List.flatMap_append, hl]; simp)
    obtain ⟨b, o, rfl, d0⟩ := HC.out i _ (List.getElem?_eq_getElem hil)
    have e0 := (hb.cell (World.block_lt_of_cell? _ _ d0)).trans d0
    have hnl := numB_len g L[i]
    clear d0 hl
    generalize L[i] = x at *
    have hu := u64N_wrap x
    have hult := u64N_lt x
    have HB := Lib.hid (fun W (hW : Below wr.heap.size wr W) => (⟨hB.below hW, hb.trans (hW.mono hb.size)⟩ : BldAt w.heap.size w.heap.size l W ∧ Below w.heap.size w W))
    clear hB
    have Q := Lib.hid (fun W (hW : BldAt w.heap.size w.heap.size l W) (hs : w.heap.size ≤ W.heap.size) => write_any w.heap.size w.heap.size l (numB g x) W hW (by omega) hs)
    by_cases hg : g = 1
    · have f1 : (g == 1) = true := by simpa using hg
      have hN : numB g x = Num.wide (u64N x) := by unfold numB; rw [if_pos hg]
      rw [hN] at HL hnl Q
      have q1 := Lib.hid (num_Wide_any (u64N x) wr (by omega) (by omega))
      rw [Int.toNat_natCast] at q1
      clear hN hg
      generalize Num.wide (u64N x) = y at *
      go_wp2_with fail
      refine q1.out.mono ?_
      rintro e w1 ⟨rfl, hb1⟩
      obtain ⟨hB1, hbb⟩ := HB.out w1 hb1
      go_wp2_with fail
      refine (Q.out w1 hB1 hbb.size).mono ?_
      rintro e w3 ⟨rfl, hB3, hb3⟩
      go_wp2_with fail
      go_roundw
      case rel => exact ⟨i + 1, l ++ y, by omega, by go_num, HL.out, by rw [List.length_append]; omega, hB3, hbb.trans hb3⟩
      case measure => simp [intOf]; omega
    · have f1 : (g == 1) = false := by simpa using hg
      have hN : numB g x = Num.small (u64N x) := by unfold numB; rw [if_neg hg]
      rw [hN] at HL hnl Q
      have q1 := Lib.hid (num_Small_any (u64N x) wr (by omega) (by omega))
      rw [Int.toNat_natCast] at q1
      clear hN hg
      generalize Num.small (u64N x) = y at *
      go_wp2_with fail
      refine q1.out.mono ?_
      rintro e w1 ⟨rfl, hb1⟩
      obtain ⟨hB1, hbb⟩ := HB.out w1 hb1
      go_wp2_with fail
      refine (Q.out w1 hB1 hbb.size).mono ?_
      rintro e w3 ⟨rfl, hB3, hb3⟩
      go_wp2_with fail
      go_roundw
      case rel => exact ⟨i + 1, l ++ y, by omega, by go_num, HL.out, by rw [List.length_append]; omega, hB3, hbb.trans hb3⟩
      case measure => simp [intOf]; omega
  · rw [List.take_length] at hl
    subst hl
    have Q := Lib.hid (builderString_any _ _ _ _ hB hb.size)
    go_wp2_with fail
    refine Q.out.mono ?_
    rintro e w3 ⟨rfl, hB3, hb3⟩
    go_wp2_with fail
    go_ret
    exact ⟨rfl, hb.trans hb3⟩
end Go.Proofs.YtgagcncmlonciaaGreatDoor
namespace Go.Proofs.YtgagcncmlonciaaGreatDoor
open Go.RowKit

/-- A row that is full, and its cells. -/
def FullRow (k : Nat) (olds : List Value) : Held := fun x W => ∃ p, x = .slice (some ⟨p, 0, none⟩) k k ∧ ∀ j u, olds[j]? = some u → W.cell? ((⟨p, 0, none⟩ : Addr).add j) = some u
theorem FullRow_keeps {k : Nat} {olds : List Value} : (FullRow k olds).keeps GrowR := fun _ _ _ ⟨p, h1, h2⟩ hR => ⟨p, h1, fun j u hu => (Below.cell hR (World.block_lt_of_cell? _ _ (h2 j u hu))).trans (h2 j u hu)⟩
/-- A row, and its cells. -/
def RowHeld (k : Nat) (vals : List Value) : Held := fun x W => ∃ p c, x = .slice (some ⟨p, 0, none⟩) k c ∧ ∀ j u, vals[j]? = some u → W.cell? ((⟨p, 0, none⟩ : Addr).add j) = some u
theorem RowHeld_keeps {k : Nat} {olds : List Value} : (RowHeld k olds).keeps GrowR := fun _ _ _ ⟨p, c, h1, h2⟩ hR => ⟨p, c, h1, fun j u hu => (Below.cell hR (World.block_lt_of_cell? _ _ (h2 j u hu))).trans (h2 j u hu)⟩
theorem add_at (p j : Nat) : (⟨p, 0, none⟩ : Addr).add j = ⟨p, j, none⟩ := by unfold Addr.add; split <;> simp_all

section
variable {P : Program} {ops : Array Oper} {w0 : World} {n : Nat} {ds : List Deferred} {F : Act → World → Prop} {rest : List Oper} {H : List (Tmp × Held)} {a : Act} {o : Oper}
theorem lex_full (d k : Nat) (news : List Value)
    (hw : Region.wanted o (yielded ops a.tmps) = true) (hns : ∀ cs b, o.op ≠ .select cs b) (hl : looksFree ops H o = true) (hd : o.dst = some d) (E : TypeId)
    (hr : ∀ w, (execOp a.eval o).run P w = .ok (.value (.slice (some ⟨w.heap.size, 0, none⟩) k k)) (w.alloc (.cells news.toArray E)))
    (h : lexAt GrowR P ops w0 n ds F rest ((d, FullRow k news) :: H) a) : lexAt GrowR P ops w0 n ds F (o :: rest) H a := by
  refine lex_make FullRow_keeps hw hns hl hd (fun w hW => ⟨_, _, hr w, (Below.refl _ w).alloc (Nat.le_refl _) _, w.heap.size, rfl, fun j u hu => ?_⟩) h
  rw [add_at, World.cell?_alloc_new]
  simpa using hu
theorem lex_appfull {s x d : Tmp} {t e : TypeId} {i : TypeInfo} {z : Value} {size bytes k m c : Nat} {ba : Option Addr} {olds news : List Value} (hgd : o.guard = none) (ho : o.op = .call { callee := .builtin .append, args := #[.tmp s, .tmp x], argTypes := #[t, t] }) (hd : o.dst = some d)
    (ht : P.underlying t = some (.slice e)) (hi : P.info? e = some i) (hz : i.zero = some z) (hsize : i.size = size) (hby : i.bytes = bytes) (_hzs : z.cells.size = size)
    (hsn : heldBy H s = some (FullRow k olds)) (hxn : heldBy H x = none) (hx : a.eval (.tmp x) = .slice ba m c) (h0 : ba = none → m = 0 ∧ c = 0) (hol : olds.length = k * size) (hl : news.length = m * size)
    (hnews : ∀ a', ba = some a' → ∀ j u, news[j]? = some u → w0.cell? (a'.add j) = some u) (h63 : k + m ≤ maxLen) (hbytes : (k + m) * bytes ≤ 140737488355328)
    (h : lexAt GrowR P ops w0 n ds F rest ((d, RowHeld (k + m) (olds ++ news)) :: H) a) : lexAt GrowR P ops w0 n ds F (o :: rest) H a := by
  refine lex_any RowHeld_keeps (fun cc w hR hf => .inr ⟨?_, fun K Q' hK => ?_⟩) hd h
  · unfold Region.wanted
    rw [hgd]
  · have hes := hf s (by simp [Oper.looksAt, ho, hgd, Op.operands, Call.operands])
    have hex := hf x (by simp [Oper.looksAt, ho, hgd, Op.operands, Call.operands])
    unfold fits at hes hex
    rw [hsn] at hes
    rw [hxn] at hex
    obtain ⟨p, hes, hc⟩ := hes
    simp only at hex
    rw [hx] at hex
    have hrun : ∃ v' w', (Builtin.append_ #[t, t] o.type #[.slice (some ⟨p, 0, none⟩) k k, .slice ba m c]).run P w = .ok v' w' ∧ GrowR w w' ∧ RowHeld (k + m) (olds ++ news) v' w' := by
      by_cases hm : m = 0
      · subst hm
        obtain rfl : news = [] := List.length_eq_zero_iff.1 (by simpa using hl)
        have hs : Src P i.size t (.slice ba 0 c) 0 [] w := by
          cases ba with
          | none => exact Src.ofNil w ht c
          | some a' => exact Src.ofSlice w ht a' 0 c [] (by simp) (fun j u hu => by simp at hu) (fun u hu => by cases hu)
        refine ⟨_, w, run_append_nothing w t t o.type e i ht hi (some ⟨p, 0, none⟩) k k (Nat.le_refl _) _ hs, Below.refl _ _, p, k, rfl, fun j u hu => hc j u (by simpa using hu)⟩
      · cases ba with
        | none => exact absurd (h0 rfl).1 hm
        | some a' =>
          have hn : ∀ j u, news[j]? = some u → w.cell? (a'.add j) = some u := fun j u hu => (Below.cell hR (World.block_lt_of_cell? _ _ (hnews a' rfl j u hu))).trans (hnews a' rfl j u hu)
          have hfit : Builtin.nextslicecap (k + m) k * i.bytes ≤ 281474976710656 := by
            have h1 := Nat.mul_le_mul_right i.bytes (nextslicecap_le (show k < k + m by omega))
            rw [hby] at h1 ⊢
            rw [Nat.mul_assoc] at h1
            omega
          have hr := run_append_grow (P := P) (w := w) t o.type e i z ht hi hz ⟨p, 0, none⟩ k k olds (by rw [hsize]; exact hol) hc a' m c news (by rw [hsize]; exact hl) hn (by omega) (by unfold maxLen at h63; omega) hfit
          refine ⟨_, _, hr, ((Below.refl w.heap.size w).drew).alloc (Nat.le_refl _) _, w.heap.size, _, rfl, fun j u hu => ?_⟩
          rw [add_at]
          have hj : j < (olds ++ news).length := (List.getElem?_eq_some_iff.1 hu).1
          rw [show w.heap.size = w.drew.heap.size from rfl, World.cell?_alloc_new]
          rw [Array.getElem?_append_left (by simpa using hj)]
          simpa using hu
    obtain ⟨v', w', hr, h2, h3⟩ := hrun
    unfold Oper.wp execOp
    simp only [ho, resolve, invoke, builtin, Sem.run_bind, Sem.run_pure, Result.andThen_ok, List.map_toArray, List.map_cons, List.map_nil, hes, hex, hr]
    exact hK _ _ h2 h3
end
end Go.Proofs.YtgagcncmlonciaaGreatDoor
namespace Go.Proofs.YtgagcncmlonciaaGreatDoor
open Go.RowKit Go.Maps Go.WideMaps
attribute [local go_sem] bs_toList bs_size

theorem ints_of_row {w : World} {x : Value} {L : List Int} (h : RowHeld L.length (L.map (Value.int .i64)) x w) (hl : L.length ≤ 100000) (hb : ∀ y ∈ L, -9223372036854775808 ≤ y ∧ y ≤ 9223372036854775807) : IntsAt w x L := by
  obtain ⟨p, c, rfl, hc⟩ := h
  refine ⟨_, c, rfl, (fun e => by cases e), hl, hb, fun i y hy => ⟨p, 0, rfl, ?_⟩⟩
  have := hc i (.int .i64 y) (by rw [List.getElem?_map, hy]; rfl)
  rw [add_at] at this
  rw [Nat.zero_add]
  exact this
theorem ints_lit {w : World} (L : List Int) (hl : L.length ≤ 100000) (hb : ∀ y ∈ L, -9223372036854775808 ≤ y ∧ y ≤ 9223372036854775807) : IntsAt (w.alloc (.cells (L.map (Value.int .i64)).toArray 3)) (.slice (some ⟨w.heap.size, 0, none⟩) L.length L.length) L := by
  refine ⟨_, L.length, rfl, (fun e => by cases e), hl, hb, fun i y hy => ⟨w.heap.size, 0, rfl, ?_⟩⟩
  rw [Nat.zero_add, World.cell?_alloc_new]
  simp [hy]
def putMV (m : Mt) : Value := .tuple #[.string (bs (putM m).1), .int .i64 (putM m).2]
set_option maxRecDepth 100000 in
set_option maxHeartbeats 4000000 in
theorem Put_any (m : Mt) (bv : Value) (w : World) (hm : m.ok) (hb : IntsAt w bv m.blocks) :
    Calls Tryz.prog 38 #[mtV m bv] w fun e w' => e = .returned (putMV m) ∧ Below w.heap.size w w' := by
  have hv := Lib.hid (validM_iff m)
  have hbl := Lib.hid (body_len m)
  have HP := Lib.hid (show putMV m = if validM m then .tuple #[.string (bs (headB magicM m.gen.toNat 0 ++ framePut (bodyB m))), .int .i64 0] else .tuple #[.string ⟨#[]⟩, .int .i64 1] by unfold putMV putM; split <;> rfl)
  obtain ⟨g, nx, wl, L⟩ := m
  simp only at hv hbl hb
  have HB := Lib.hid (show bodyB ⟨g, nx, wl, L⟩ = if g < 3 then (nx :: wl :: (L.length : Int) :: L).flatMap (numB g) else [nx, nx - wl, (L.length : Int)].flatMap (numB g) ++ dltB 0 L from rfl)
  obtain ⟨ba, bc, rfl, hnil, hL, hLb, hc⟩ := id hb
  rw [show mtV ⟨g, nx, wl, L⟩ (.slice ba L.length bc) = .agg #[.int .i64 g, .int .i64 nx, .int .i64 wl, .slice ba L.length bc] from rfl]
  have b0 := one_alloc w (.cells #[.int .i64 g, .int .i64 nx, .int .i64 wl, .slice ba L.length bc] 53)
  have k0 := Blk.new w 53 #[.int .i64 g, .int .i64 nx, .int .i64 wl, .slice ba L.length bc]
  obtain ⟨⟨c0, c1, c2, c3⟩, _⟩ := cells4 k0
  have hb1 := hb.below b0
  have qv := Lib.hid (Valid_any ⟨g, nx, wl, L⟩ (.slice ba L.length bc) _ hm hb1)
  rw [show mtV ⟨g, nx, wl, L⟩ (.slice ba L.length bc) = .agg #[.int .i64 g, .int .i64 nx, .int .i64 wl, .slice ba L.length bc] from rfl] at qv
  generalize putMV ⟨g, nx, wl, L⟩ = PV at *
  go_enter Tryz.func38, Tryz.ntmps38
  go_wp2_with fail
  refine qv.out.mono ?_
  rintro e w1 ⟨rfl, b1⟩
  have k1 := Blk.below k0 b1 k0.lt
  have hb2 := hb1.below b1
  have B1 := b0.trans (b1.mono b0.size)
  obtain ⟨⟨d0, d1, d2, d3⟩, _⟩ := cells4 k1
  clear qv k0 c0 c1 c2 c3 b0 b1 hb1 hc hnil
  cases hvv : validM ⟨g, nx, wl, L⟩ with
  | false =>
    have HY := Lib.hid (show PV = .tuple #[.string ⟨#[]⟩, .int .i64 1] by rw [HP.out, hvv]; rfl)
    clear HP HB hv hbl hvv
    go_wp2
    go_ret2
    exact ⟨by rw [HY.out]; rfl, B1⟩
  | true =>
    obtain ⟨⟨i1, i2, i3, i4, i5⟩, i6, _⟩ := hv.out.1 hvv
    have hwl := i6 wl List.mem_cons_self
    have hbb := hbl.out i5
    have HY := Lib.hid (show PV = .tuple #[.string (bs (headB magicM g.toNat 0 ++ framePut (bodyB ⟨g, nx, wl, L⟩))), .int .i64 0] by rw [HP.out, hvv]; rfl)
    clear HP hv hbl hvv
    generalize bodyB ⟨g, nx, wl, L⟩ = BD at *
    have qh := Lib.hid (fun W => Head_any magicM g.toNat 0 (by omega) (by omega) (by decide) W)
    rw [Int.toNat_of_nonneg (show 0 ≤ g by omega)] at qh
    have qf := Lib.hid (fun W => framePut_any BD (by omega) W)
    have hhl : (headB magicM g.toNat 0).length ≤ 20 := by unfold headB; rw [checkedB_len]; simp [magicM]
    have hfl : (framePut BD).length ≤ 1000 := by unfold framePut; rw [checkedB_len, Num.text_len]; have := Num.small_len BD.length; omega
    generalize framePut BD = FB at *
    generalize headB magicM g.toNat 0 = HD at *
    by_cases hg3 : g < 3
    · have f1 : decide (g < 3) = true := by simpa using hg3
      have HBd := Lib.hid (show BD = (nx :: wl :: (L.length : Int) :: L).flatMap (numB g) by rw [HB.out, if_pos hg3])
      clear HB hg3
      have x0 := grow_cell d0
      have x1 := grow_cell d1
      have x2 := grow_cell d2
      have x3 := grow_cell d3
      have ⟨i0, hin, hz0, hz1, hz2⟩ := info_parts (show (Tryz.prog.info? 3).map (fun i => (i.zero, i.size, i.bytes)) = some (some (.int .i64 0), 1, 8) by kernel_rfl)
      obtain ⟨_, _, e1, hnil, _, _, hc⟩ := id hb2
      obtain ⟨rfl, _, rfl⟩ := Value.slice.inj e1
      have h00 : ba = none → L.length = 0 ∧ bc = 0 := fun e => by
        refine ⟨?_, hnil e⟩
        cases L with
        | nil => rfl
        | cons x L =>
          obtain ⟨_, _, e2, _⟩ := hc 0 x rfl
          rw [e] at e2
          cases e2
      go_wp2_with fail
      refine wp_region_at (R := GrowR) (by kernel_rfl) (by kernel_rfl) ?_
      iterate 8 (refine lx1 fun K hK => ?_; go_big_quiet_step (fail); refine wpQuiet_nil (hK _ ?_); clear hK K)
      (refine lxv (v := .int .i64 (L.length : Int)) (fun _ _ => by go_simp) fun K hK => ?_; go_big_quiet_step (fail); refine wpQuiet_nil (hK _ ?_); clear hK K)
      refine lex_full 23 3 [.int .i64 nx, .int .i64 wl, .int .i64 (L.length : Int)] (by kernel_rfl) (fun _ _ h => by cases h) (by kernel_rfl) rfl 3 (fun w => by go_simp) ?_
      iterate 2 (refine lx1 fun K hK => ?_; go_big_quiet_step (fail); refine wpQuiet_nil (hK _ ?_); clear hK K)
      refine lex_appfull (s := 23) (x := 25) (d := 26) (k := 3) (m := L.length) (olds := [.int .i64 nx, .int .i64 wl, .int .i64 (L.length : Int)]) (news := L.map (Value.int .i64)) rfl rfl rfl Tryz.underlying51 hin hz0 hz1 hz2 rfl rfl rfl rfl h00 rfl (by simp) (ints_cells hc) (by unfold maxLen; omega) (by omega) ?_
      refine lex_callx 26 (r := RowHeld (3 + L.length) ([.int .i64 nx, .int .i64 wl, .int .i64 (L.length : Int)] ++ L.map (Value.int .i64))) (v := .string (bs BD)) (by kernel_rfl) (fun _ _ h => by cases h) rfl (by simp) (by kernel_rfl) (by kernel_rfl) (by kernel_rfl) (by kernel_rfl) (fun x W hW hx => by
        have hi := ints_of_row (L := nx :: wl :: (L.length : Int) :: L) (by rw [show (nx :: wl :: (L.length : Int) :: L).length = 3 + L.length by simp; omega]; exact hx) (by simp; omega) (fun y hy => by
          rcases List.mem_cons.1 hy with rfl | hy
          · omega
          · rcases List.mem_cons.1 hy with rfl | hy
            · omega
            · rcases List.mem_cons.1 hy with rfl | hy
              · omega
              · exact hLb y hy)
        obtain ⟨p, c, rfl, _⟩ := hx
        refine ⟨82, #[.int .i64 g, .slice (some ⟨p, 0, none⟩) (3 + L.length) c], by go_simp, ?_⟩
        rw [HBd.out]
        exact numbers_any g _ _ W hi) (lex_put (type := 0) (pos := "") (fun K hK => ?_)); go_big_quiet_step (fail); refine wpQuiet_nil (hK _ ?_); clear hK K
      (refine lx1 fun K hK => ?_; go_big_quiet_step (fail); refine wpQuiet_nil (hK _ ?_); clear hK K)
      refine lxn ?_
      intro w3 hb3
      simp only [hideAll]
      intro y1 hy1 y2 hy2
      clear hy1 hy2
      simp only [Act.put, List.setIfInBounds_toArray, List.set_cons_succ, List.set_cons_zero]
      have k3 := Blk.below k1 hb3 k1.lt
      have B3 := B1.trans (Below.mono hb3 B1.size)
      obtain ⟨⟨e0, e1, e2, e3⟩, _⟩ := cells4 k3
      clear x0 x1 x2 x3 k1 d0 d1 d2 d3 hb3 hc
      go_wp2_with fail
      refine (qh.out _).mono ?_
      rintro e w4 ⟨rfl, b4⟩
      have B4 := B3.trans (b4.mono B3.size)
      go_wp2_with fail
      refine (qf.out _).mono ?_
      rintro e w5 ⟨rfl, b5⟩
      have B5 := B4.trans (b5.mono B4.size)
      go_wp2_with fail
      go_ret2
      exact ⟨by rw [HY.out]; rfl, B5⟩
    · have f1 : decide (g < 3) = false := by simpa using hg3
      have hg : g = 3 := by omega
      subst hg
      have HBd := Lib.hid (show BD = [nx, nx - wl, (L.length : Int)].flatMap (numB 3) ++ dltB 0 L by rw [HB.out, if_neg hg3])
      clear HB hg3
      have li := ints_lit (w := w1) [nx, nx - wl, (L.length : Int)] (by simp) (fun y hy => by
        simp only [List.mem_cons, List.not_mem_nil, or_false] at hy
        rcases hy with rfl | rfl | rfl <;> omega)
      have qn := Lib.hid (numbers_any 3 _ _ _ li)
      have hpl := flat_len 3 [nx, nx - wl, (L.length : Int)]
      have hsub := wr64_id (nx - wl) (by omega) (by omega)
      generalize [nx, nx - wl, (L.length : Int)].flatMap (numB 3) = PR at *
      have b2 := one_alloc w1 (.cells #[.int .i64 nx, .int .i64 (nx - wl), .int .i64 (L.length : Int)] 3)
      clear li
      go_wp2_with fail
      refine qn.out.mono ?_
      rintro e w3 ⟨rfl, b3⟩
      have b23 : Below w1.heap.size w1 w3 := b2.trans (Below.mono b3 b2.size)
      have k3 := Blk.below k1 b23 k1.lt
      have B3 := B1.trans (b23.mono B1.size)
      have hb4 := hb2.below b23
      obtain ⟨⟨e0, e1, e2, e3⟩, _⟩ := cells4 k3
      obtain ⟨_, _, e4, _, _, _, hc⟩ := hb4
      obtain ⟨rfl, _, rfl⟩ := Value.slice.inj e4
      have HC := Lib.hid hc
      have HLb := Lib.hid (show ∀ x ∈ L, 0 ≤ x ∧ x ≤ 999999 from fun x hx => by have := i6 x (List.mem_cons_of_mem _ hx); omega)
      clear qn b2 b3 b23 k1 d0 d1 d2 d3 hc e4 i6 hLb hb hb2
      go_wp2_with fail
      go_loopw [4, 5, 45] (fun v4 v5 v45 wr => ∃ (i : Nat) (s : List UInt8) (last : Int), i ≤ L.length ∧ v45 = .int .i64 (i : Int) ∧ v4 = .string (bs s) ∧ v5 = .int .i64 last ∧ 0 ≤ last ∧ last ≤ 999999 ∧ s.length ≤ 30 + i * 10 ∧ s ++ dltB last (L.drop i) = PR ++ dltB 0 L ∧ Below w3.heap.size w3 wr) (fun _ _ v45 _ => L.length - (intOf v45).toNat)
      case atStart => exact ⟨0, PR, 0, Nat.zero_le _, rfl, rfl, rfl, by omega, by omega, by simpa using hpl, rfl, Below.refl _ _⟩
      obtain ⟨i, s, last, hi, rfl, rfl, rfl, hl0, hl1, hsl, hinv, hbw⟩ := hrel
      have HI := Lib.hid hinv
      clear hinv
      have k4 := Blk.below k3 hbw k3.lt
      have B4 := B3.trans (hbw.mono B3.size)
      obtain ⟨⟨d0, d1, d2, d3⟩, _⟩ := cells4 k4
      clear e0 e1 e2 e3 k3
      by_cases hil : i < L.length
      · obtain ⟨b, o, rfl, cx⟩ := HC.out i _ (List.getElem?_eq_getElem hil)
        have cx' := (hbw.cell (World.block_lt_of_cell? _ _ cx)).trans cx
        have hxb := HLb.out L[i] (List.getElem_mem hil)
        have HD := Lib.hid (show dltB last (L.drop i) = Num.small (Num.zigI (L[i] - last)).toNat ++ dltB L[i] (L.drop (i + 1)) by rw [List.drop_eq_getElem_cons hil]; rfl)
        generalize L[i] = x at *
        have hz := Num.zig_bd (x - last) (by omega) (by omega)
        have qz := Lib.hid (fun W => num_Zig_any (x - last) W (by omega) (by omega))
        have qs := Lib.hid (fun W => num_Small_any (Num.zigI (x - last)) W hz.1 hz.2)
        have hsm := (Num.small_len (Num.zigI (x - last)).toNat).2
        have hsub2 := wr64_id (x - last) (by omega) (by omega)
        have HN := Lib.hid (show (s ++ Num.small (Num.zigI (x - last)).toNat) ++ dltB x (L.drop (i + 1)) = PR ++ dltB 0 L by rw [List.append_assoc, ← HD.out, HI.out])
        generalize Num.small (Num.zigI (x - last)).toNat = y at *
        generalize Num.zigI (x - last) = z at *
        clear cx HD
        go_wp2_with fail
        refine (qz.out _).mono ?_
        rintro e _ ⟨rfl, rfl⟩
        go_wp2_with fail
        refine (qs.out _).mono ?_
        rintro e wr2 ⟨rfl, hb2⟩
        go_wp2_with fail
        go_roundw
        case rel => exact ⟨i + 1, s ++ y, x, by omega, by go_num, rfl, rfl, hxb.1, hxb.2, by rw [List.length_append]; omega, HN.out, hbw.trans (hb2.mono hbw.size)⟩
        case measure => simp [intOf]; omega
      · obtain rfl : i = L.length := by omega
        have hs : s = BD := by
          have := HI.out
          rw [List.drop_length, show dltB last [] = [] from rfl, List.append_nil, ← HBd.out] at this
          exact this
        subst hs
        go_wp2_with fail
        refine (qh.out _).mono ?_
        rintro e w5 ⟨rfl, b5⟩
        have B5 := B4.trans (b5.mono B4.size)
        go_wp2_with fail
        refine (qf.out _).mono ?_
        rintro e w6 ⟨rfl, b6⟩
        have B6 := B5.trans (b6.mono B5.size)
        go_wp2_with fail
        go_ret2
        exact ⟨by rw [HY.out]; rfl, B6⟩
end Go.Proofs.YtgagcncmlonciaaGreatDoor
namespace Go.Proofs.YtgagcncmlonciaaGreatDoor
open Go.RowKit

/-- A cursor's states, one behind another, by calls of a row. -/
def curPh (w0 : World) (g : Nat) (cs : List CS) (c0 : CS) (h0 : cs[0]? = some c0) (hC : Cur w0 g c0.1 c0.2) : Phases where
  ph q w := Kept w0 w (fun k => k = g) ∧ ∃ c, cs[q]? = some c ∧ Cur w g c.1 c.2
  K a b := Kept a b (fun k => k = g)
  w0 := w0
  start := ⟨Kept.refl _ _, c0, h0, hC⟩
  refl w := Kept.refl w _
  trans h k := h.trans k
  grow h := Kept.of_below h
  stay h k := ⟨h.1.trans (Kept.of_below k), by obtain ⟨c, h1, h2⟩ := h.2; exact ⟨c, h1, Blk.below h2 k h2.lt⟩⟩
theorem cur_row {P : Program} {f : FuncId} {args : Array Value} {w0 w : World} {g q : Nat} {cs : List CS} {c0 c c' : CS} {h0 : cs[0]? = some c0} {hC : Cur w0 g c0.1 c0.2} {v : Value} (hw : (curPh w0 g cs c0 h0 hC).ph q w) (hc : cs[q]? = some c) (hc' : cs[q + 1]? = some c')
    (h : Cur w g c.1 c.2 → Calls P f args w fun e w' => e = .returned v ∧ Cur w' g c'.1 c'.2 ∧ w.grownBy w' (some g)) :
    Calls P f args w fun e w' => e = .returned v ∧ (curPh w0 g cs c0 h0 hC).K w w' ∧ (curPh w0 g cs c0 h0 hC).ph (q + 1) w' := by
  obtain ⟨h1, c2, h2, h3⟩ := hw
  obtain rfl : c2 = c := by rw [hc] at h2; exact (Option.some.inj h2).symm
  refine (h h3).mono ?_
  rintro e w' ⟨rfl, h4, h5⟩
  have hk : Kept w w' (fun k => k = g) := Kept.of_grown h5 fun k e => (Option.some.inj e).symm
  exact ⟨rfl, hk, h1.trans hk, c', hc', h4⟩

/-- An operation of the row that answers nothing. -/
theorem lexc_do {S : Phases} {ch : List Nat} {P : Program} {ops : Array Oper} {n k : Nat} {ds : List Deferred} {F : Act → World → Prop} {rest : List Oper} {H : List (Tmp × Held)} {a : Act} {o : Oper} (q : Nat) (hi : ch.contains k = true) (hq : ch.idxOf k = q) (hgd : o.guard = none) (hns : ∀ cs b, o.op ≠ .select cs b) (hl : looksFree ops H o = true) (hd : o.dst = none)
    (hr : ∀ w, S.ph q w → ∃ w', (execOp a.eval o).run P w = .ok .skip w' ∧ S.K w w' ∧ S.ph (q + 1) w')
    (h : lexAtC S ch P ops n ds F (k + 1) rest H a) : lexAtC S ch P ops n ds F k (o :: rest) H a := by
  refine ⟨fun _ _ => True, fun _ _ _ _ _ => trivial, svQ hi hq fun c w hb hs => ⟨by unfold Region.wanted; rw [hgd], fun K Q' hK => ?_⟩, ?_⟩
  · have he := eval_of_fits hl hs
    obtain ⟨w', h1, h2, h3⟩ := hr w hb
    unfold Oper.wp
    rw [exec_of_fits hns he, h1]
    exact hK _ _ h2 h3 trivial
  · have : (fun t => if o.dst = some t then (fun _ _ => True : Held) else fits H a t) = fits H a := by
      funext t
      rw [hd]
      simp
    rw [this]
    exact h
end Go.Proofs.YtgagcncmlonciaaGreatDoor
namespace Go.Proofs.YtgagcncmlonciaaGreatDoor
open Go.RowKit Go.Maps Go.WideMaps
attribute [local go_sem] bs_toList bs_size

theorem numG_len (g : Int) (most : Nat) (c : CS) : (numG g most c).2.1.length ≤ c.1.length := by
  unfold numG
  have h1 := wN_len c
  have h2 := sN_len c
  split
  · split <;> assumption
  · split <;> assumption
theorem numG_bd (g : Int) (most : Nat) (c : CS) : 0 ≤ (numG g most c).1 ∧ (numG g most c).1 ≤ most := by
  obtain ⟨a, h1, _⟩ := sV_nat c
  obtain ⟨b, h2, _⟩ := wV_nat c
  unfold numG
  by_cases hg : g = 1
  · simp only [if_pos hg]
    rw [h2]
    by_cases h : (most : Int) < b
    · rw [if_pos h]
      exact ⟨Int.le_refl _, by simp⟩
    · rw [if_neg h]
      exact ⟨by simp, by simp only; omega⟩
  · simp only [if_neg hg]
    rw [h1]
    by_cases h : (most : Int) < a
    · rw [if_pos h]
      exact ⟨Int.le_refl _, by simp⟩
    · rw [if_neg h]
      exact ⟨by simp, by simp only; omega⟩
set_option maxRecDepth 100000 in
set_option maxHeartbeats 2000000 in
theorem number_any (bg gc : Nat) (g : Int) (most : Nat) (c : CS) (w : World) (hg : Blk w bg 3 #[.int .i64 g]) (hC : Cur w gc c.1 c.2) (hm : most ≤ 999999) (hl : c.1.length ≤ 1000000) :
    Calls Tryz.prog 112 #[.int .i64 (most : Int), .pointer (some ⟨bg, 0, none⟩), .pointer (some ⟨gc, 0, none⟩)] w fun e w' => e = .returned (.int .i64 (numG g most c).1) ∧ Cur w' gc (numG g most c).2.1 (numG g most c).2.2 ∧ w.grownBy w' (some gc) := by
  have cg := (Blk.cell hg 0).trans (show _ = some (Value.int .i64 g) from rfl)
  have hu := u64N_wrap (most : Int)
  have hu2 : ((u64N (most : Int) : Nat) : Int) = (most : Int) := (u64N_pos most (by omega) (by omega)).1
  rw [hu2] at hu
  have q1 := Lib.hid (CWd gc c w hC (by omega))
  have q2 := Lib.hid (CSm gc c w hC (by omega))
  have HN := Lib.hid (show numG g most c = if (most : Int) < (if g = 1 then wV c else sV c) then (0, ((if g = 1 then wN c else sN c).1, true)) else (if g = 1 then wV c else sV c, if g = 1 then wN c else sN c) from rfl)
  generalize numG g most c = R at *
  go_enter Tryz.func112, Tryz.ntmps112
  by_cases h1 : g = 1
  · have f1 : (g == 1) = true := by simpa using h1
    simp only [if_pos h1] at HN
    clear h1
    obtain ⟨v, hv, hv2⟩ := wV_nat c
    rw [hv] at HN q1
    generalize wN c = c2 at *
    clear hv q2
    go_wp2_with fail
    refine q1.out.mono ?_
    rintro e w2 ⟨rfl, hC2, hg2⟩
    by_cases hlt : (most : Int) < (v : Int)
    · have f2 : decide ((most : Int) < (v : Int)) = true := by simpa using hlt
      have f2' : decide (most < v) = true := by simp; omega
      have HR := Lib.hid (show R = (0, (c2.1, true)) by rw [HN.out, if_pos hlt])
      have d1 := hC2.c1
      have fz := Blk.frozen hC2 1
      clear HN hlt
      go_wp2_with fail
      go_ret
      rw [HR.out]
      exact ⟨rfl, Blk.set_ hC2 1 (.bool true), grown_trans' hg2 (grown_set _ _ _ _)⟩
    · have f2 : decide ((most : Int) < (v : Int)) = false := by simpa using hlt
      have f2' : decide (most < v) = false := by simp; omega
      have HR := Lib.hid (show R = ((v : Int), c2) by rw [HN.out, if_neg hlt])
      have hw := wr64_id (v : Int) (by omega) (by omega)
      unfold wr64 at hw
      clear HN hlt
      go_wp2_with fail
      go_ret
      rw [HR.out]
      exact ⟨rfl, hC2, hg2⟩
  · have f1 : (g == 1) = false := by simpa using h1
    simp only [if_neg h1] at HN
    clear h1
    obtain ⟨v, hv, hv2⟩ := sV_nat c
    rw [hv] at HN q2
    generalize sN c = c2 at *
    clear hv q1
    go_wp2_with fail
    refine q2.out.mono ?_
    rintro e w2 ⟨rfl, hC2, hg2⟩
    by_cases hlt : (most : Int) < (v : Int)
    · have f2 : decide ((most : Int) < (v : Int)) = true := by simpa using hlt
      have f2' : decide (most < v) = true := by simp; omega
      have HR := Lib.hid (show R = (0, (c2.1, true)) by rw [HN.out, if_pos hlt])
      have d1 := hC2.c1
      have fz := Blk.frozen hC2 1
      clear HN hlt
      go_wp2_with fail
      go_ret
      rw [HR.out]
      exact ⟨rfl, Blk.set_ hC2 1 (.bool true), grown_trans' hg2 (grown_set _ _ _ _)⟩
    · have f2 : decide ((most : Int) < (v : Int)) = false := by simpa using hlt
      have f2' : decide (most < v) = false := by simp; omega
      have HR := Lib.hid (show R = ((v : Int), c2) by rw [HN.out, if_neg hlt])
      have hw := wr64_id (v : Int) (by omega) (by omega)
      unfold wr64 at hw
      clear HN hlt
      go_wp2_with fail
      go_ret
      rw [HR.out]
      exact ⟨rfl, hC2, hg2⟩
theorem curPh_blk {w0 : World} {g : Nat} {cs : List CS} {c0 : CS} {h0 : cs[0]? = some c0} {hC : Cur w0 g c0.1 c0.2} {q : Nat} {w : World} {b : Nat} {T : TypeId} {xs : Array Value} (h : (curPh w0 g cs c0 h0 hC).ph q w) (hb : Blk w0 b T xs) (hn : b ≠ g) : Blk w b T xs := hb.keptK h.1 hn
theorem blkG_len (g : Int) : ∀ (q : Nat) (last : Int) (c : CS), (blkG g q last c).1.length = q
  | 0, _, _ => rfl
  | q + 1, last, c => by
    unfold blkG
    split
    · simp only [List.length_cons]
      rw [blkG_len g q]
    · simp only [List.length_cons]
      rw [blkG_len g q]
theorem results_ct {P : Program} {fn : Func} {p u : Tmp} {ty : TypeId} (h : fn.results = #[.cell p ty, .tmp u]) (tmps : Array Value) (w : World) (g : Nat) (tb : TypeId) (cs : Array Value) (d : TypeDesc)
    (hp : tmps.getD p undef = .pointer (some ⟨g, 0, none⟩)) (hg : Blk w g tb cs)
    (hu : P.underlying ty = some d) (hd : (match d with | .struct _ | .array _ _ => true | _ => false) = true) (hi : (P.info? ty).map (·.size) = some cs.size) :
    (results fn tmps).run P w = .ok (.tuple #[.agg cs, tmps.getD u undef]) w := by
  have hp' : tmps[p]?.getD undef = .pointer (some ⟨g, 0, none⟩) := by simpa using hp
  simp [results, h, hp', asAddr, run_loadVar_row w g tb ty cs (0, 0) d hg hu hd hi]
theorem set4 {W : World} {b : Nat} {T : TypeId} {u0 u1 u2 u3 : Value} (h : Blk W b T #[u0, u1, u2, u3]) (v0 v1 v2 v3 : Value) :
    Blk ((((W.setCell ⟨b, 0, none⟩ v0).setCell ⟨b, 1, none⟩ v1).setCell ⟨b, 2, none⟩ v2).setCell ⟨b, 3, none⟩ v3) b T #[v0, v1, v2, v3] ∧
      Kept W ((((W.setCell ⟨b, 0, none⟩ v0).setCell ⟨b, 1, none⟩ v1).setCell ⟨b, 2, none⟩ v2).setCell ⟨b, 3, none⟩ v3) (fun k => k = b) :=
  ⟨Blk.set_ (Blk.set_ (Blk.set_ (Blk.set_ h 0 v0) 1 v1) 2 v2) 3 v3, Kept.of_grown (grown_trans' (grown_trans' (grown_trans' (grown_set _ _ _ _) (grown_set _ _ _ _)) (grown_set _ _ _ _)) (grown_set _ _ _ _)) fun _ e => (Option.some.inj e).symm⟩
theorem row_form {w : World} {B : Nat} {e : TypeId} {size c : Nat} {v : Value} {xs : List Value} (h : w.ownsRow B e size v c xs) : ∃ a cap, v = .slice a c cap := by
  rcases h.2 with ⟨e, e0⟩ | ⟨g, cap, cur, e, _⟩
  · exact ⟨none, 0, by rw [e, e0]⟩
  · exact ⟨_, _, e⟩
def stPh (w0 : World) (g : Nat) (T : TypeId) (cs' : Array Value) : Phases where
  ph q w := (q = 0 ∧ GrowR w0 w) ∨ (q ≠ 0 ∧ Kept w0 w (fun k => k = g) ∧ Blk w g T cs')
  K _ _ := True
  w0 := w0
  start := .inl ⟨rfl, Below.refl _ _⟩
  refl _ := trivial
  trans _ _ := trivial
  grow _ := trivial
  stay h k := by
    rcases h with ⟨h1, h2⟩ | ⟨h1, h2, h3⟩
    · exact .inl ⟨h1, h2.trans (Below.mono k h2.size)⟩
    · exact .inr ⟨h1, h2.trans (Kept.of_below k), Blk.below h3 k h3.lt⟩
theorem stPh_cell {w0 : World} {g : Nat} {T : TypeId} {cs' : Array Value} {p : Addr} {v : Value} (hp : w0.cell? p = some v) (hn : p.block ≠ g) : ∀ x : PW (stPh w0 g T cs'), x.w.cell? p = some v := fun x => by
  obtain ⟨q, hq⟩ := x.2
  rcases hq with ⟨_, h2⟩ | ⟨_, h2, _⟩
  · exact (Kept.of_below (S := fun k => k = g) h2).cell hp hn
  · exact h2.cell hp hn

theorem ints_of_own {w : World} {B n : Nat} {v : Value} {A : List Int} (h : w.ownsRow B 3 1 v n (A.map (Value.int .i64))) (hn : A.length = n) (hl : A.length ≤ 100000) (hb : ∀ x ∈ A, -9223372036854775808 ≤ x ∧ x ≤ 9223372036854775807) : IntsAt w v A := by
  subst hn
  rcases h.2 with ⟨e, e0⟩ | ⟨g, cap, cur, e, _⟩
  · refine ⟨none, 0, by rw [e, e0], fun _ => rfl, hl, hb, fun i x hx => ?_⟩
    rw [List.length_eq_zero_iff.1 e0] at hx
    simp at hx
  · refine ⟨some ⟨g, 0, none⟩, cap, e, (fun e => by cases e), hl, hb, fun i x hx => ⟨g, 0, rfl, ?_⟩⟩
    have h1 := h.cells (g := g) (by rw [e]; rfl) i (.int .i64 x) (by rw [List.getElem?_map, hx]; rfl)
    rw [add_at] at h1
    rw [Nat.zero_add]
    exact h1
theorem cells_list_new (w : World) (xs : List Value) (t : TypeId) : ∀ j u, xs[j]? = some u → (w.alloc (.cells xs.toArray t)).cell? ((⟨w.heap.size, 0, none⟩ : Addr).add j) = some u := fun j u h => by
  rw [add_at, World.cell?_alloc_new]
  simpa using h
theorem done_st {wr W : World} {gc k : Nat} {c : CS} {T : TypeId} {cs' : Array Value} (hC : Cur wr gc c.1 c.2) (hn : gc ≠ k) (hW : ∃ q, (stPh wr k T cs').ph q W) : Calls Tryz.prog 115 #[.pointer (some ⟨gc, 0, none⟩)] W fun e w' => e = .returned (.bool (doneB c.1 c.2)) ∧ GrowR W w' := by
  have hCW : Cur W gc c.1 c.2 := by
    obtain ⟨q, hq⟩ := hW
    rcases hq with ⟨_, h⟩ | ⟨_, h, _⟩
    · exact Blk.below hC h hC.lt
    · exact hC.keptK h hn
  refine (CDone gc c.1 c.2 W hCW).mono ?_
  rintro e w' ⟨rfl, rfl⟩
  exact ⟨rfl, Below.refl _ _⟩
theorem wr64_bd (n : Int) : -9223372036854775808 ≤ wr64 n ∧ wr64 n ≤ 9223372036854775807 := by
  unfold wr64
  simp only [IntKind.wrap, IntKind.bits, IntKind.signed]
  simp
  omega
/-- What read answers. -/
def readV (m : Mt) (bv : Value) (ok : Bool) : Value := .tuple #[mtV m bv, .bool ok]
set_option maxRecDepth 100000 in
set_option maxHeartbeats 4000000 in
theorem read_any (s : List UInt8) (g : Int) (w : World) (hs : s.length ≤ 1000000) (g1 : -9223372036854775808 ≤ g) (g2 : g ≤ 9223372036854775807) :
    Calls Tryz.prog 64 #[.string (bs s), .int .i64 g] w fun e w' => ∃ bv, e = .returned (readV (readM s g).1 bv (doneB (readM s g).2.1 (readM s g).2.2)) ∧ IntsAt w' bv (readM s g).1.blocks ∧ (∀ k, bv.ownBlock = some k → w.heap.size ≤ k) ∧ Below w.heap.size w w' := by
  have HR := Lib.hid (show readM s g = (⟨g, (numG g 999999 (s, false)).1, if g = 3 then (numG g 999999 (s, false)).1 - (numG g 999999 (numG g 999999 (s, false)).2).1 else (numG g 999999 (numG g 999999 (s, false)).2).1, (blkG g (numG g 40 (numG g 999999 (numG g 999999 (s, false)).2).2).1.toNat 0 (numG g 40 (numG g 999999 (numG g 999999 (s, false)).2).2).2).1⟩, (blkG g (numG g 40 (numG g 999999 (numG g 999999 (s, false)).2).2).1.toNat 0 (numG g 40 (numG g 999999 (numG g 999999 (s, false)).2).2).2).2) from rfl)
  generalize readM s g = RM at *
  have l1 := numG_len g 999999 (s, false)
  have e1 := numG_bd g 999999 (s, false)
  obtain ⟨⟨a1, k1⟩, hA1⟩ : ∃ x, numG g 999999 (s, false) = x := ⟨_, rfl⟩
  have l2 := numG_len g 999999 k1
  have e2 := numG_bd g 999999 k1
  rw [hA1] at HR l1 e1
  simp only at HR l1 e1
  obtain ⟨⟨a2, k2⟩, hA2⟩ : ∃ x, numG g 999999 k1 = x := ⟨_, rfl⟩
  have l3 := numG_len g 40 k2
  have e3 := numG_bd g 40 k2
  rw [hA2] at HR l2 e2
  simp only at HR l2 e2
  obtain ⟨⟨a3, k3⟩, hA3⟩ : ∃ x, numG g 40 k2 = x := ⟨_, rfl⟩
  rw [hA3] at HR l3 e3
  simp only at HR l3 e3
  have hC0 : Cur (((w.alloc (.cells #[.int .i64 g] 3)).alloc (.cells #[.int .i64 0, .int .i64 0, .int .i64 0, .slice none 0 0] 53)).alloc (.cells #[.string (bs s), .bool false] 199)) (w.heap.size + 2) s false := by
    have := Blk.new ((w.alloc (.cells #[.int .i64 g] 3)).alloc (.cells #[.int .i64 0, .int .i64 0, .int .i64 0, .slice none 0 0] 53)) 199 #[.string (bs s), .bool false]
    rw [World.size_alloc, World.size_alloc] at this
    exact this
  have kN : Blk (((w.alloc (.cells #[.int .i64 g] 3)).alloc (.cells #[.int .i64 0, .int .i64 0, .int .i64 0, .slice none 0 0] 53)).alloc (.cells #[.string (bs s), .bool false] 199)) (w.heap.size + 1) 53 #[.int .i64 0, .int .i64 0, .int .i64 0, .slice none 0 0] := by
    have := (Blk.new (w.alloc (.cells #[.int .i64 g] 3)) 53 #[.int .i64 0, .int .i64 0, .int .i64 0, .slice none 0 0]).alloc (.cells #[.string (bs s), .bool false] 199)
    rw [World.size_alloc] at this
    exact this
  have kB : Blk (((w.alloc (.cells #[.int .i64 g] 3)).alloc (.cells #[.int .i64 0, .int .i64 0, .int .i64 0, .slice none 0 0] 53)).alloc (.cells #[.string (bs s), .bool false] 199)) w.heap.size 3 #[.int .i64 g] := ((Blk.new w 3 #[.int .i64 g]).alloc _).alloc _
  have b0 : Below w.heap.size w (((w.alloc (.cells #[.int .i64 g] 3)).alloc (.cells #[.int .i64 0, .int .i64 0, .int .i64 0, .slice none 0 0] 53)).alloc (.cells #[.string (bs s), .bool false] 199)) := (((Below.refl _ w).alloc (Nat.le_refl _) _).alloc (by simp) _).alloc (by simp; omega) _
  have hcb := (Blk.cell kB 0).trans (show _ = some (Value.int .i64 g) from rfl)
  have K1 := Lib.hid (fun W (hB : Blk W w.heap.size 3 #[.int .i64 g]) (hC : Cur W (w.heap.size + 2) s false) => number_any w.heap.size (w.heap.size + 2) g 999999 (s, false) W hB hC (by omega) hs)
  have K2 := Lib.hid (fun W (hB : Blk W w.heap.size 3 #[.int .i64 g]) (hC : Cur W (w.heap.size + 2) k1.1 k1.2) => number_any w.heap.size (w.heap.size + 2) g 999999 k1 W hB hC (by omega) (by omega))
  rw [hA1] at K1
  rw [hA2] at K2
  go_enter Tryz.func64, Tryz.ntmps64
  go_wp2_with fail
  generalize ((w.alloc (.cells #[.int .i64 g] 3)).alloc (.cells #[.int .i64 0, .int .i64 0, .int .i64 0, .slice none 0 0] 53)).alloc (.cells #[.string (bs s), .bool false] 199) = W0 at *
  have hgl := hC0.lt
  have hbx : ∀ x : PW (curPh W0 (w.heap.size + 2) [(s, false), k1, k2] (s, false) rfl hC0), x.w.cell? ⟨w.heap.size, 0, none⟩ = some (.int .i64 g) := fun x => by
    obtain ⟨W, q, hq⟩ := x
    exact (Blk.cell (curPh_blk hq kB (by omega)) 0).trans rfl
  refine wp_region_ledC (curPh W0 (w.heap.size + 2) [(s, false), k1, k2] (s, false) rfl hC0) [2, 4] rfl (by kernel_rfl) (by kernel_rfl) rfl (by kernel_rfl) (by kernel_rfl) (by kernel_rfl) ?_
  iterate 2 (refine lc1 fun K hK => ?_; go_big_quiet_step (fail); refine wpQuiet_nil (hK _ ?_); clear hK K)
  (refine lcr 0 (f := 112) (args := #[.int .i64 999999, .pointer (some ⟨w.heap.size, 0, none⟩), .pointer (some ⟨w.heap.size + 2, 0, none⟩)]) (v := .int .i64 a1) (fun W hW => cur_row hW rfl rfl (K1.out W (curPh_blk hW kB (by omega)))) fun K hK => ?_; go_big_quiet_step (fail); refine wpQuiet_nil (hK _ ?_); clear hK K)
  (refine lc1 fun K hK => ?_; go_big_quiet_step (fail); refine wpQuiet_nil (hK _ ?_); clear hK K)
  (refine lcr 1 (f := 112) (args := #[.int .i64 999999, .pointer (some ⟨w.heap.size, 0, none⟩), .pointer (some ⟨w.heap.size + 2, 0, none⟩)]) (v := .int .i64 a2) (fun W hW => cur_row hW rfl rfl (K2.out W (curPh_blk hW kB (by omega)))) fun K hK => ?_; go_big_quiet_step (fail); refine wpQuiet_nil (hK _ ?_); clear hK K)
  (refine lcv (v := .agg #[.int .i64 g, .int .i64 a1, .int .i64 a2, .slice none 0 0]) (fun W hW => by skip; go_simp) fun K hK => ?_; go_big_quiet_step (fail); refine wpQuiet_nil (hK _ ?_); clear hK K)
  refine lexc_make (d := 8) (r := fun x w1 => ∃ b, x = .pointer (some ⟨b, 0, none⟩) ∧ W0.heap.size ≤ b ∧ Blk w1 b 53 #[.int .i64 0, .int .i64 0, .int .i64 0, .slice none 0 0]) (by kernel_rfl) ?_ (by kernel_rfl) (fun _ _ h => by cases h) (by kernel_rfl) rfl (fun W hW => ?_) ?_
  · rintro x W W' ⟨b, rfl, hb, hB⟩ hk
    exact ⟨b, rfl, hb, hB.keptK hk (by omega)⟩
  · obtain ⟨q, hk, _⟩ := hW
    exact ⟨.pointer (some ⟨W.heap.size, 0, none⟩), W.alloc (.cells #[.int .i64 0, .int .i64 0, .int .i64 0, .slice none 0 0] 53), by go_simp, one_alloc W _, W.heap.size, rfl, hk.size, Blk.new _ _ _⟩
  refine lcn ?_
  rintro W1 hK1 ⟨_, c3, hc3, hC3⟩
  obtain rfl : k2 = c3 := Option.some.inj hc3
  simp only [hideAll]
  rintro x ⟨b, rfl, hbb, hB⟩
  simp only [Act.put, List.setIfInBounds_toArray, List.set_cons_succ, List.set_cons_zero]
  have hb1 : Below w.heap.size w W1 := b0.trans (Kept.below hK1 b0.size (fun k hk => by omega))
  have kB1 : Blk W1 w.heap.size 3 #[.int .i64 g] := kB.keptK hK1 (by omega)
  have kN1 : Blk W1 (w.heap.size + 1) 53 #[.int .i64 0, .int .i64 0, .int .i64 0, .slice none 0 0] := kN.keptK hK1 (by omega)
  have hbw : w.heap.size + 3 ≤ b := by have := hC0.lt; omega
  obtain ⟨⟨c0, c1, c2, c3'⟩, z0, z1, z2, z3⟩ := cells4 hB
  obtain ⟨hB2, hK2⟩ := set4 hB (.int .i64 g) (.int .i64 a1) (.int .i64 a2) (.slice none 0 0)
  have hC4 := Blk.keptK hC3 hK2 (by omega)
  have kB2 := kB1.keptK hK2 (by omega)
  have kN2 := kN1.keptK hK2 (by omega)
  have hb2 := hb1.trans (Kept.below hK2 hb1.size (fun k hk => by omega))
  have cg2 := (Blk.cell kB2 0).trans (show _ = some (Value.int .i64 g) from rfl)
  have ⟨i0, hin, hz0, hz1, hz2⟩ := info_parts (show (Tryz.prog.info? 3).map (fun i => (i.zero, i.size, i.bytes)) = some (some (.int .i64 0), 1, 8) by kernel_rfl)
  have K3 := Lib.hid (fun W (hB : Blk W w.heap.size 3 #[.int .i64 g]) (hC : Cur W (w.heap.size + 2) k2.1 k2.2) => number_any w.heap.size (w.heap.size + 2) g 40 k2 W hB hC (by omega) (by omega))
  rw [hA3] at K3
  obtain ⟨N, rfl⟩ : ∃ N : Nat, a3 = N := ⟨a3.toNat, by omega⟩
  rw [Int.toNat_natCast] at HR
  clear hK1 hC0 b0 kB kN hcb hbx K1 K2 hbb hgl hc3 hC3 kB1 kN1 hb1 hA1 hA2 hA3
  by_cases hg3 : g = 3
  · subst hg3
    obtain ⟨⟨x0, x1, x2, x3⟩, y0, y1, y2, y3⟩ := cells4 hB2
    have hsub := wr64_id (a1 - a2) (by omega) (by omega)
    unfold wr64 at hsub
    have hB3 := Blk.set_ hB2 2 (.int .i64 (a1 - a2))
    have hK3 : Kept _ _ (fun k => k = b) := Kept.of_grown (grown_set (((((W1.setCell ⟨b, 0, none⟩ (.int .i64 3)).setCell ⟨b, 1, none⟩ (.int .i64 a1)).setCell ⟨b, 2, none⟩ (.int .i64 a2)).setCell ⟨b, 3, none⟩ (.slice none 0 0))) b 2 (.int .i64 (a1 - a2))) fun _ e => (Option.some.inj e).symm
    have hC5 := Blk.keptK hC4 hK3 (by omega)
    have kB3 := kB2.keptK hK3 (by omega)
    have kN3 := kN2.keptK hK3 (by omega)
    have hb3 := hb2.trans (Kept.below hK3 hb2.size (fun k hk => by omega))
    go_wp2_with fail
    refine (K3.out _ kB3 hC5).mono ?_
    rintro e W3 ⟨rfl, hC6, hg6⟩
    have hk6 : Kept _ W3 (fun k => k = w.heap.size + 2) := Kept.of_grown hg6 fun k e => (Option.some.inj e).symm
    have hB6 := hB3.keptK hk6 (by omega)
    have kB6 := kB3.keptK hk6 (by omega)
    have kN6 := kN3.keptK hk6 (by omega)
    have hb6 := hb3.trans (Kept.below hk6 hb3.size (fun k hk => by omega))
    clear hk6 hg6 K3 hB2 kB2 kN2 hC4 hb2 cg2 hB3 kB3 kN3 hC5 hb3 x0 x1 x2 x3 y0 y1 y2 y3 c0 c1 c2 c3' z0 z1 z2 z3 hK2 hK3 hB
    go_wp2_with fail
    go_loopw [9, 29] (fun v9 v29 wr => ∃ (i : Nat) (last : Int) (c : CS) (A : List Int) (vl : Value), i ≤ N ∧ v29 = .int .i64 (i : Int) ∧ v9 = .int .i64 last ∧ (-9223372036854775808 ≤ last ∧ last ≤ 9223372036854775807) ∧ A.length = i ∧ blkG 3 N 0 k3 = (A ++ (blkG 3 (N - i) last c).1, (blkG 3 (N - i) last c).2) ∧ c.1.length ≤ 1000000 ∧ (∀ x ∈ A, -9223372036854775808 ≤ x ∧ x ≤ 9223372036854775807) ∧ Cur wr (w.heap.size + 2) c.1 c.2 ∧ Blk wr b 53 #[.int .i64 3, .int .i64 a1, .int .i64 (a1 - a2), vl] ∧ wr.ownsRow (w.heap.size + 1) 3 1 vl A.length (A.map (Value.int .i64)) ∧ Blk wr w.heap.size 3 #[.int .i64 3] ∧ Blk wr (w.heap.size + 1) 53 #[.int .i64 0, .int .i64 0, .int .i64 0, .slice none 0 0] ∧ Below w.heap.size w wr) (fun _ v29 _ => N - (intOf v29).toNat)
    case atStart => exact ⟨0, 0, k3, [], .slice none 0 0, Nat.zero_le _, rfl, rfl, ⟨by omega, by omega⟩, rfl, by simp, by omega, (fun x hx => by cases hx), hC6, hB6, World.ownsRow_nil _ _ _ _, kB6, kN6, hb6⟩
    clear hC6 hB6 kB6 kN6 hb6
    obtain ⟨_, last, c, A, vl, hi, rfl, rfl, hlast, rfl, hrec, hcl, hAb, hC, hB, hrow, kBx, kNx, hb⟩ := hrel
    have HREC := Lib.hid hrec
    clear hrec
    have cgx := (Blk.cell kBx 0).trans (show _ = some (Value.int .i64 3) from rfl)
    obtain ⟨va, vc, rfl⟩ := row_form hrow
    by_cases hil : A.length < N
    · have HX := Lib.hid (show blkG 3 (N - A.length) last c = (wr64 (last + Num.zagI (sV c)) :: (blkG 3 (N - (A.length + 1)) (wr64 (last + Num.zagI (sV c))) (sN c)).1, (blkG 3 (N - (A.length + 1)) (wr64 (last + Num.zagI (sV c))) (sN c)).2) by
        rw [show N - A.length = (N - (A.length + 1)) + 1 by omega, blkG, if_pos rfl])
      obtain ⟨v, hv, hv2⟩ := sV_nat c
      have hnl := sN_len c
      have q := Lib.hid (CSm (w.heap.size + 2) c wr hC (by omega))
      rw [hv] at HX q
      have hzb := Num.zag_bd (v : Int) (by omega) (by omega)
      have qz := Lib.hid (fun W => num_Zag_any (v : Int) W (by omega) (by omega))
      generalize Num.zagI (v : Int) = z at *
      obtain ⟨c', hc'⟩ : ∃ y, sN c = y := ⟨_, rfl⟩
      rw [hc'] at HX hnl q
      obtain ⟨x, hx⟩ : ∃ y, wr64 (last + z) = y := ⟨_, rfl⟩
      rw [hx] at HX
      have hxb := wr64_bd (last + z)
      rw [hx] at hxb
      unfold wr64 at hx
      clear hv hc'
      go_wp2_with fail
      refine q.out.mono ?_
      rintro e W5 ⟨rfl, hC5, hg5⟩
      go_wp2_with fail
      refine (qz.out _).mono ?_
      rintro e W4 ⟨rfl, hw4⟩
      subst hw4
      have hk5 : Kept wr W5 (fun k => k = w.heap.size + 2) := Kept.of_grown hg5 fun k e => (Option.some.inj e).symm
      have hB5 := hB.keptK hk5 (by omega)
      have kB5 := kBx.keptK hk5 (by omega)
      have kN5 := kNx.keptK hk5 (by omega)
      have hb5 := hb.trans (Kept.below hk5 hb.size (fun k hk => by omega))
      have hrow5 := ownsRow_kept hrow hk5 (fun k hk e => by have h1 := tag_row hrow hk; rw [e, tag_blk hC] at h1; simp at h1)
      clear q qz hg5 hk5 hB kBx kNx hb hrow hC cgx
      have hkB : w.heap.size ≤ W5.heap.size := hb5.size
      have hkB1 : w.heap.size + 1 ≤ W5.heap.size := by have := hB5.lt; omega
      obtain ⟨⟨z0, z1, z2, z3⟩, f0, f1, f2, f3⟩ := cells4 hB5
      have hrow6 := World.ownsRow.alloc hrow5 (.cells #[.int .i64 x] 3)
      have hB6 := Blk.alloc hB5 (.cells #[.int .i64 x] 3)
      have hC6 := Blk.alloc hC5 (.cells #[.int .i64 x] 3)
      have kB6 := Blk.alloc kB5 (.cells #[.int .i64 x] 3)
      have kN6 := Blk.alloc kN5 (.cells #[.int .i64 x] 3)
      have hb6 := hb5.alloc hkB (.cells #[.int .i64 x] 3)
      have hkB6 : w.heap.size + 1 ≤ (W5.alloc (.cells #[.int .i64 x] 3)).heap.size := by rw [World.size_alloc]; omega
      have hcn := cells_list_new W5 [.int .i64 x] 3
      have HK8 := Lib.hid (show ∀ w8, (W5.alloc (.cells #[.int .i64 x] 3)).grownBy w8 (Value.slice va A.length vc).ownBlock → Kept (W5.alloc (.cells #[.int .i64 x] 3)) w8 (fun k => (Value.slice va A.length vc).ownBlock = some k) from fun w8 h => Kept.of_grown h fun k e => e)
      have hvb : ∀ k, (Value.slice va A.length vc).ownBlock = some k → tag (W5.alloc (.cells #[.int .i64 x] 3)) k = some (some 3) := fun k hk => tag_row hrow6 hk
      have hnb : (Value.slice va A.length vc).ownBlock ≠ some b := fun e => by have := hvb b e; rw [tag_blk hB6] at this; simp at this
      have hnc : (Value.slice va A.length vc).ownBlock ≠ some (w.heap.size + 2) := fun e => by have := hvb _ e; rw [tag_blk hC6] at this; simp at this
      have hnn : (Value.slice va A.length vc).ownBlock ≠ some (w.heap.size + 1) := fun e => by have := hvb _ e; rw [tag_blk kN6] at this; simp at this
      have hlo : ∀ k, (Value.slice va A.length vc).ownBlock = some k → w.heap.size + 1 ≤ k := fun k hk => (hrow6.lt k hk).1
      clear hrow5 hB5
      go_wp2_with (at_builtin; refine wpList_append_own_at _ rfl _ _ 51 rfl (w.heap.size + 1) 3 i0 (.int .i64 0) 1 8 Tryz.underlying51 hin hz0 hz1 hz2 rfl (by decide) _ _ _ rfl hrow6 ⟨_, 0, none⟩ 1 1 [.int .i64 x] rfl rfl hcn (by simp [Value.oneCell']) (by unfold maxLen; omega) (by omega) hkB6 ?_; intro v' w8 hown' hgrow hnil hloc; obtain ⟨va', vc', rfl⟩ := row_form hown'; have hk8 := HK8.out w8 hgrow; have hB8 := hB6.keptK hk8 hnb; obtain ⟨⟨s0, s1, s2, s3⟩, t0, t1, t2, t3⟩ := cells4 hB8)
      have hnx : (Value.slice va A.length vc).ownBlock ≠ some w.heap.size := fun e => by have := hlo _ e; omega
      have hk9 : Kept w8 (w8.setCell ⟨b, 3, none⟩ (.slice va' (A.length + 1) vc')) (fun k => k = b) := Kept.of_grown (grown_set _ _ _ _) fun _ e => (Option.some.inj e).symm
      have hB9 := Blk.set_ hB8 3 (.slice va' (A.length + 1) vc')
      have hC9 := (hC6.keptK hk8 hnc).keptK hk9 (by omega)
      have kB9 := (kB6.keptK hk8 hnx).keptK hk9 (by omega)
      have kN9 := (kN6.keptK hk8 hnn).keptK hk9 (by omega)
      have hrow9 := ownsRow_kept hown' hk9 (fun k hk e => by have h1 := tag_row hown' hk; rw [e, tag_blk hB8] at h1; simp at h1)
      have hb8 := hb6.trans (Kept.below hk8 hb6.size (fun k hk => by have := hlo k hk; omega))
      have hb9 := hb8.trans (Kept.below hk9 hb8.size (fun k hk => by omega))
      go_roundw
      case rel =>
        refine ⟨A.length + 1, x, c', A ++ [x], .slice va' (A.length + 1) vc', by omega, by go_num, rfl, hxb, by simp, ?_, by omega, fun y hy => ?_, hC9, hB9, ?_, kB9, kN9, hb9⟩
        · rw [HREC.out, HX.out]
          simp
        · rcases List.mem_append.1 hy with hy | hy
          · exact hAb y hy
          · simp only [List.mem_singleton] at hy
            subst hy
            exact hxb
        · rw [List.length_append, List.map_append]
          exact hrow9
      case measure => simp [intOf]; omega
    · have hAN : A.length = N := by omega
      have hRM := Lib.hid (show RM = (⟨3, a1, (a1 - a2), A⟩, c) by
        rw [HR.out, HREC.out, show N - A.length = 0 by omega]
        simp [blkG])
      have hIA := ints_of_own hrow rfl (by omega) hAb
      obtain ⟨⟨z0, z1, z2, z3⟩, _⟩ := cells4 hB
      obtain ⟨⟨n0, n1, n2, n3⟩, m0, m1, m2, m3⟩ := cells4 kNx
      have p0 := stPh_cell (T := 53) (cs' := #[.int .i64 3, .int .i64 a1, .int .i64 (a1 - a2), .slice va A.length vc]) (g := w.heap.size + 1) z0 (show b ≠ w.heap.size + 1 by omega)
      have p1 := stPh_cell (T := 53) (cs' := #[.int .i64 3, .int .i64 a1, .int .i64 (a1 - a2), .slice va A.length vc]) (g := w.heap.size + 1) z1 (show b ≠ w.heap.size + 1 by omega)
      have p2 := stPh_cell (T := 53) (cs' := #[.int .i64 3, .int .i64 a1, .int .i64 (a1 - a2), .slice va A.length vc]) (g := w.heap.size + 1) z2 (show b ≠ w.heap.size + 1 by omega)
      have p3 := stPh_cell (T := 53) (cs' := #[.int .i64 3, .int .i64 a1, .int .i64 (a1 - a2), .slice va A.length vc]) (g := w.heap.size + 1) z3 (show b ≠ w.heap.size + 1 by omega)
      go_wp2_with fail
      refine wp_region_C (stPh wr (w.heap.size + 1) 53 #[.int .i64 3, .int .i64 a1, .int .i64 (a1 - a2), .slice va A.length vc]) [2] rfl (by kernel_rfl) (by kernel_rfl) (by kernel_rfl) (by kernel_rfl) ?_
      (refine lc1 fun K hK => ?_; go_big_quiet_step (fail); refine wpQuiet_nil (hK _ ?_); clear hK K)
      (refine lcc (f := 115) (args := #[.pointer (some ⟨w.heap.size + 2, 0, none⟩)]) (v := .bool (doneB c.1 c.2)) (fun W hW => done_st hC (by omega) hW) fun K hK => ?_; go_big_quiet_step (fail); refine wpQuiet_nil (hK _ ?_); clear hK K)
      refine lexc_do 0 (by kernel_rfl) (by kernel_rfl) rfl (fun _ _ h => by cases h) (by kernel_rfl) rfl (fun W hW => ?_) ?_
      · have hWb := (hW.resolve_right (fun e => e.1 rfl)).2
        have kW := Blk.below kNx hWb kNx.lt
        obtain ⟨⟨r0, r1, r2, r3⟩, s0, s1, s2, s3⟩ := cells4 kW
        have hs5 := set4 kW (.int .i64 3) (.int .i64 a1) (.int .i64 (a1 - a2)) (.slice va A.length vc)
        exact ⟨_, by go_simp, trivial, .inr ⟨by omega, (Kept.of_below hWb).trans hs5.2, hs5.1⟩⟩
      (refine lc1 fun K hK => ?_; go_big_quiet_step (fail); refine wpQuiet_nil (hK _ ?_); clear hK K)
      refine lcn ?_
      rintro WE _ hp
      obtain ⟨_, hkE, kE⟩ := hp.resolve_left (fun e => by cases e.1)
      simp only [hideAll]
      have hbE := hb.trans (Kept.below hkE hb.size (fun k hk => by omega))
      have hIE := hrow
      clear p0 p1 p2 p3 z0 z1 z2 z3 n0 n1 n2 n3 m0 m1 m2 m3
      go_wp2_with fail
      (try simp only [Exit.inBlock, Exit.then])
      refine bodyPost_ret (results_ct rfl _ _ (w.heap.size + 1) 53 _ _ rfl kE Tryz.underlying53 rfl (by kernel_rfl)) rfl ?_
      have hrE := ownsRow_kept hrow hkE (fun k hk e => by have h1 := tag_row hrow hk; rw [e, tag_blk kNx] at h1; simp at h1)
      refine ⟨.slice va A.length vc, ?_, ?_, (fun k hk => by have := (hrE.lt k hk).1; omega), hbE⟩
      · rw [hRM.out]
        rfl
      · rw [hRM.out]
        exact ints_of_own hrE rfl (show A.length ≤ 100000 by omega) hAb
  · have f3 : (g == 3) = false := by simpa using hg3
    rw [if_neg hg3] at HR
    go_wp2_with fail
    refine (K3.out _ kB2 hC4).mono ?_
    rintro e W3 ⟨rfl, hC6, hg6⟩
    have hk6 : Kept _ W3 (fun k => k = w.heap.size + 2) := Kept.of_grown hg6 fun k e => (Option.some.inj e).symm
    have hB6 := hB2.keptK hk6 (by omega)
    have kB6 := kB2.keptK hk6 (by omega)
    have kN6 := kN2.keptK hk6 (by omega)
    have hb6 := hb2.trans (Kept.below hk6 hb2.size (fun k hk => by omega))
    clear hk6 hg6 K3 hB2 kB2 kN2 hC4 hb2 cg2 c0 c1 c2 c3' z0 z1 z2 z3 hK2 hB
    go_wp2_with fail
    go_loopw [9, 29] (fun v9 v29 wr => ∃ (i : Nat) (last : Int) (c : CS) (A : List Int) (vl : Value), i ≤ N ∧ v29 = .int .i64 (i : Int) ∧ v9 = .int .i64 last ∧ (-9223372036854775808 ≤ last ∧ last ≤ 9223372036854775807) ∧ A.length = i ∧ blkG g N 0 k3 = (A ++ (blkG g (N - i) last c).1, (blkG g (N - i) last c).2) ∧ c.1.length ≤ 1000000 ∧ (∀ x ∈ A, -9223372036854775808 ≤ x ∧ x ≤ 9223372036854775807) ∧ Cur wr (w.heap.size + 2) c.1 c.2 ∧ Blk wr b 53 #[.int .i64 g, .int .i64 a1, .int .i64 a2, vl] ∧ wr.ownsRow (w.heap.size + 1) 3 1 vl A.length (A.map (Value.int .i64)) ∧ Blk wr w.heap.size 3 #[.int .i64 g] ∧ Blk wr (w.heap.size + 1) 53 #[.int .i64 0, .int .i64 0, .int .i64 0, .slice none 0 0] ∧ Below w.heap.size w wr) (fun _ v29 _ => N - (intOf v29).toNat)
    case atStart => exact ⟨0, 0, k3, [], .slice none 0 0, Nat.zero_le _, rfl, rfl, ⟨by omega, by omega⟩, rfl, by simp, by omega, (fun x hx => by cases hx), hC6, hB6, World.ownsRow_nil _ _ _ _, kB6, kN6, hb6⟩
    clear hC6 hB6 kB6 kN6 hb6
    obtain ⟨_, last, c, A, vl, hi, rfl, rfl, hlast, rfl, hrec, hcl, hAb, hC, hB, hrow, kBx, kNx, hb⟩ := hrel
    have HREC := Lib.hid hrec
    clear hrec
    have cgx := (Blk.cell kBx 0).trans (show _ = some (Value.int .i64 g) from rfl)
    obtain ⟨va, vc, rfl⟩ := row_form hrow
    by_cases hil : A.length < N
    · have HX := Lib.hid (show blkG g (N - A.length) last c = ((numG g 999999 c).1 :: (blkG g (N - (A.length + 1)) (numG g 999999 c).1 (numG g 999999 c).2).1, (blkG g (N - (A.length + 1)) (numG g 999999 c).1 (numG g 999999 c).2).2) by
        rw [show N - A.length = (N - (A.length + 1)) + 1 by omega, blkG, if_neg hg3])
      have hnl := numG_len g 999999 c
      have hnb' := numG_bd g 999999 c
      have q := Lib.hid (number_any w.heap.size (w.heap.size + 2) g 999999 c wr kBx hC (by omega) hcl)
      obtain ⟨⟨x, c'⟩, hx⟩ : ∃ y, numG g 999999 c = y := ⟨_, rfl⟩
      rw [hx] at HX hnl hnb' q
      simp only at HX hnl hnb' q
      have hxb : -9223372036854775808 ≤ x ∧ x ≤ 9223372036854775807 := by omega
      clear hx
      go_wp2_with fail
      refine q.out.mono ?_
      rintro e W5 ⟨rfl, hC5, hg5⟩
      have hk5 : Kept wr W5 (fun k => k = w.heap.size + 2) := Kept.of_grown hg5 fun k e => (Option.some.inj e).symm
      have hB5 := hB.keptK hk5 (by omega)
      have kB5 := kBx.keptK hk5 (by omega)
      have kN5 := kNx.keptK hk5 (by omega)
      have hb5 := hb.trans (Kept.below hk5 hb.size (fun k hk => by omega))
      have hrow5 := ownsRow_kept hrow hk5 (fun k hk e => by have h1 := tag_row hrow hk; rw [e, tag_blk hC] at h1; simp at h1)
      clear q hg5 hk5 hB kBx kNx hb hrow hC cgx
      have hkB : w.heap.size ≤ W5.heap.size := hb5.size
      have hkB1 : w.heap.size + 1 ≤ W5.heap.size := by have := hB5.lt; omega
      obtain ⟨⟨z0, z1, z2, z3⟩, f0, f1, f2, f3⟩ := cells4 hB5
      have hrow6 := World.ownsRow.alloc hrow5 (.cells #[.int .i64 x] 3)
      have hB6 := Blk.alloc hB5 (.cells #[.int .i64 x] 3)
      have hC6 := Blk.alloc hC5 (.cells #[.int .i64 x] 3)
      have kB6 := Blk.alloc kB5 (.cells #[.int .i64 x] 3)
      have kN6 := Blk.alloc kN5 (.cells #[.int .i64 x] 3)
      have hb6 := hb5.alloc hkB (.cells #[.int .i64 x] 3)
      have hkB6 : w.heap.size + 1 ≤ (W5.alloc (.cells #[.int .i64 x] 3)).heap.size := by rw [World.size_alloc]; omega
      have hcn := cells_list_new W5 [.int .i64 x] 3
      have HK8 := Lib.hid (show ∀ w8, (W5.alloc (.cells #[.int .i64 x] 3)).grownBy w8 (Value.slice va A.length vc).ownBlock → Kept (W5.alloc (.cells #[.int .i64 x] 3)) w8 (fun k => (Value.slice va A.length vc).ownBlock = some k) from fun w8 h => Kept.of_grown h fun k e => e)
      have hvb : ∀ k, (Value.slice va A.length vc).ownBlock = some k → tag (W5.alloc (.cells #[.int .i64 x] 3)) k = some (some 3) := fun k hk => tag_row hrow6 hk
      have hnb : (Value.slice va A.length vc).ownBlock ≠ some b := fun e => by have := hvb b e; rw [tag_blk hB6] at this; simp at this
      have hnc : (Value.slice va A.length vc).ownBlock ≠ some (w.heap.size + 2) := fun e => by have := hvb _ e; rw [tag_blk hC6] at this; simp at this
      have hnn : (Value.slice va A.length vc).ownBlock ≠ some (w.heap.size + 1) := fun e => by have := hvb _ e; rw [tag_blk kN6] at this; simp at this
      have hlo : ∀ k, (Value.slice va A.length vc).ownBlock = some k → w.heap.size + 1 ≤ k := fun k hk => (hrow6.lt k hk).1
      clear hrow5 hB5
      go_wp2_with (at_builtin; refine wpList_append_own_at _ rfl _ _ 51 rfl (w.heap.size + 1) 3 i0 (.int .i64 0) 1 8 Tryz.underlying51 hin hz0 hz1 hz2 rfl (by decide) _ _ _ rfl hrow6 ⟨_, 0, none⟩ 1 1 [.int .i64 x] rfl rfl hcn (by simp [Value.oneCell']) (by unfold maxLen; omega) (by omega) hkB6 ?_; intro v' w8 hown' hgrow hnil hloc; obtain ⟨va', vc', rfl⟩ := row_form hown'; have hk8 := HK8.out w8 hgrow; have hB8 := hB6.keptK hk8 hnb; obtain ⟨⟨s0, s1, s2, s3⟩, t0, t1, t2, t3⟩ := cells4 hB8)
      have hnx : (Value.slice va A.length vc).ownBlock ≠ some w.heap.size := fun e => by have := hlo _ e; omega
      have hk9 : Kept w8 (w8.setCell ⟨b, 3, none⟩ (.slice va' (A.length + 1) vc')) (fun k => k = b) := Kept.of_grown (grown_set _ _ _ _) fun _ e => (Option.some.inj e).symm
      have hB9 := Blk.set_ hB8 3 (.slice va' (A.length + 1) vc')
      have hC9 := (hC6.keptK hk8 hnc).keptK hk9 (by omega)
      have kB9 := (kB6.keptK hk8 hnx).keptK hk9 (by omega)
      have kN9 := (kN6.keptK hk8 hnn).keptK hk9 (by omega)
      have hrow9 := ownsRow_kept hown' hk9 (fun k hk e => by have h1 := tag_row hown' hk; rw [e, tag_blk hB8] at h1; simp at h1)
      have hb8 := hb6.trans (Kept.below hk8 hb6.size (fun k hk => by have := hlo k hk; omega))
      have hb9 := hb8.trans (Kept.below hk9 hb8.size (fun k hk => by omega))
      go_roundw
      case rel =>
        refine ⟨A.length + 1, x, c', A ++ [x], .slice va' (A.length + 1) vc', by omega, by go_num, rfl, hxb, by simp, ?_, by omega, fun y hy => ?_, hC9, hB9, ?_, kB9, kN9, hb9⟩
        · rw [HREC.out, HX.out]
          simp
        · rcases List.mem_append.1 hy with hy | hy
          · exact hAb y hy
          · simp only [List.mem_singleton] at hy
            subst hy
            exact hxb
        · rw [List.length_append, List.map_append]
          exact hrow9
      case measure => simp [intOf]; omega
    · have hAN : A.length = N := by omega
      have hRM := Lib.hid (show RM = (⟨g, a1, a2, A⟩, c) by
        rw [HR.out, HREC.out, show N - A.length = 0 by omega]
        simp [blkG])
      have hIA := ints_of_own hrow rfl (by omega) hAb
      obtain ⟨⟨z0, z1, z2, z3⟩, _⟩ := cells4 hB
      obtain ⟨⟨n0, n1, n2, n3⟩, m0, m1, m2, m3⟩ := cells4 kNx
      have p0 := stPh_cell (T := 53) (cs' := #[.int .i64 g, .int .i64 a1, .int .i64 a2, .slice va A.length vc]) (g := w.heap.size + 1) z0 (show b ≠ w.heap.size + 1 by omega)
      have p1 := stPh_cell (T := 53) (cs' := #[.int .i64 g, .int .i64 a1, .int .i64 a2, .slice va A.length vc]) (g := w.heap.size + 1) z1 (show b ≠ w.heap.size + 1 by omega)
      have p2 := stPh_cell (T := 53) (cs' := #[.int .i64 g, .int .i64 a1, .int .i64 a2, .slice va A.length vc]) (g := w.heap.size + 1) z2 (show b ≠ w.heap.size + 1 by omega)
      have p3 := stPh_cell (T := 53) (cs' := #[.int .i64 g, .int .i64 a1, .int .i64 a2, .slice va A.length vc]) (g := w.heap.size + 1) z3 (show b ≠ w.heap.size + 1 by omega)
      go_wp2_with fail
      refine wp_region_C (stPh wr (w.heap.size + 1) 53 #[.int .i64 g, .int .i64 a1, .int .i64 a2, .slice va A.length vc]) [2] rfl (by kernel_rfl) (by kernel_rfl) (by kernel_rfl) (by kernel_rfl) ?_
      (refine lc1 fun K hK => ?_; go_big_quiet_step (fail); refine wpQuiet_nil (hK _ ?_); clear hK K)
      (refine lcc (f := 115) (args := #[.pointer (some ⟨w.heap.size + 2, 0, none⟩)]) (v := .bool (doneB c.1 c.2)) (fun W hW => done_st hC (by omega) hW) fun K hK => ?_; go_big_quiet_step (fail); refine wpQuiet_nil (hK _ ?_); clear hK K)
      refine lexc_do 0 (by kernel_rfl) (by kernel_rfl) rfl (fun _ _ h => by cases h) (by kernel_rfl) rfl (fun W hW => ?_) ?_
      · have hWb := (hW.resolve_right (fun e => e.1 rfl)).2
        have kW := Blk.below kNx hWb kNx.lt
        obtain ⟨⟨r0, r1, r2, r3⟩, s0, s1, s2, s3⟩ := cells4 kW
        have hs5 := set4 kW (.int .i64 g) (.int .i64 a1) (.int .i64 a2) (.slice va A.length vc)
        exact ⟨_, by go_simp, trivial, .inr ⟨by omega, (Kept.of_below hWb).trans hs5.2, hs5.1⟩⟩
      (refine lc1 fun K hK => ?_; go_big_quiet_step (fail); refine wpQuiet_nil (hK _ ?_); clear hK K)
      refine lcn ?_
      rintro WE _ hp
      obtain ⟨_, hkE, kE⟩ := hp.resolve_left (fun e => by cases e.1)
      simp only [hideAll]
      have hbE := hb.trans (Kept.below hkE hb.size (fun k hk => by omega))
      have hIE := hrow
      clear p0 p1 p2 p3 z0 z1 z2 z3 n0 n1 n2 n3 m0 m1 m2 m3
      go_wp2_with fail
      (try simp only [Exit.inBlock, Exit.then])
      refine bodyPost_ret (results_ct rfl _ _ (w.heap.size + 1) 53 _ _ rfl kE Tryz.underlying53 rfl (by kernel_rfl)) rfl ?_
      have hrE := ownsRow_kept hrow hkE (fun k hk e => by have h1 := tag_row hrow hk; rw [e, tag_blk kNx] at h1; simp at h1)
      refine ⟨.slice va A.length vc, ?_, ?_, (fun k hk => by have := (hrE.lt k hk).1; omega), hbE⟩
      · rw [hRM.out]
        rfl
      · rw [hRM.out]
        exact ints_of_own hrE rfl (show A.length ≤ 100000 by omega) hAb
end Go.Proofs.YtgagcncmlonciaaGreatDoor
namespace Go.Proofs.YtgagcncmlonciaaGreatDoor
open Go.RowKit Go.Maps Go.WideMaps
attribute [local go_sem] bs_toList bs_size

def zeroMt : Mt := ⟨0, 0, 0, []⟩
theorem readM_ok (b : List UInt8) (g : Int) (h1 : -9223372036854775808 ≤ g) (h2 : g ≤ 9223372036854775807) : (readM b g).1.ok := by
  have e1 := numG_bd g 999999 (b, false)
  have e2 := numG_bd g 999999 (numG g 999999 (b, false)).2
  refine ⟨⟨h1, h2⟩, ⟨?_, ?_⟩, ?_, ?_⟩
  · show _ ≤ (numG g 999999 (b, false)).1
    omega
  · show (numG g 999999 (b, false)).1 ≤ _
    omega
  · show _ ≤ (if g = 3 then (numG g 999999 (b, false)).1 - (numG g 999999 (numG g 999999 (b, false)).2).1 else (numG g 999999 (numG g 999999 (b, false)).2).1)
    split <;> omega
  · show (if g = 3 then (numG g 999999 (b, false)).1 - (numG g 999999 (numG g 999999 (b, false)).2).1 else (numG g 999999 (numG g 999999 (b, false)).2).1) ≤ _
    split <;> omega
theorem openB_bd (s m : List UInt8) : (openB s m).1 < 256 ∧ (openB s m).2.1 < 256 ∧ (openB s m).2.2.1.length ≤ s.length := by
  unfold openB
  split
  · exact ⟨by simp, by simp, by simp⟩
  · split
    · exact ⟨by simp, by simp, by simp⟩
    · split
      · exact ⟨by simp, by simp, by simp⟩
      · split
        · exact ⟨by simp, by simp, by simp⟩
        · split
          · exact ⟨by simp, by simp, by simp⟩
          · rename_i b _ _ _ _
            have h1 := (b.getD m.length 0).toNat_lt
            have h2 := (b.getD (m.length + 1) 0).toNat_lt
            exact ⟨by simp only; omega, by simp only; omega, by simp⟩
theorem frameGet_len (s : List UInt8) (m : Nat) : (frameGet s m).1.length ≤ s.length ∧ (frameGet s m).2.1.length ≤ s.length := by
  unfold frameGet
  split
  · exact ⟨by simp, Nat.le_refl _⟩
  · split
    · exact ⟨by simp, Nat.le_refl _⟩
    · split
      · exact ⟨by simp, Nat.le_refl _⟩
      · split
        · exact ⟨by simp; omega, by simp⟩
        · exact ⟨by simp, Nat.le_refl _⟩
theorem ints_kept {w w' : World} {v : Value} {L : List Int} {b : Nat} (h : IntsAt w v L) (hk : Kept w w' (fun k => k = b)) (hne : v.ownBlock ≠ some b) : IntsAt w' v L := by
  obtain ⟨a, c, rfl, h1, h2, h3, h4⟩ := h
  refine ⟨a, c, rfl, h1, h2, h3, fun i x hx => ?_⟩
  obtain ⟨k, o, rfl, hc⟩ := h4 i x hx
  refine ⟨k, o, rfl, ?_⟩
  exact (World.cell?_of_block (hk.block k (World.block_lt_of_cell? _ _ hc) (fun e => hne (by rw [e]; rfl)))).trans hc
def getMV (m : Mt) (bv : Value) (e : Int) : Value := .tuple #[mtV m bv, .int .i64 e]
theorem ints_nil (w : World) : IntsAt w (.slice none 0 0) [] := ⟨none, 0, rfl, fun _ => rfl, by simp, (fun x hx => by cases hx), fun i x hx => by simp at hx⟩
set_option maxRecDepth 100000 in
set_option maxHeartbeats 4000000 in
theorem Get_meta_any (s : List UInt8) (w : World) (hl : s.length ≤ 1000000) :
    Calls Tryz.prog 31 #[.string (bs s)] w fun e w' => ∃ bv, e = .returned (getMV ((getM s).1.getD zeroMt) bv (getM s).2) ∧ IntsAt w' bv ((getM s).1.getD zeroMt).blocks ∧ Below w.heap.size w w' := by
  have b0 := one_alloc w (.cells #[.int .i64 0, .int .i64 0, .int .i64 0, .slice none 0 0] 53)
  have k0 := Blk.new w 53 #[.int .i64 0, .int .i64 0, .int .i64 0, .slice none 0 0]
  have qo := Lib.hid (fun W => Open_any s magicM (by omega) (by decide) W)
  have HG := Lib.hid (show getM s = match openB s magicM with
    | (g, _, rest, e) => if e ≠ 0 then (none, e)
      else if (frameGet rest 1000).2.2 ≠ 0 ∨ (frameGet rest 1000).2.1 ≠ [] ∨ doneB (readM (frameGet rest 1000).1 g).2.1 (readM (frameGet rest 1000).1 g).2.2 = false then (none, 9)
      else if putM (readM (frameGet rest 1000).1 g).1 = (s, 0) then (some (readM (frameGet rest 1000).1 g).1, 0) else (none, 9) from rfl)
  generalize getM s = GM at *
  have hob := openB_bd s magicM
  rcases hO : openB s magicM with ⟨g, fl, rest, er⟩
  rw [hO] at HG hob qo
  simp only at HG hob
  clear hO
  go_enter Tryz.func31, Tryz.ntmps31
  go_wp2_with fail
  refine (qo.out _).mono ?_
  rintro e w1 ⟨rfl, b1⟩
  rw [show openV (g, fl, rest, er) = .tuple #[.int .i64 (g : Int), .int .i64 (fl : Int), .string (bs rest), .int .i64 er] from rfl]
  have k1 := Blk.below k0 b1 k0.lt
  have B1 := b0.trans (b1.mono b0.size)
  obtain ⟨⟨c0, c1, c2, c3⟩, z0, z1, z2, z3⟩ := cells4 k1
  obtain ⟨hk1, hK1⟩ := set4 k1 (.int .i64 0) (.int .i64 0) (.int .i64 0) (.slice none 0 0)
  by_cases her : er = 0
  · subst her
    rw [if_neg (by simp)] at HG
    have qg := Lib.hid (fun W => Get_any rest 1000 (by omega) (by decide) W)
    have hfl := frameGet_len rest 1000
    rcases hF : frameGet rest 1000 with ⟨b, rest2, sh⟩
    rw [hF] at HG hfl qg
    simp only at HG hfl
    clear hF
    go_wp2_with fail
    refine (qg.out _).mono ?_
    rintro e w2 ⟨rfl, b2⟩
    rw [show frameV (b, rest2, sh) = .tuple #[.string (bs b), .string (bs rest2), .int .i64 sh] from rfl]
    have b12 := b1.trans (Below.mono b2 b1.size)
    have qr := Lib.hid (read_any b (g : Int) w2 (by omega) (by omega) (by omega))
    have hmo := readM_ok b (g : Int) (by omega) (by omega)
    rcases hM : readM b (g : Int) with ⟨⟨gn, nx, wl, L⟩, cc⟩
    rw [hM] at HG qr hmo
    simp only at HG qr hmo
    clear hM c0 c1 c2 c3 z0 z1 z2 z3 hk1 hK1 qg
    go_wp2_with fail
    refine qr.out.mono ?_
    rintro e w3 ⟨bv, rfl, hI, hown, b3⟩
    generalize hdn : doneB cc.1 cc.2 = dn at *
    obtain ⟨ba, bc, rfl, _⟩ := id hI
    have hws : w.heap.size < w2.heap.size := Nat.lt_of_lt_of_le k1.lt b2.size
    rw [show readV ⟨gn, nx, wl, L⟩ (.slice ba L.length bc) dn = .tuple #[.agg #[.int .i64 gn, .int .i64 nx, .int .i64 wl, .slice ba L.length bc], .bool dn] from rfl]
    have km := Blk.new w3 53 #[.int .i64 gn, .int .i64 nx, .int .i64 wl, .slice ba L.length bc]
    have b4 := one_alloc w3 (.cells #[.int .i64 gn, .int .i64 nx, .int .i64 wl, .slice ba L.length bc] 53)
    have b14 := (b2.trans (b3.mono b2.size)).trans (b4.mono (Nat.le_trans b2.size b3.size))
    have k4 := Blk.below k1 b14 k1.lt
    have B4 := B1.trans (b14.mono B1.size)
    have hI4 := hI.below b4
    obtain ⟨⟨m0, m1, m2, m3⟩, _⟩ := cells4 km
    obtain ⟨⟨c0, c1, c2, c3⟩, z0, z1, z2, z3⟩ := cells4 k4
    obtain ⟨hk4, hK4⟩ := set4 k4 (.int .i64 0) (.int .i64 0) (.int .i64 0) (.slice none 0 0)
    clear qr b3 b4 b14 b2 b12 hI k1
    by_cases hsh : sh = 0
    · subst hsh
      cases rest2 with
      | cons rx rr =>
        have HY := Lib.hid (show GM = (none, 9) by rw [HG.out, if_pos (.inr (.inl (by simp)))])
        have f2 : (rx :: rr).isEmpty = false := rfl
        clear HG
        go_wp2_with fail
        (try simp only [Exit.inBlock, Exit.then])
        refine bodyPost_ret (results_ct rfl _ _ w.heap.size 53 _ _ rfl hk4 Tryz.underlying53 rfl (by kernel_rfl)) rfl ?_
        refine ⟨.slice none 0 0, ?_, ?_, B4.trans (Kept.below hK4 B4.size (fun k hk => by omega))⟩
        · rw [HY.out]
          rfl
        · rw [HY.out]
          exact ints_nil _
      | nil =>
        cases dn with
        | false =>
          have HY := Lib.hid (show GM = (none, 9) by rw [HG.out, if_pos (.inr (.inr rfl))])
          clear HG
          rw [show bs [] = ⟨#[]⟩ from rfl]
          go_wp2_with fail
          (try simp only [Exit.inBlock, Exit.then])
          refine bodyPost_ret (results_ct rfl _ _ w.heap.size 53 _ _ rfl hk4 Tryz.underlying53 rfl (by kernel_rfl)) rfl ?_
          refine ⟨.slice none 0 0, ?_, ?_, B4.trans (Kept.below hK4 B4.size (fun k hk => by omega))⟩
          · rw [HY.out]
            rfl
          · rw [HY.out]
            exact ints_nil _
        | true =>
          rw [if_neg (by simp)] at HG
          have qp := Lib.hid (Put_any ⟨gn, nx, wl, L⟩ (.slice ba L.length bc) _ hmo hI4)
          rw [show mtV ⟨gn, nx, wl, L⟩ (.slice ba L.length bc) = .agg #[.int .i64 gn, .int .i64 nx, .int .i64 wl, .slice ba L.length bc] from rfl] at qp
          rw [show bs [] = ⟨#[]⟩ from rfl]
          go_wp2_with fail
          refine qp.out.mono ?_
          rintro e w5 ⟨rfl, b5⟩
          have hI5 := hI4.below b5
          have B5 := B4.trans (b5.mono B4.size)
          have km5 := Blk.below km b5 km.lt
          have k5 := Blk.below k4 b5 k4.lt
          rcases hP : putM ⟨gn, nx, wl, L⟩ with ⟨pb, pe⟩
          rw [hP] at HG
          rw [show putMV ⟨gn, nx, wl, L⟩ = .tuple #[.string (bs pb), .int .i64 pe] by unfold putMV; rw [hP]]
          obtain ⟨⟨p0, p1, p2, p3⟩, _⟩ := cells4 km5
          obtain ⟨⟨d0, d1, d2, d3⟩, y0, y1, y2, y3⟩ := cells4 k5
          obtain ⟨hk5, hK5⟩ := set4 k5 (.int .i64 0) (.int .i64 0) (.int .i64 0) (.slice none 0 0)
          obtain ⟨hk6, hK6⟩ := set4 k5 (.int .i64 gn) (.int .i64 nx) (.int .i64 wl) (.slice ba L.length bc)
          have hI6 : IntsAt _ (.slice ba L.length bc) L := ints_kept hI5 hK6 (fun e => by have := hown _ e; have := hws; omega)
          clear hP c0 c1 c2 c3 z0 z1 z2 z3 m0 m1 m2 m3 hk4 hK4 qp b5
          by_cases hpe : pe = 0
          · subst hpe
            by_cases hps : pb = s
            · subst hps
              have HY := Lib.hid (show GM = (some ⟨gn, nx, wl, L⟩, 0) by rw [HG.out, if_pos rfl])
              have f3 : (pb == pb) = true := by simp
              clear HG
              go_wp2_with fail
              (try simp only [Exit.inBlock, Exit.then])
              refine bodyPost_ret (results_ct rfl _ _ w.heap.size 53 _ _ rfl hk6 Tryz.underlying53 rfl (by kernel_rfl)) rfl ?_
              refine ⟨.slice ba L.length bc, ?_, ?_, B5.trans (Kept.below hK6 B5.size (fun k hk => by omega))⟩
              · rw [HY.out]
                rfl
              · rw [HY.out]
                exact hI6
            · have HY := Lib.hid (show GM = (none, 9) by rw [HG.out, if_neg (by simp [hps])])
              have f3 : (pb == s) = false := by simpa using hps
              clear HG hps
              go_wp2_with fail
              (try simp only [Exit.inBlock, Exit.then])
              refine bodyPost_ret (results_ct rfl _ _ w.heap.size 53 _ _ rfl hk5 Tryz.underlying53 rfl (by kernel_rfl)) rfl ?_
              refine ⟨.slice none 0 0, ?_, ?_, B5.trans (Kept.below hK5 B5.size (fun k hk => by omega))⟩
              · rw [HY.out]
                rfl
              · rw [HY.out]
                exact ints_nil _
          · have HY := Lib.hid (show GM = (none, 9) by rw [HG.out, if_neg (by simp [hpe])])
            have f3 : (pe != 0) = true := by simpa using hpe
            clear HG hpe
            go_wp2_with fail
            (try simp only [Exit.inBlock, Exit.then])
            refine bodyPost_ret (results_ct rfl _ _ w.heap.size 53 _ _ rfl hk5 Tryz.underlying53 rfl (by kernel_rfl)) rfl ?_
            refine ⟨.slice none 0 0, ?_, ?_, B5.trans (Kept.below hK5 B5.size (fun k hk => by omega))⟩
            · rw [HY.out]
              rfl
            · rw [HY.out]
              exact ints_nil _
    · have HY := Lib.hid (show GM = (none, 9) by rw [HG.out, if_pos (.inl hsh)])
      have f2 : (sh != 0) = true := by simpa using hsh
      clear HG hsh
      go_wp2_with fail
      (try simp only [Exit.inBlock, Exit.then])
      refine bodyPost_ret (results_ct rfl _ _ w.heap.size 53 _ _ rfl hk4 Tryz.underlying53 rfl (by kernel_rfl)) rfl ?_
      refine ⟨.slice none 0 0, ?_, ?_, B4.trans (Kept.below hK4 B4.size (fun k hk => by omega))⟩
      · rw [HY.out]
        rfl
      · rw [HY.out]
        exact ints_nil _
  · have f1 : (er != 0) = true := by simpa using her
    have HY := Lib.hid (show GM = (none, er) by rw [HG.out, if_pos her])
    clear HG her
    go_wp2_with fail
    (try simp only [Exit.inBlock, Exit.then])
    refine bodyPost_ret (results_ct rfl _ _ w.heap.size 53 _ _ rfl hk1 Tryz.underlying53 rfl (by kernel_rfl)) rfl ?_
    refine ⟨.slice none 0 0, ?_, ?_, B1.trans (Kept.below hK1 B1.size (fun k hk => by omega))⟩
    · rw [HY.out]
      rfl
    · rw [HY.out]
      exact ints_nil _
end Go.Proofs.YtgagcncmlonciaaGreatDoor
