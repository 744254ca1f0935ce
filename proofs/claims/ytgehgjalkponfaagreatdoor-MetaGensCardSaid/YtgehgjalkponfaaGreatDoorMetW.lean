/- A meta in memory; whether it may be: the walk of Valid. -/
import Derived.Test.YtgehgjalkponfaaGreatDoorMetV
import Derived.Test.YtgehgjalkponfaaGreatDoorMetG
import Derived.Test.YtgehgjalkponfaaGreatDoorTurn
import Derived.Test.YtgehgjalkponfaaGreatDoorLexy
import Derived.Test.YtgehgjalkponfaaGreatDoorShelfS
import Derived.Lib.OwnBridge
import Derived.Laws.AppendOwnNone
import Derived.Laws.OwnMore
namespace Go.Proofs.YtgehgjalkponfaaGreatDoor
open Go.RowKit Go.Maps Go.WideMaps
attribute [local go_sem] bs_toList bs_size

/-- A slice of numbers. -/
def IntsAt (w : World) (v : Value) (L : List Int) : Prop :=
  ∃ a c, v = .slice a L.length c ∧ (a = none → c = 0) ∧ L.length ≤ 100000 ∧ (∀ x ∈ L, -9223372036854775808 ≤ x ∧ x ≤ 9223372036854775807) ∧ ∀ (i : Nat) x, L[i]? = some x → ∃ b o, a = some ⟨b, o, none⟩ ∧ w.cell? ⟨b, o + i, none⟩ = some (.int .i64 x)
theorem IntsAt.below {w w' : World} {v : Value} {L : List Int} (h : IntsAt w v L) (hb : Below w.heap.size w w') : IntsAt w' v L := by
  obtain ⟨a, c, h1, h2, h3, h4, h5⟩ := h
  refine ⟨a, c, h1, h2, h3, h4, fun i x hx => ?_⟩
  obtain ⟨b, o, h6, h7⟩ := h5 i x hx
  exact ⟨b, o, h6, (Below.cell hb (World.block_lt_of_cell? _ _ h7)).trans h7⟩
def mtV (m : Mt) (bv : Value) : Value := .agg #[.int .i64 m.gen, .int .i64 m.next, .int .i64 m.wal, bv]
/-- Its numbers are such as an int holds. -/
def Mt.ok (m : Mt) : Prop := (-9223372036854775808 ≤ m.gen ∧ m.gen ≤ 9223372036854775807) ∧ (-9223372036854775808 ≤ m.next ∧ m.next ≤ 9223372036854775807) ∧ (-9223372036854775808 ≤ m.wal ∧ m.wal ≤ 9223372036854775807)
theorem cells4 {W : World} {b : Nat} {T : TypeId} {u0 u1 u2 u3 : Value} (h : Blk W b T #[u0, u1, u2, u3]) :
    (W.cell? ⟨b, 0, none⟩ = some u0 ∧ W.cell? ⟨b, 1, none⟩ = some u1 ∧ W.cell? ⟨b, 2, none⟩ = some u2 ∧ W.cell? ⟨b, 3, none⟩ = some u3) ∧ W.frozen? ⟨b, 0, none⟩ = false ∧ W.frozen? ⟨b, 1, none⟩ = false ∧ W.frozen? ⟨b, 2, none⟩ = false ∧ W.frozen? ⟨b, 3, none⟩ = false :=
  ⟨⟨(Blk.cell h 0).trans rfl, (Blk.cell h 1).trans rfl, (Blk.cell h 2).trans rfl, (Blk.cell h 3).trans rfl⟩, Blk.frozen h 0, Blk.frozen h 1, Blk.frozen h 2, Blk.frozen h 3⟩
theorem kept_putRow {α : Type} [Inhabited α] (enc : α → Value) (w : World) (q g : Nat) (d : Array α) : Kept w (Go.Sort.putRow enc (Go.Sort.ahead w q) g 0 d) (fun k => k = g) :=
  ⟨rfl, rfl, rfl, by simp [Go.Sort.ahead], fun i _ hi => by simp [Go.Sort.putRow, Go.Sort.mapBlock, Go.Sort.ahead, Array.getElem?_modify, show g ≠ i from fun e => hi e.symm]⟩
theorem kept_grow (w : World) (os : Array Obj) (S : Nat → Prop) : Kept w (Go.Sort.grow w os) S :=
  ⟨rfl, rfl, rfl, by simp [Go.Sort.grow], fun i hi _ => by simp [Go.Sort.grow, Array.getElem?_append, hi]⟩

/-- An append of a slice, nil or not. -/
theorem wpList_append_any {P : Program} {w : World} {ops : Array Oper} {rest : List Oper} {o : Oper} {a : Act} {Q : Exit → Act → World → Prop} (hgd : o.guard = none) (s x : Operand) (t : TypeId)
    (ho : o.op = .call { callee := .builtin .append, args := #[s, x], argTypes := #[t, t] })
    (base : Nat) (e : TypeId) (i : TypeInfo) (z : Value) (size bytes : Nat) (ht : P.underlying t = some (.slice e)) (hi : P.info? e = some i) (hz : i.zero = some z)
    (hsize : i.size = size) (hby : i.bytes = bytes) (hzs : z.cells.size = size) (hsz : 0 < size)
    (v : Value) (n : Nat) (xs : List Value) (hs : a.eval s = v) (hown : w.ownsRow base e size v n xs)
    (ad : Option Addr) (m c : Nat) (news : List Value) (hx : a.eval x = .slice ad m c) (h0 : ad = none → m = 0 ∧ c = 0) (hl : news.length = m * size) (hnews : ∀ a', ad = some a' → ∀ j u, news[j]? = some u → w.cell? (a'.add j) = some u) (h1 : ∀ u ∈ news, u.oneCell' = true)
    (h63 : n + m ≤ maxLen) (hbytes : (n + m) * bytes ≤ 140737488355328) (hbase : base ≤ w.heap.size)
    (h : ∀ v' w', w'.ownsRow base e size v' (n + m) (xs ++ news) → w.grownBy w' v.ownBlock → (v'.ownBlock = v.ownBlock ∨ v'.ownBlock = some w.heap.size) → wpList P ops Q rest (a.put o.dst v') w') : wpList P ops Q (o :: rest) a w := by
  cases ad with
  | none =>
    obtain ⟨rfl, rfl⟩ := h0 rfl
    obtain rfl : news = [] := List.length_eq_zero_iff.1 (by simpa using hl)
    exact wpList_append_own_none hgd s x t ho base e i size ht hi v n xs hs hown hx (h v w (by simpa using hown) ⟨rfl, rfl, rfl, Nat.le_refl _, fun _ _ _ => rfl⟩ (.inl rfl))
  | some a' =>
    exact wpList_append_own_at w hgd s x t ho base e i z size bytes ht hi hz hsize hby hzs hsz v n xs hs hown a' m c news hx hl (hnews a' rfl) h1 h63 hbytes hbase fun v' w' h2 h3 _ h5 => h v' w' h2 h3 h5
theorem ints_cells {w : World} {L : List Int} {a : Option Addr} (hc : ∀ (i : Nat) x, L[i]? = some x → ∃ b o, a = some ⟨b, o, none⟩ ∧ w.cell? ⟨b, o + i, none⟩ = some (.int .i64 x)) : ∀ a', a = some a' → ∀ j u, (L.map (Value.int .i64))[j]? = some u → w.cell? (a'.add j) = some u := by
  rintro a' rfl j u hj
  rw [List.getElem?_map] at hj
  cases hx : L[j]? with
  | none => rw [hx] at hj; cases hj
  | some x =>
    rw [hx] at hj
    obtain rfl := Option.some.inj hj
    obtain ⟨b, o, e, h⟩ := hc j x hx
    obtain rfl := Option.some.inj e
    have : (⟨b, o, none⟩ : Addr).add j = ⟨b, o + j, none⟩ := by unfold Addr.add; split <;> simp_all
    rw [this]
    exact h
theorem ints_one (L : List Int) : ∀ u ∈ L.map (Value.int .i64), u.oneCell' = true := fun u hu => by
  obtain ⟨x, _, rfl⟩ := List.mem_map.1 hu
  rfl

/-- A row of numbers, ahead of a call and behind it. -/
def rowsPh (w0 : World) (B g n cap : Nat) (r0 r1 : List Int) (h0 : w0.ownsRow B 3 1 (.slice (some ⟨g, 0, none⟩) n cap) n (r0.map (Value.int .i64))) : Phases where
  ph q w := Kept w0 w (fun k => k = g) ∧ ∃ r, (q = 0 ∧ r = r0 ∨ q = 1 ∧ r = r1) ∧ w.ownsRow B 3 1 (.slice (some ⟨g, 0, none⟩) n cap) n (r.map (Value.int .i64))
  K a b := Kept a b (fun k => k = g)
  w0 := w0
  start := ⟨Kept.refl _ _, r0, .inl ⟨rfl, rfl⟩, h0⟩
  refl w := Kept.refl w _
  trans h k := h.trans k
  grow h := Kept.of_below h
  stay h k := ⟨h.1.trans (Kept.of_below k), by obtain ⟨r, h1, h2⟩ := h.2; exact ⟨r, h1, ownsRow_kept h2 (Kept.of_below (S := fun _ => False) k) (fun _ _ e => e)⟩⟩
theorem rowsPh_at {w0 : World} {B g n cap : Nat} {r0 r1 : List Int} {h0 : w0.ownsRow B 3 1 (.slice (some ⟨g, 0, none⟩) n cap) n (r0.map (Value.int .i64))} {w : World} {q : Nat} (h : (rowsPh w0 B g n cap r0 r1 h0).ph q w) (j : Nat) (hj : j < n) : (w.cell? ⟨g, j, none⟩ = (r0.map (Value.int .i64))[j]?) ∨ (w.cell? ⟨g, j, none⟩ = (r1.map (Value.int .i64))[j]?) := by
  obtain ⟨_, r, h1, h2⟩ := h
  have := World.ownsRow.cellAt h2 j (by omega)
  rcases h1 with ⟨_, rfl⟩ | ⟨_, rfl⟩
  · exact .inl this
  · exact .inr this
theorem rowsPh_cell {w0 : World} {B g n cap : Nat} {r0 r1 : List Int} {h0 : w0.ownsRow B 3 1 (.slice (some ⟨g, 0, none⟩) n cap) n (r0.map (Value.int .i64))} {p : Addr} {v : Value} (hp : p.block ≠ g) (hc : w0.cell? p = some v) : ∀ x : PW (rowsPh w0 B g n cap r0 r1 h0), x.w.cell? p = some v := fun x => by
  obtain ⟨w, q, hk, _⟩ := x
  exact (World.cell?_of_block (hk.block p.block (World.block_lt_of_cell? _ _ hc) hp)).trans hc
/-- A number below a bound, in a hidden slot. -/
def belowHeld (b : Int) : Held := fun x _ => ∃ v, x = .int .i64 v ∧ v < b
theorem compact_le (zs : List Int) : (Lib.compact zs).length ≤ zs.length := by
  unfold Lib.compact Lib.compactUpTo
  rw [List.length_map]
  have := List.length_filter_le (Lib.keeps zs.toArray) (List.range zs.length)
  rwa [List.length_range] at this
theorem compact_head (zs : List Int) (h : 0 < zs.length) : (Lib.compact zs)[0]? = some zs[0] := by
  unfold Lib.compact Lib.compactUpTo
  obtain ⟨n, hn⟩ := Nat.exists_eq_succ_of_ne_zero (show zs.length ≠ 0 by omega)
  rw [hn, List.range_succ_eq_map, List.filter_cons, if_pos (by simp [Lib.keeps]), List.map_cons, List.getElem?_cons_zero, arr_at zs 0 h]

theorem compact_same (zs : List Int) (h : (Lib.compact zs).length = zs.length) : Lib.compact zs = zs := by
  unfold Lib.compact at h ⊢
  have hk : ∀ j, j < zs.length → Lib.keeps zs.toArray j = true := by
    unfold Lib.compactUpTo at h
    rw [List.length_map] at h
    have := (List.length_filter_eq_length_iff (p := Lib.keeps zs.toArray) (l := List.range zs.length)).1 (by rw [h, List.length_range])
    exact fun j hj => this j (List.mem_range.2 hj)
  rw [Lib.compactUpTo_all _ _ hk]
  have := Lib.range_map_get zs.toArray
  simpa using this
theorem compact_row {w0 : World} {B g n cap : Nat} {zs : List Int} {h0 : w0.ownsRow B 3 1 (.slice (some ⟨g, 0, none⟩) n cap) n (zs.map (Value.int .i64))} (hn : zs.length = n) (hpos : 0 < n) (hmx : n ≤ 100000) {W : World} (hW : (rowsPh w0 B g n cap zs (Lib.compact zs ++ List.replicate (zs.length - (Lib.compact zs).length) 0) h0).ph 0 W) :
    Calls Tryz.prog 36 #[.slice (some ⟨g, 0, none⟩) n cap] W fun e w' => e = .returned (.slice (some ⟨g, 0, none⟩) (Lib.compact zs).length cap) ∧ (rowsPh w0 B g n cap zs (Lib.compact zs ++ List.replicate (zs.length - (Lib.compact zs).length) 0) h0).K W w' ∧ (rowsPh w0 B g n cap zs (Lib.compact zs ++ List.replicate (zs.length - (Lib.compact zs).length) 0) h0).ph (0 + 1) w' := by
  obtain ⟨hk, r, hr, ho⟩ := hW
  obtain rfl : r = zs := by
    rcases hr with ⟨_, e⟩ | ⟨e, _⟩
    · exact e
    · omega
  obtain ⟨g', cap', e, _, _, hnc, _, _, hH⟩ := Lib.holds_of_ownsRow ho (fun e => by cases e)
  obtain ⟨e1, _, rfl⟩ := Value.slice.inj e
  obtain rfl : g = g' := by
    have := Option.some.inj e1
    exact (Addr.mk.inj this).1
  have hcl := compact_le r
  have q := Tryz.slices_Compact_int g 0 cap r W hH (by omega) (by omega)
  rw [hn] at q
  refine q.mono ?_
  rintro e w' ⟨rfl, q, rfl⟩
  rw [hn]
  refine ⟨rfl, kept_putRow _ _ _ _ _, hk.trans (kept_putRow _ _ _ _ _), _, .inr ⟨rfl, rfl⟩, ?_⟩
  have := Lib.ownsRow_putRow (q := q) (ys := Lib.compact r ++ List.replicate (n - (Lib.compact r).length) 0) ho (by rw [List.length_append, List.length_replicate]; omega) (Nat.le_refl _)
  rwa [List.take_of_length_le (by rw [List.length_append, List.length_replicate]; omega)] at this

set_option maxRecDepth 100000 in
set_option maxHeartbeats 4000000 in
theorem Valid_any (m : Mt) (bv : Value) (w : World) (hm : m.ok) (hb : IntsAt w bv m.blocks) :
    Calls Tryz.prog 15 #[mtV m bv] w fun e w' => e = .returned (.bool (validM m)) ∧ Below w.heap.size w w' := by
  obtain ⟨g, nx, wl, L⟩ := m
  obtain ⟨⟨g1, g2⟩, ⟨n1, n2⟩, w1, w2⟩ := hm
  simp only at g1 g2 n1 n2 w1 w2 hb
  obtain ⟨ba, bc, rfl, hnil, hL, hLb, hc⟩ := hb
  rw [show mtV ⟨g, nx, wl, L⟩ (.slice ba L.length bc) = .agg #[.int .i64 g, .int .i64 nx, .int .i64 wl, .slice ba L.length bc] from rfl]
  have b0 := one_alloc w (.cells #[.int .i64 g, .int .i64 nx, .int .i64 wl, .slice ba L.length bc] 24)
  have k0 := Blk.new w 24 #[.int .i64 g, .int .i64 nx, .int .i64 wl, .slice ba L.length bc]
  obtain ⟨⟨c0, c1, c2, c3⟩, _⟩ := cells4 k0
  by_cases hin : 1 ≤ g ∧ g ≤ 3 ∧ 0 ≤ nx ∧ nx ≤ 999999 ∧ L.length ≤ 40
  · obtain ⟨i1, i2, i3, i4, i5⟩ := id hin
    have f1 : decide (g < 1) = false := by simp; omega
    have f2 : decide (3 < g) = false := by simp; omega
    have f3 : decide (nx < 0) = false := by simp; omega
    have f4 : decide (999999 < nx) = false := by simp; omega
    have f5 : decide ((40 : Int) < (L.length : Int)) = false := by simp; omega
    have f5' : decide (40 < L.length) = false := by simp; omega
    obtain ⟨zs, hzs⟩ : ∃ zs, zs = sortI (wl :: L) := ⟨_, rfl⟩
    have hzl : zs.length = 1 + L.length := by rw [hzs, sortI_len, List.length_cons]; omega
    have hpos : 0 < zs.length := by omega
    have hsrt : zs.Pairwise (· ≤ ·) := by rw [hzs]; exact sortI_sorted _
    have HV := Lib.hid (valid_sorted ⟨g, nx, wl, L⟩ hin zs hzs hpos)
    generalize validM ⟨g, nx, wl, L⟩ = V at *
    clear hin
    go_enter Tryz.func15, Tryz.ntmps15
    have ⟨i0, hin, hz0, hz1, hz2⟩ := info_parts (show (Tryz.prog.info? 3).map (fun i => (i.zero, i.size, i.bytes)) = some (some (.int .i64 0), 1, 8) by kernel_rfl)
    have r1 : ((w.alloc (.cells #[.int .i64 g, .int .i64 nx, .int .i64 wl, .slice ba L.length bc] 24)).alloc (.cells #[.int .i64 wl] 3)).ownsRow w.heap.size 3 1 (.slice (some ⟨w.heap.size + 1, 0, none⟩) 1 1) 1 [.int .i64 wl] := by
      have := World.ownsRow_lit (base := w.heap.size) (e := 3) (size := 1) (w.alloc (.cells #[.int .i64 g, .int .i64 nx, .int .i64 wl, .slice ba L.length bc] 24)) #[.int .i64 wl] 1 (by simp) (by decide) rfl
      rwa [World.size_alloc] at this
    have b1 := b0.alloc b0.size (.cells #[.int .i64 wl] 3)
    have hcs : ∀ a', ba = some a' → ∀ j u, (L.map (Value.int .i64))[j]? = some u → ((w.alloc (.cells #[.int .i64 g, .int .i64 nx, .int .i64 wl, .slice ba L.length bc] 24)).alloc (.cells #[.int .i64 wl] 3)).cell? (a'.add j) = some u := fun a' e j u hj => by
      have h1 := ints_cells hc a' e j u hj
      exact (Below.cell b1 (World.block_lt_of_cell? _ _ h1)).trans h1
    have h00 : ba = none → L.length = 0 ∧ bc = 0 := fun e => by
      refine ⟨?_, hnil e⟩
      cases L with
      | nil => rfl
      | cons x L =>
        obtain ⟨_, _, e2, _⟩ := hc 0 x rfl
        rw [e] at e2
        cases e2
    have k1 := Blk.alloc k0 (.cells #[.int .i64 wl] 3)
    have hb1 : w.heap.size ≤ ((w.alloc (.cells #[.int .i64 g, .int .i64 nx, .int .i64 wl, .slice ba L.length bc] 24)).alloc (.cells #[.int .i64 wl] 3)).heap.size := b1.size
    have hln : (L.map (Value.int .i64)).length = L.length * 1 := by simp
    clear hc hnil b0 k0
    go_wp2_with (at_builtin; refine wpList_append_any rfl _ _ 22 rfl w.heap.size 3 i0 (.int .i64 0) 1 8 Tryz.underlying22 hin hz0 hz1 hz2 rfl (by decide) _ _ _ rfl r1 ba L.length bc (L.map (Value.int .i64)) rfl h00 hln hcs (ints_one L) (by unfold maxLen; omega) (by omega) hb1 ?_; intro v' w8 hown' hgrow hloc)
    have hown2 : w8.ownsRow w.heap.size 3 1 v' (1 + L.length) ((wl :: L).map (Value.int .i64)) := hown'
    obtain ⟨gk, cap, rfl, hgB, hgl, hncap, _, _, hH⟩ := Lib.holds_of_ownsRow hown2 (fun e => by
      rw [e] at hown2
      rcases hown2.2 with ⟨_, h⟩ | ⟨_, _, _, h, _⟩
      · omega
      · cases h)
    have hgk : gk ≠ w.heap.size := by
      rcases hloc with h | h
      · have h : gk = w.heap.size + 1 := Option.some.inj h
        omega
      · have h := Option.some.inj h
        rw [World.size_alloc, World.size_alloc] at h
        have h : gk = w.heap.size + 1 + 1 := h
        omega
    have k8 := Blk.grown k1 hgrow (fun e => by have e : w.heap.size = w.heap.size + 1 := Option.some.inj e; omega)
    have b8 := Below.grown b1 hgrow hb1 (fun k e => by have e : w.heap.size + 1 = k := Option.some.inj e; omega)
    have q := Tryz.slices_Sort_int gk 0 cap (wl :: L) w8 hH hgl (by rw [List.length_cons]; omega)
    rw [List.length_cons, show (wl :: L).mergeSort (fun x y => decide (x ≤ y)) = zs from hzs.symm, Nat.add_comm L.length 1] at q
    have Q := Lib.hid q
    clear q k1 b1 hcs r1 hown' hH hzs
    go_wp2_with fail
    refine Q.out.mono ?_
    rintro e w9 ⟨rfl, q, os, rfl⟩
    have hk9 := (kept_putRow (Value.int .i64) w8 q gk zs.toArray).trans (kept_grow _ os _)
    have hr9 := ownsRow_kept (Lib.ownsRow_putRow (q := q) hown2 hzl (Nat.le_refl _)) (kept_grow _ os (fun _ => False)) (fun _ _ e => e)
    rw [List.take_of_length_le (by omega)] at hr9
    have k9 := Blk.keptK k8 hk9 (fun e => hgk e.symm)
    have b9 := b8.trans (Kept.below hk9 b8.size (fun j hj => by omega))
    generalize Go.Sort.grow (Go.Sort.putRow (Value.int .i64) (Go.Sort.ahead w8 q) gk 0 zs.toArray) os = w9 at *
    obtain ⟨⟨d0, d1, d2, d3⟩, _⟩ := cells4 k9
    have e0 : w9.cell? ⟨gk, 0, none⟩ = some (.int .i64 zs[0]) := by
      rw [World.ownsRow.cellAt hr9 0 (by omega), List.getElem?_map, List.getElem?_eq_getElem hpos]
      rfl
    have eL : w9.cell? ⟨gk, L.length, none⟩ = some (.int .i64 zs[zs.length - 1]) := by
      rw [World.ownsRow.cellAt hr9 L.length (by omega), List.getElem?_map, show L.length = zs.length - 1 by omega, List.getElem?_eq_getElem (by omega)]
      rfl
    have hcl := compact_le zs
    by_cases hA : (0 : Int) ≤ zs[0]
    · by_cases hB : zs[zs.length - 1] < nx
      · have t1 : decide ((0 : Int) ≤ zs[0]) = true := by simpa using hA
        have t2 : decide (zs[zs.length - 1] < nx) = true := by simpa using hB
        have HW := Lib.hid (show V = decide ((Lib.compact zs).length = L.length + 1) by rw [HV.out, t1, t2]; rfl)
        have hlast : ∀ r, (r = zs ∨ r = Lib.compact zs ++ List.replicate (zs.length - (Lib.compact zs).length) 0) → ∃ v, (r.map (Value.int .i64))[L.length]? = some (.int .i64 v) ∧ v < nx := by
          have h0L : zs[0] ≤ zs[zs.length - 1] := by
            by_cases h1 : zs.length - 1 = 0
            · simp only [h1]
              exact Int.le_refl _
            · exact List.pairwise_iff_getElem.1 hsrt 0 (zs.length - 1) hpos (by omega) (by omega)
          rintro r (rfl | rfl)
          · refine ⟨_, ?_, hB⟩
            rw [List.getElem?_map, show L.length = r.length - 1 by omega, List.getElem?_eq_getElem (by omega)]
            rfl
          · by_cases hc : (Lib.compact zs).length = zs.length
            · rw [hc, compact_same zs hc, Nat.sub_self, List.replicate_zero, List.append_nil]
              refine ⟨_, ?_, hB⟩
              rw [List.getElem?_map, show L.length = zs.length - 1 by omega, List.getElem?_eq_getElem (by omega)]
              rfl
            · refine ⟨0, ?_, by omega⟩
              rw [List.getElem?_map, List.getElem?_append_right (by omega), List.getElem?_replicate, if_pos (by omega)]
              rfl
        have hhead : ∀ r, (r = zs ∨ r = Lib.compact zs ++ List.replicate (zs.length - (Lib.compact zs).length) 0) → (r.map (Value.int .i64))[0]? = some (.int .i64 zs[0]) := by
          rintro r (rfl | rfl)
          · rw [List.getElem?_map, List.getElem?_eq_getElem hpos]
            rfl
          · have := compact_head zs hpos
            have h0 : 0 < (Lib.compact zs).length := (List.getElem?_eq_some_iff.1 this).1
            rw [List.getElem?_map, List.getElem?_append_left h0, this]
            rfl
        have x0 : ∀ x : PW (rowsPh w9 w.heap.size gk (1 + L.length) cap zs (Lib.compact zs ++ List.replicate (zs.length - (Lib.compact zs).length) 0) hr9), x.w.cell? ⟨gk, 0, none⟩ = some (.int .i64 zs[0]) := fun x => by
          obtain ⟨W, q, hq⟩ := x
          rcases rowsPh_at hq 0 (by omega) with h | h
          · exact h.trans (hhead _ (.inl rfl))
          · exact h.trans (hhead _ (.inr rfl))
        have xL : ∀ W, (∃ q, (rowsPh w9 w.heap.size gk (1 + L.length) cap zs (Lib.compact zs ++ List.replicate (zs.length - (Lib.compact zs).length) 0) hr9).ph q W) → ∃ v, W.cell? ⟨gk, L.length, none⟩ = some (.int .i64 v) ∧ v < nx := fun W ⟨q, hq⟩ => by
          rcases rowsPh_at hq L.length (by omega) with h | h
          · obtain ⟨v, e, hv⟩ := hlast _ (.inl rfl)
            exact ⟨v, h.trans e, hv⟩
          · obtain ⟨v, e, hv⟩ := hlast _ (.inr rfl)
            exact ⟨v, h.trans e, hv⟩
        have x1 := rowsPh_cell (r1 := Lib.compact zs ++ List.replicate (zs.length - (Lib.compact zs).length) 0) (h0 := hr9) (p := ⟨w.heap.size, 1, none⟩) (fun e => hgk e.symm) d1
        have x3 := rowsPh_cell (r1 := Lib.compact zs ++ List.replicate (zs.length - (Lib.compact zs).length) 0) (h0 := hr9) (p := ⟨w.heap.size, 3, none⟩) (fun e => hgk e.symm) d3
        clear HV hhead hlast
        generalize zs[0] = z0 at *
        go_wp2_with fail
        refine wp_region_C (rowsPh w9 w.heap.size gk (1 + L.length) cap zs (Lib.compact zs ++ List.replicate (zs.length - (Lib.compact zs).length) 0) hr9) [17] rfl (by kernel_rfl) (by kernel_rfl) (by kernel_rfl) (by kernel_rfl) ?_
        (refine lexc_one (by kernel_rfl) (by kernel_rfl) (by kernel_rfl) (by kernel_rfl) (fun K hK => ?_); go_big_quiet_step (fail); refine wpQuiet_nil (hK _ ?_); clear hK K); (refine lexc_one (by kernel_rfl) (by kernel_rfl) (by kernel_rfl) (by kernel_rfl) (fun K hK => ?_); go_big_quiet_step (fail); refine wpQuiet_nil (hK _ ?_); clear hK K); (refine lexc_one (by kernel_rfl) (by kernel_rfl) (by kernel_rfl) (by kernel_rfl) (fun K hK => ?_); go_big_quiet_step (fail); refine wpQuiet_nil (hK _ ?_); clear hK K); (refine lexc_one (by kernel_rfl) (by kernel_rfl) (by kernel_rfl) (by kernel_rfl) (fun K hK => ?_); go_big_quiet_step (fail); refine wpQuiet_nil (hK _ ?_); clear hK K); (refine lexc_one (by kernel_rfl) (by kernel_rfl) (by kernel_rfl) (by kernel_rfl) (fun K hK => ?_); go_big_quiet_step (fail); refine wpQuiet_nil (hK _ ?_); clear hK K); (refine lexc_one (by kernel_rfl) (by kernel_rfl) (by kernel_rfl) (by kernel_rfl) (fun K hK => ?_); go_big_quiet_step (fail); refine wpQuiet_nil (hK _ ?_); clear hK K); (refine lexc_one (by kernel_rfl) (by kernel_rfl) (by kernel_rfl) (by kernel_rfl) (fun K hK => ?_); go_big_quiet_step (fail); refine wpQuiet_nil (hK _ ?_); clear hK K)
        (refine lexc_val (v := .int .i64 ((1 + L.length : Nat) : Int)) (by kernel_rfl) (by kernel_rfl) (fun _ _ h => by cases h) (by kernel_rfl) (by kernel_rfl) (fun W hW => by skip; go_simp) (lexc_put (type := 0) (pos := "") (fun K hK => ?_)); go_big_quiet_step (fail); refine wpQuiet_nil (hK _ ?_); clear hK K)
        (refine lexc_one (by kernel_rfl) (by kernel_rfl) (by kernel_rfl) (by kernel_rfl) (fun K hK => ?_); go_big_quiet_step (fail); refine wpQuiet_nil (hK _ ?_); clear hK K); (refine lexc_one (by kernel_rfl) (by kernel_rfl) (by kernel_rfl) (by kernel_rfl) (fun K hK => ?_); go_big_quiet_step (fail); refine wpQuiet_nil (hK _ ?_); clear hK K)
        refine lexc_make (d := 46) (r := belowHeld nx) (by kernel_rfl) (fun _ _ _ h _ => h) (by kernel_rfl) (fun _ _ h => by cases h) (by kernel_rfl) rfl (fun W hW => by
          obtain ⟨v, h1, h2⟩ := xL W hW
          exact ⟨.int .i64 v, W, by go_simp, Turns.refl W, v, rfl, h2⟩) ?_
        (refine lexc_one (by kernel_rfl) (by kernel_rfl) (by kernel_rfl) (by kernel_rfl) (fun K hK => ?_); go_big_quiet_step (fail); refine wpQuiet_nil (hK _ ?_); clear hK K); (refine lexc_one (by kernel_rfl) (by kernel_rfl) (by kernel_rfl) (by kernel_rfl) (fun K hK => ?_); go_big_quiet_step (fail); refine wpQuiet_nil (hK _ ?_); clear hK K)
        refine lexc_valx 46 (r := belowHeld nx) (v := .bool true) (by kernel_rfl) (by kernel_rfl) (fun _ _ h => by cases h) rfl (by simp) (by kernel_rfl) (by kernel_rfl) (by kernel_rfl) (by kernel_rfl) (fun x W _ hx => by
          obtain ⟨v, rfl, h2⟩ := hx
          have h3 : decide (v < nx) = true := by simpa using h2
          go_simp) (lexc_put (type := 0) (pos := "") (fun K hK => ?_)); go_big_quiet_step (fail); refine wpQuiet_nil (hK _ ?_); clear hK K
        (refine lexc_one (by kernel_rfl) (by kernel_rfl) (by kernel_rfl) (by kernel_rfl) (fun K hK => ?_); go_big_quiet_step (fail); refine wpQuiet_nil (hK _ ?_); clear hK K); (refine lexc_one (by kernel_rfl) (by kernel_rfl) (by kernel_rfl) (by kernel_rfl) (fun K hK => ?_); go_big_quiet_step (fail); refine wpQuiet_nil (hK _ ?_); clear hK K); (refine lexc_one (by kernel_rfl) (by kernel_rfl) (by kernel_rfl) (by kernel_rfl) (fun K hK => ?_); go_big_quiet_step (fail); refine wpQuiet_nil (hK _ ?_); clear hK K)
        (refine lexc_row 0 (f := 36) (args := #[.slice (some ⟨gk, 0, none⟩) (1 + L.length) cap]) (v := .slice (some ⟨gk, 0, none⟩) (Lib.compact zs).length cap) (by kernel_rfl) (by kernel_rfl) (by kernel_rfl) (fun _ _ h => by cases h) (by kernel_rfl) (by kernel_rfl) (fun _ => by go_simp) (fun W hW => compact_row hzl (by omega) (by omega) hW) (lexc_put (type := 0) (pos := "") (fun K hK => ?_)); go_big_quiet_step (fail); refine wpQuiet_nil (hK _ ?_); clear hK K)
        (refine lexc_val (v := .int .i64 ((Lib.compact zs).length : Int)) (by kernel_rfl) (by kernel_rfl) (fun _ _ h => by cases h) (by kernel_rfl) (by kernel_rfl) (fun W hW => by skip; go_simp) (lexc_put (type := 0) (pos := "") (fun K hK => ?_)); go_big_quiet_step (fail); refine wpQuiet_nil (hK _ ?_); clear hK K)
        (refine lexc_one (by kernel_rfl) (by kernel_rfl) (by kernel_rfl) (by kernel_rfl) (fun K hK => ?_); go_big_quiet_step (fail); refine wpQuiet_nil (hK _ ?_); clear hK K); (refine lexc_one (by kernel_rfl) (by kernel_rfl) (by kernel_rfl) (by kernel_rfl) (fun K hK => ?_); go_big_quiet_step (fail); refine wpQuiet_nil (hK _ ?_); clear hK K)
        (refine lexc_val (v := .int .i64 (L.length : Int)) (by kernel_rfl) (by kernel_rfl) (fun _ _ h => by cases h) (by kernel_rfl) (by kernel_rfl) (fun W hW => by skip; go_simp) (lexc_put (type := 0) (pos := "") (fun K hK => ?_)); go_big_quiet_step (fail); refine wpQuiet_nil (hK _ ?_); clear hK K)
        (refine lexc_one (by kernel_rfl) (by kernel_rfl) (by kernel_rfl) (by kernel_rfl) (fun K hK => ?_); go_big_quiet_step (fail); refine wpQuiet_nil (hK _ ?_); clear hK K); (refine lexc_one (by kernel_rfl) (by kernel_rfl) (by kernel_rfl) (by kernel_rfl) (fun K hK => ?_); go_big_quiet_step (fail); refine wpQuiet_nil (hK _ ?_); clear hK K); (refine lexc_one (by kernel_rfl) (by kernel_rfl) (by kernel_rfl) (by kernel_rfl) (fun K hK => ?_); go_big_quiet_step (fail); refine wpQuiet_nil (hK _ ?_); clear hK K); (refine lexc_one (by kernel_rfl) (by kernel_rfl) (by kernel_rfl) (by kernel_rfl) (fun K hK => ?_); go_big_quiet_step (fail); refine wpQuiet_nil (hK _ ?_); clear hK K)
        refine lexc_nil (by kernel_rfl) (by kernel_rfl) (by kernel_rfl) ?_
        intro W10 hK10 hp10
        simp only [hideAll]
        intro y hy
        clear hy
        have hbb : Below w.heap.size w9 W10 := Kept.below hK10 b9.size (fun j hj => by omega)
        go_wp2
        go_ret
        have hfin : (((Lib.compact zs).length : Int) == (L.length : Int) + 1) = decide ((Lib.compact zs).length = L.length + 1) := by
          rw [Bool.eq_iff_iff]
          simp
          omega
        exact ⟨by rw [HW.out, ← hfin]; rfl, b9.trans hbb⟩
      · have t1 : decide ((0 : Int) ≤ zs[0]) = true := by simpa using hA
        have t2 : decide (zs[zs.length - 1] < nx) = false := by simpa using hB
        have HW := Lib.hid (show V = false by rw [HV.out, t1, t2]; rfl)
        have x0 := grow_cell e0
        have xL := grow_cell eL
        have x1 := grow_cell d1
        have x3 := grow_cell d3
        clear HV
        generalize zs[0] = z0 at *
        generalize zs[zs.length - 1] = zl at *
        go_wp2_with fail
        refine wp_region_at (R := GrowR) (by kernel_rfl) (by kernel_rfl) ?_
        (refine lex_one (by kernel_rfl) (by kernel_rfl) (by kernel_rfl) (fun K hK => ?_); go_big_quiet_step (fail); refine wpQuiet_nil (hK _ ?_); clear hK K); (refine lex_one (by kernel_rfl) (by kernel_rfl) (by kernel_rfl) (fun K hK => ?_); go_big_quiet_step (fail); refine wpQuiet_nil (hK _ ?_); clear hK K); (refine lex_one (by kernel_rfl) (by kernel_rfl) (by kernel_rfl) (fun K hK => ?_); go_big_quiet_step (fail); refine wpQuiet_nil (hK _ ?_); clear hK K); (refine lex_one (by kernel_rfl) (by kernel_rfl) (by kernel_rfl) (fun K hK => ?_); go_big_quiet_step (fail); refine wpQuiet_nil (hK _ ?_); clear hK K); (refine lex_one (by kernel_rfl) (by kernel_rfl) (by kernel_rfl) (fun K hK => ?_); go_big_quiet_step (fail); refine wpQuiet_nil (hK _ ?_); clear hK K); (refine lex_one (by kernel_rfl) (by kernel_rfl) (by kernel_rfl) (fun K hK => ?_); go_big_quiet_step (fail); refine wpQuiet_nil (hK _ ?_); clear hK K); (refine lex_one (by kernel_rfl) (by kernel_rfl) (by kernel_rfl) (fun K hK => ?_); go_big_quiet_step (fail); refine wpQuiet_nil (hK _ ?_); clear hK K)
        (refine lex_val (v := .int .i64 ((1 + L.length : Nat) : Int)) (by kernel_rfl) (fun _ _ h => by cases h) (by kernel_rfl) (by kernel_rfl) (fun _ _ => by go_simp) (lex_put (type := 0) (pos := "") (fun K hK => ?_)); go_big_quiet_step (fail); refine wpQuiet_nil (hK _ ?_); clear hK K)
        (refine lex_one (by kernel_rfl) (by kernel_rfl) (by kernel_rfl) (fun K hK => ?_); go_big_quiet_step (fail); refine wpQuiet_nil (hK _ ?_); clear hK K); (refine lex_one (by kernel_rfl) (by kernel_rfl) (by kernel_rfl) (fun K hK => ?_); go_big_quiet_step (fail); refine wpQuiet_nil (hK _ ?_); clear hK K); (refine lex_one (by kernel_rfl) (by kernel_rfl) (by kernel_rfl) (fun K hK => ?_); go_big_quiet_step (fail); refine wpQuiet_nil (hK _ ?_); clear hK K); (refine lex_one (by kernel_rfl) (by kernel_rfl) (by kernel_rfl) (fun K hK => ?_); go_big_quiet_step (fail); refine wpQuiet_nil (hK _ ?_); clear hK K); (refine lex_one (by kernel_rfl) (by kernel_rfl) (by kernel_rfl) (fun K hK => ?_); go_big_quiet_step (fail); refine wpQuiet_nil (hK _ ?_); clear hK K); (refine lex_one (by kernel_rfl) (by kernel_rfl) (by kernel_rfl) (fun K hK => ?_); go_big_quiet_step (fail); refine wpQuiet_nil (hK _ ?_); clear hK K); (refine lex_one (by kernel_rfl) (by kernel_rfl) (by kernel_rfl) (fun K hK => ?_); go_big_quiet_step (fail); refine wpQuiet_nil (hK _ ?_); clear hK K); (refine lex_one (by kernel_rfl) (by kernel_rfl) (by kernel_rfl) (fun K hK => ?_); go_big_quiet_step (fail); refine wpQuiet_nil (hK _ ?_); clear hK K); (refine lex_one (by kernel_rfl) (by kernel_rfl) (by kernel_rfl) (fun K hK => ?_); go_big_quiet_step (fail); refine wpQuiet_nil (hK _ ?_); clear hK K)
        (refine lex_none (by kernel_rfl) (by kernel_rfl) (by kernel_rfl) (fun K hK => ?_); go_big_quiet_step (fail); refine wpQuiet_nil (hK _ ?_); clear hK K)
        (refine lex_none (by kernel_rfl) (by kernel_rfl) (by kernel_rfl) (fun K hK => ?_); go_big_quiet_step (fail); refine wpQuiet_nil (hK _ ?_); clear hK K)
        (refine lex_one (by kernel_rfl) (by kernel_rfl) (by kernel_rfl) (fun K hK => ?_); go_big_quiet_step (fail); refine wpQuiet_nil (hK _ ?_); clear hK K); (refine lex_one (by kernel_rfl) (by kernel_rfl) (by kernel_rfl) (fun K hK => ?_); go_big_quiet_step (fail); refine wpQuiet_nil (hK _ ?_); clear hK K)
        (refine lex_none (by kernel_rfl) (by kernel_rfl) (by kernel_rfl) (fun K hK => ?_); go_big_quiet_step (fail); refine wpQuiet_nil (hK _ ?_); clear hK K)
        (refine lex_one (by kernel_rfl) (by kernel_rfl) (by kernel_rfl) (fun K hK => ?_); go_big_quiet_step (fail); refine wpQuiet_nil (hK _ ?_); clear hK K); (refine lex_one (by kernel_rfl) (by kernel_rfl) (by kernel_rfl) (fun K hK => ?_); go_big_quiet_step (fail); refine wpQuiet_nil (hK _ ?_); clear hK K); (refine lex_one (by kernel_rfl) (by kernel_rfl) (by kernel_rfl) (fun K hK => ?_); go_big_quiet_step (fail); refine wpQuiet_nil (hK _ ?_); clear hK K); (refine lex_one (by kernel_rfl) (by kernel_rfl) (by kernel_rfl) (fun K hK => ?_); go_big_quiet_step (fail); refine wpQuiet_nil (hK _ ?_); clear hK K)
        refine lex_nil (by kernel_rfl) (by kernel_rfl) (by kernel_rfl) ?_
        intro W10 hb10
        simp only [hideAll]
        go_wp2
        go_ret
        exact ⟨by rw [HW.out]; rfl, b9.trans (Below.mono hb10 b9.size)⟩
    · have t1 : decide ((0 : Int) ≤ zs[0]) = false := by simpa using hA
      have HW := Lib.hid (show V = false by rw [HV.out, t1]; rfl)
      have x0 := grow_cell e0
      have x1 := grow_cell d1
      have x3 := grow_cell d3
      clear HV
      generalize zs[0] = z0 at *
      go_wp2_with fail
      refine wp_region_at (R := GrowR) (by kernel_rfl) (by kernel_rfl) ?_
      (refine lex_one (by kernel_rfl) (by kernel_rfl) (by kernel_rfl) (fun K hK => ?_); go_big_quiet_step (fail); refine wpQuiet_nil (hK _ ?_); clear hK K); (refine lex_one (by kernel_rfl) (by kernel_rfl) (by kernel_rfl) (fun K hK => ?_); go_big_quiet_step (fail); refine wpQuiet_nil (hK _ ?_); clear hK K); (refine lex_one (by kernel_rfl) (by kernel_rfl) (by kernel_rfl) (fun K hK => ?_); go_big_quiet_step (fail); refine wpQuiet_nil (hK _ ?_); clear hK K); (refine lex_one (by kernel_rfl) (by kernel_rfl) (by kernel_rfl) (fun K hK => ?_); go_big_quiet_step (fail); refine wpQuiet_nil (hK _ ?_); clear hK K); (refine lex_one (by kernel_rfl) (by kernel_rfl) (by kernel_rfl) (fun K hK => ?_); go_big_quiet_step (fail); refine wpQuiet_nil (hK _ ?_); clear hK K); (refine lex_one (by kernel_rfl) (by kernel_rfl) (by kernel_rfl) (fun K hK => ?_); go_big_quiet_step (fail); refine wpQuiet_nil (hK _ ?_); clear hK K); (refine lex_one (by kernel_rfl) (by kernel_rfl) (by kernel_rfl) (fun K hK => ?_); go_big_quiet_step (fail); refine wpQuiet_nil (hK _ ?_); clear hK K)
      (refine lex_none (by kernel_rfl) (by kernel_rfl) (by kernel_rfl) (fun K hK => ?_); go_big_quiet_step (fail); refine wpQuiet_nil (hK _ ?_); clear hK K)
      (refine lex_one (by kernel_rfl) (by kernel_rfl) (by kernel_rfl) (fun K hK => ?_); go_big_quiet_step (fail); refine wpQuiet_nil (hK _ ?_); clear hK K); (refine lex_one (by kernel_rfl) (by kernel_rfl) (by kernel_rfl) (fun K hK => ?_); go_big_quiet_step (fail); refine wpQuiet_nil (hK _ ?_); clear hK K); (refine lex_one (by kernel_rfl) (by kernel_rfl) (by kernel_rfl) (fun K hK => ?_); go_big_quiet_step (fail); refine wpQuiet_nil (hK _ ?_); clear hK K); (refine lex_one (by kernel_rfl) (by kernel_rfl) (by kernel_rfl) (fun K hK => ?_); go_big_quiet_step (fail); refine wpQuiet_nil (hK _ ?_); clear hK K); (refine lex_one (by kernel_rfl) (by kernel_rfl) (by kernel_rfl) (fun K hK => ?_); go_big_quiet_step (fail); refine wpQuiet_nil (hK _ ?_); clear hK K); (refine lex_one (by kernel_rfl) (by kernel_rfl) (by kernel_rfl) (fun K hK => ?_); go_big_quiet_step (fail); refine wpQuiet_nil (hK _ ?_); clear hK K); (refine lex_one (by kernel_rfl) (by kernel_rfl) (by kernel_rfl) (fun K hK => ?_); go_big_quiet_step (fail); refine wpQuiet_nil (hK _ ?_); clear hK K); (refine lex_one (by kernel_rfl) (by kernel_rfl) (by kernel_rfl) (fun K hK => ?_); go_big_quiet_step (fail); refine wpQuiet_nil (hK _ ?_); clear hK K); (refine lex_one (by kernel_rfl) (by kernel_rfl) (by kernel_rfl) (fun K hK => ?_); go_big_quiet_step (fail); refine wpQuiet_nil (hK _ ?_); clear hK K)
      (refine lex_none (by kernel_rfl) (by kernel_rfl) (by kernel_rfl) (fun K hK => ?_); go_big_quiet_step (fail); refine wpQuiet_nil (hK _ ?_); clear hK K)
      (refine lex_none (by kernel_rfl) (by kernel_rfl) (by kernel_rfl) (fun K hK => ?_); go_big_quiet_step (fail); refine wpQuiet_nil (hK _ ?_); clear hK K)
      (refine lex_one (by kernel_rfl) (by kernel_rfl) (by kernel_rfl) (fun K hK => ?_); go_big_quiet_step (fail); refine wpQuiet_nil (hK _ ?_); clear hK K); (refine lex_one (by kernel_rfl) (by kernel_rfl) (by kernel_rfl) (fun K hK => ?_); go_big_quiet_step (fail); refine wpQuiet_nil (hK _ ?_); clear hK K)
      (refine lex_none (by kernel_rfl) (by kernel_rfl) (by kernel_rfl) (fun K hK => ?_); go_big_quiet_step (fail); refine wpQuiet_nil (hK _ ?_); clear hK K)
      (refine lex_one (by kernel_rfl) (by kernel_rfl) (by kernel_rfl) (fun K hK => ?_); go_big_quiet_step (fail); refine wpQuiet_nil (hK _ ?_); clear hK K); (refine lex_one (by kernel_rfl) (by kernel_rfl) (by kernel_rfl) (fun K hK => ?_); go_big_quiet_step (fail); refine wpQuiet_nil (hK _ ?_); clear hK K); (refine lex_one (by kernel_rfl) (by kernel_rfl) (by kernel_rfl) (fun K hK => ?_); go_big_quiet_step (fail); refine wpQuiet_nil (hK _ ?_); clear hK K); (refine lex_one (by kernel_rfl) (by kernel_rfl) (by kernel_rfl) (fun K hK => ?_); go_big_quiet_step (fail); refine wpQuiet_nil (hK _ ?_); clear hK K)
      refine lex_nil (by kernel_rfl) (by kernel_rfl) (by kernel_rfl) ?_
      intro W10 hb10
      simp only [hideAll]
      go_wp2
      go_ret
      exact ⟨by rw [HW.out]; rfl, b9.trans (Below.mono hb10 b9.size)⟩
  · have hV : validM ⟨g, nx, wl, L⟩ = false := by
      cases hv : validM ⟨g, nx, wl, L⟩ with
      | false => rfl
      | true => exact absurd ((validM_iff _).1 hv).1 hin
    rw [hV]
    go_enter Tryz.func15, Tryz.ntmps15
    by_cases i1 : 1 ≤ g
    · have f1 : decide (g < 1) = false := by simp; omega
      by_cases i2 : g ≤ 3
      · have f2 : decide (3 < g) = false := by simp; omega
        by_cases i3 : 0 ≤ nx
        · have f3 : decide (nx < 0) = false := by simp; omega
          by_cases i4 : nx ≤ 999999
          · have f4 : decide (999999 < nx) = false := by simp; omega
            have f5 : decide ((40 : Int) < (L.length : Int)) = true := by simp; omega
            have f5' : decide (40 < L.length) = true := by simp; omega
            go_wp2
            go_ret
            exact ⟨rfl, b0⟩
          · have f4 : decide (999999 < nx) = true := by simp; omega
            go_wp2
            go_ret
            exact ⟨rfl, b0⟩
        · have f3 : decide (nx < 0) = true := by simp; omega
          go_wp2
          go_ret
          exact ⟨rfl, b0⟩
      · have f2 : decide (3 < g) = true := by simp; omega
        go_wp2
        go_ret
        exact ⟨rfl, b0⟩
    · have f1 : decide (g < 1) = true := by simp; omega
      go_wp2
      go_ret
      exact ⟨rfl, b0⟩
end Go.Proofs.YtgehgjalkponfaaGreatDoor
