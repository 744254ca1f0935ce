/- The laws on machines: acts in memory; lists of texts that are alike. -/
import Derived.Test.YtphkmhajjnnbaaaSimV
import Derived.Test.YtphkmhajjnnbaaaRead
namespace Go.Proofs.Ytphkmhajjnnbaaa
open Go.RowKit Go.Maps Go.WideMaps Go.ChangeShapes Go.WideShapes Go.Deep
attribute [local go_sem] bs_toList bs_size

/-- A list of texts in memory. -/
def StrsAt (w : World) (v : Value) (l : List (List UInt8)) : Prop := ∃ (sa : Option Addr) (sc : Nat), v = .slice sa l.length sc ∧ l.length ≤ maxLen ∧ ∀ i x, l[i]? = some x → ∃ (b o : Nat), sa = some ⟨b, o, none⟩ ∧ w.cell? ⟨b, o + i, none⟩ = some (.string (bs x)) ∧ x.length ≤ maxLen

theorem TextsAt.strs {w : World} {base : Nat} {v : Value} {l : List (List UInt8)} (h : TextsAt w base v l) (hl : ∀ x ∈ l, x.length ≤ maxLen) : StrsAt w v l := by
  obtain ⟨la, lc, rfl, _, h1, h2⟩ := h.form
  refine ⟨la, lc, rfl, h1, fun i x hx => ?_⟩
  obtain ⟨g, e1, e2⟩ := h2 i x hx
  exact ⟨g, 0, e1, by rw [Nat.zero_add]; exact e2, hl x (List.mem_of_getElem? hx)⟩

/-- An act in memory. -/
structure ActAt (w : World) (b o : Nat) (a : ActD) (kv : Value) : Prop where
  cK : w.cell? ⟨b, o, none⟩ = some (.int .i64 a.K)
  cA : w.cell? ⟨b, o + 1, none⟩ = some (.string (bs a.A))
  cB : w.cell? ⟨b, o + 2, none⟩ = some (.string (bs a.B))
  cN : w.cell? ⟨b, o + 3, none⟩ = some (.int .i64 a.N)
  cP : w.cell? ⟨b, o + 4, none⟩ = some kv
  keep : KeepAt w kv a.Keep
  la : a.A.length ≤ maxLen
  lb : a.B.length ≤ maxLen
  bn : -9223372036854775808 ≤ a.N ∧ a.N ≤ 9223372036854775807
  bk : -9223372036854775808 ≤ a.K ∧ a.K ≤ 9223372036854775807
def ActsAt (w : World) (v : Value) (l : List ActD) : Prop := ∃ (sa : Option Addr) (sc : Nat), v = .slice sa l.length sc ∧ l.length ≤ maxLen ∧ ∀ i x, l[i]? = some x → ∃ (b o : Nat) (kv : Value), sa = some ⟨b, o, none⟩ ∧ ActAt w b (o + i * 5) x kv

theorem KeepAt.below {w w' : World} {v : Value} {ks : List Int} (h : KeepAt w v ks) (hb : Below w.heap.size w w') : KeepAt w' v ks := by
  obtain ⟨sa, sc, rfl, h1, h2⟩ := h
  refine ⟨sa, sc, rfl, h1, fun i x hx => ?_⟩
  obtain ⟨b, o, e1, e2, e3⟩ := h2 i x hx
  exact ⟨b, o, e1, (Below.cell hb (World.block_lt_of_cell? _ _ e2)).trans e2, e3⟩
theorem StrsAt.below {w w' : World} {v : Value} {l : List (List UInt8)} (h : StrsAt w v l) (hb : Below w.heap.size w w') : StrsAt w' v l := by
  obtain ⟨sa, sc, rfl, h1, h2⟩ := h
  refine ⟨sa, sc, rfl, h1, fun i x hx => ?_⟩
  obtain ⟨b, o, e1, e2, e3⟩ := h2 i x hx
  exact ⟨b, o, e1, (Below.cell hb (World.block_lt_of_cell? _ _ e2)).trans e2, e3⟩
theorem ActAt.below {w w' : World} {b o : Nat} {a : ActD} {kv : Value} (h : ActAt w b o a kv) (hb : Below w.heap.size w w') : ActAt w' b o a kv :=
  ⟨(Below.cell hb (World.block_lt_of_cell? _ _ h.cK)).trans h.cK, (Below.cell hb (World.block_lt_of_cell? _ _ h.cA)).trans h.cA, (Below.cell hb (World.block_lt_of_cell? _ _ h.cB)).trans h.cB, (Below.cell hb (World.block_lt_of_cell? _ _ h.cN)).trans h.cN,
    (Below.cell hb (World.block_lt_of_cell? _ _ h.cP)).trans h.cP, h.keep.below hb, h.la, h.lb, h.bn, h.bk⟩
theorem ActsAt.below {w w' : World} {v : Value} {l : List ActD} (h : ActsAt w v l) (hb : Below w.heap.size w w') : ActsAt w' v l := by
  obtain ⟨sa, sc, rfl, h1, h2⟩ := h
  refine ⟨sa, sc, rfl, h1, fun i x hx => ?_⟩
  obtain ⟨b, o, kv, e1, e2⟩ := h2 i x hx
  exact ⟨b, o, kv, e1, e2.below hb⟩

section
variable {H : Type} {enc : TypeId × Value → H} {w : World} {base : Nat} {sp : Nat → Bool} {held : Bool}
theorem keep_of_trod {fuel : Nat} {v : Value} {x : DataW H × List MemPlace} (h : DataW.trod enc Try.prog w base sp held fuel 23 [v] = some x) (hv : ∃ sa sl sc, v = .slice sa sl sc) : ∃ ks, KeepAt w v ks := by
  obtain ⟨sa, sl, sc, rfl⟩ := hv
  obtain ⟨h1, L, h2, h3, h4⟩ := rows_of_trod Try.underlying23 (n := 1) (by kernel_rfl) (by omega) h
  obtain ⟨ks, k1, k2⟩ := exists_list (R := fun cs (z : Int) => cs = [.int .i64 z] ∧ -9223372036854775808 ≤ z ∧ z ≤ 9223372036854775807) L fun cs hc => by
    obtain ⟨m, y, hy⟩ := h4 cs hc
    obtain ⟨z, e1, _, e2⟩ := DataW.trod_int Try.underlying3 hy
    exact ⟨z, e1, bounds_i64 e2⟩
  refine ⟨ks, sa, sc, by rw [k1, h2], by omega, fun i z hz => ?_⟩
  obtain ⟨cs, e1, rfl, e2⟩ := k2 i z hz
  obtain ⟨_, b, o, e3, e4⟩ := h3 i _ e1
  exact ⟨b, o, e3, by simpa using e4 0 _ rfl, e2⟩

set_option maxRecDepth 100000 in
theorem acts_of_trod {fuel : Nat} {sa : Option Addr} {sl sc : Nat} {x : DataW H × List MemPlace} (h : DataW.trod enc Try.prog w base sp held fuel 22 [.slice sa sl sc] = some x) : ∃ l, ActsAt w (.slice sa sl sc) l := by
  obtain ⟨h1, L, h2, h3, h4⟩ := rows_of_trod Try.underlying22 (n := 5) (by kernel_rfl) (by omega) h
  obtain ⟨l, k1, k2⟩ := exists_list (R := fun cs (a : ActD) => ∃ kv, cs = [.int .i64 a.K, .string (bs a.A), .string (bs a.B), .int .i64 a.N, kv] ∧ KeepAt w kv a.Keep ∧ a.A.length ≤ maxLen ∧ a.B.length ≤ maxLen ∧ (-9223372036854775808 ≤ a.N ∧ a.N ≤ 9223372036854775807) ∧ -9223372036854775808 ≤ a.K ∧ a.K ≤ 9223372036854775807) L fun cs hc => by
    obtain ⟨m, y, hy⟩ := h4 cs hc
    obtain ⟨hlen, k, hf⟩ := trod_flat Try.underlying31 (by kernel_rfl) (by kernel_rfl) hy
    match cs, hlen with
    | [v0, v1, v2, v3, v4], _ =>
      obtain ⟨y0, g0⟩ := hf 0 _ v0 rfl rfl
      obtain ⟨y1, g1⟩ := hf 1 _ v1 rfl rfl
      obtain ⟨y2, g2⟩ := hf 2 _ v2 rfl rfl
      obtain ⟨y3, g3⟩ := hf 3 _ v3 rfl rfl
      obtain ⟨y4, g4⟩ := hf 4 _ v4 rfl rfl
      obtain ⟨K, e0, _, w0⟩ := DataW.trod_int Try.underlying3 g0
      obtain ⟨sA, e1, _, w1⟩ := DataW.trod_string Try.underlying9 g1
      obtain ⟨sB, e2, _, w2⟩ := DataW.trod_string Try.underlying9 g2
      obtain ⟨N, e3, _, w3⟩ := DataW.trod_int Try.underlying3 g3
      have e4 : ∃ sa sl sc, v4 = .slice sa sl sc := by
        rcases open_slice Try.underlying23 g4 with ⟨e, _⟩ | ⟨_, _, _, _, _, _, _, e, _⟩
        · exact ⟨_, _, _, by simpa using e⟩
        · exact ⟨_, _, _, by simpa using e⟩
      obtain ⟨ks, hks⟩ := keep_of_trod g4 e4
      obtain ⟨lA, rfl⟩ := bs_ex sA
      obtain ⟨lB, rfl⟩ := bs_ex sB
      rw [bs_size] at w1 w2
      simp only [List.cons.injEq, and_true] at e0 e1 e2 e3
      subst e0 e1 e2 e3
      exact ⟨⟨K, lA, lB, N, ks⟩, v4, rfl, hks, w1, w2, bounds_i64 w3, bounds_i64 w0⟩
  refine ⟨l, sa, sc, by rw [k1, h2], by omega, fun i a ha => ?_⟩
  obtain ⟨cs, e1, kv, rfl, e2, e3, e4, e5, e6⟩ := k2 i a ha
  obtain ⟨_, b, o, f1, f2⟩ := h3 i _ e1
  exact ⟨b, o, kv, f1, by simpa using f2 0 _ rfl, f2 1 _ rfl, f2 2 _ rfl, f2 3 _ rfl, f2 4 _ rfl, e2, e3, e4, e5, e6⟩
end

set_option maxRecDepth 100000 in
set_option maxHeartbeats 1000000 in
theorem Texts_any {w : World} {v1 v2 : Value} {a b : List (List UInt8)} (h1 : StrsAt w v1 a) (h2 : StrsAt w v2 b) :
    Calls Try.prog 16 #[v1, v2] w fun e w' => e = .returned (.bool (decide (a = b))) ∧ Below w.heap.size w w' := by
  obtain ⟨s1, c1, rfl, l1, x1⟩ := h1
  obtain ⟨s2, c2, rfl, l2, x2⟩ := h2
  unfold maxLen at l1 l2
  by_cases hlen : a.length = b.length
  · rw [← hlen]
    generalize hna : a.length = n at *
    have hnA := Lib.hid hna
    have hnB := Lib.hid hlen
    clear hna hlen l2
    go_enter Try.func16, Try.ntmps16
    go_wp2_with fail
    go_loopw [5] (fun i wr => ∃ j : Nat, j ≤ n ∧ i = .int .i64 (j : Int) ∧ a.take j = b.take j ∧ Below w.heap.size w wr) (fun i _ => n - (intOf i).toNat)
    case atStart => exact ⟨0, Nat.zero_le _, rfl, rfl, Below.refl _ _⟩
    case round =>
      obtain ⟨j, hj, rfl, hpre, hbw⟩ := hrel
      by_cases hjn : j < n
      · have hja : j < a.length := by rw [hnA.out]; exact hjn
        obtain ⟨b1, o1, rfl, d1, _⟩ := x1 j a[j] (List.getElem?_eq_getElem hja)
        have hjb : j < b.length := by rw [← hnB.out]; exact hjn
        obtain ⟨b2, o2, rfl, d2, _⟩ := x2 j b[j] (List.getElem?_eq_getElem hjb)
        have g1 := (Below.cell hbw (World.block_lt_of_cell? _ _ d1)).trans d1
        have g2 := (Below.cell hbw (World.block_lt_of_cell? _ _ d2)).trans d2
        have hta : a.take (j + 1) = a.take j ++ [a[j]] := by rw [List.take_succ_eq_append_getElem hja]
        have htb : b.take (j + 1) = b.take j ++ [b[j]] := by rw [List.take_succ_eq_append_getElem hjb]
        by_cases hx : a[j] = b[j]
        · have hnext := Lib.hid (show a.take (j + 1) = b.take (j + 1) by rw [hta, htb, hpre, hx])
          rw [← hx] at g2
          clear hta htb hpre hx d1 d2 x1 x2
          generalize a[j] = y at *
          go_wp2_with fail
          go_quiet (fail)
          go_wp2
          go_roundw
          case rel => exact ⟨j + 1, by omega, by go_num, hnext.out, hbw.trans ((below_drewN _ _).mono hbw.size)⟩
          case measure => simp [intOf]; omega
        · have hd : decide (a = b) = false := by
            simp only [decide_eq_false_iff_not]
            intro e
            subst e
            exact hx rfl
          have hne : (a[j] == b[j]) = false := by simpa using hx
          have HD := Lib.hid hd
          clear hd
          clear hta htb hpre hx d1 d2 x1 x2
          generalize a[j] = y at *
          generalize b[j] = z at *
          go_wp2_with fail
          go_quiet (fail)
          go_wp2
          go_ret
          exact ⟨by rw [HD.out]; rfl, hbw.trans ((below_drewN _ _).mono hbw.size)⟩
      · have hab : a = b := by
          rw [List.take_of_length_le (by rw [hnA.out]; omega), List.take_of_length_le (by rw [← hnB.out]; omega)] at hpre
          exact hpre
        have hd : decide (a = b) = true := by simpa using hab
        have HD := Lib.hid hd
        clear hd hab hpre
        go_wp2
        go_ret
        exact ⟨by rw [HD.out]; rfl, hbw⟩
  · have hne : ((a.length : Int) == (b.length : Int)) = false := by simp; omega
    have hd : decide (a = b) = false := by
      simp only [decide_eq_false_iff_not]
      intro e
      exact hlen (by rw [e])
    rw [hd]
    go_enter Try.func16, Try.ntmps16
    go_wp2
    go_ret
    exact ⟨rfl, Below.refl _ _⟩
end Go.Proofs.Ytphkmhajjnnbaaa
