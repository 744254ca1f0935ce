/- Whether two metas are alike: the walk of Same. -/
import Derived.Test.YtgehgjalkponfaaGreatDoorMetW
namespace Go.Proofs.YtgehgjalkponfaaGreatDoor
open Go.RowKit Go.Maps Go.WideMaps
attribute [local go_sem] bs_toList bs_size

theorem drewN_below (w : World) (n : Nat) : Below w.heap.size w (w.drewN n) := ⟨rfl, rfl, rfl, Nat.le_refl _, fun _ _ => rfl⟩
theorem Equal_any {w : World} {v1 v2 : Value} {L M : List Int} (h1 : IntsAt w v1 L) (h2 : IntsAt w v2 M) :
    Calls Tryz.prog 37 #[v1, v2] w fun e w' => e = .returned (.bool (L == M)) ∧ Below w.heap.size w w' := by
  obtain ⟨a1, c1, rfl, _, hl1, _, x1⟩ := h1
  obtain ⟨a2, c2, rfl, _, hl2, _, x2⟩ := h2
  by_cases hlen : L.length = M.length
  · cases L with
    | nil =>
      have hM : M = [] := List.length_eq_zero_iff.1 hlen.symm
      subst hM
      refine (Tryz.slices_Equal_int_empty a1 a2 c1 0 c2 w (by omega)).mono ?_
      rintro e w' ⟨rfl, rfl⟩
      exact ⟨rfl, Below.refl _ _⟩
    | cons x L =>
      cases M with
      | nil => cases hlen
      | cons y M =>
        obtain ⟨b1, o1, rfl, _⟩ := x1 0 x rfl
        obtain ⟨b2, o2, rfl, _⟩ := x2 0 y rfl
        refine (Tryz.slices_Equal_int b1 o1 (x :: L).length c1 b2 o2 (y :: M).length c2 (x :: L) (y :: M) w (Nat.le_refl _) (Nat.le_refl _) (by omega) (by omega) (fun j hj => ?_) (fun j hj => ?_)).mono ?_
        · obtain ⟨b, o, e, h⟩ := x1 j _ (List.getElem?_eq_getElem hj)
          obtain ⟨rfl, rfl, _⟩ := Addr.mk.inj (Option.some.inj e)
          rw [h, List.getD_eq_getElem?_getD, List.getElem?_eq_getElem hj]
          rfl
        · obtain ⟨b, o, e, h⟩ := x2 j _ (List.getElem?_eq_getElem hj)
          obtain ⟨rfl, rfl, _⟩ := Addr.mk.inj (Option.some.inj e)
          rw [h, List.getD_eq_getElem?_getD, List.getElem?_eq_getElem hj]
          rfl
        · rintro e w' ⟨rfl, q, rfl⟩
          rw [List.take_of_length_le (Nat.le_refl _), List.take_of_length_le (Nat.le_refl _)]
          exact ⟨rfl, drewN_below _ _⟩
  · refine (Tryz.slices_Equal_int_lens a1 a2 L.length c1 M.length c2 w hlen).mono ?_
    rintro e w' ⟨rfl, rfl⟩
    refine ⟨?_, Below.refl _ _⟩
    rw [show (L == M) = false by
      rw [beq_eq_false_iff_ne]
      intro e
      exact hlen (by rw [e])]
/-- Alike? -/
def sameM (m n : Mt) : Bool := m.gen == n.gen && (m.next == n.next && (m.wal == n.wal && m.blocks == n.blocks))
theorem sameM_iff (m n : Mt) : sameM m n = true ↔ m = n := by
  unfold sameM
  simp only [Bool.and_eq_true, beq_iff_eq]
  constructor
  · rintro ⟨h1, h2, h3, h4⟩
    exact Mt.ext' h1 h2 h3 h4
  · rintro rfl
    exact ⟨rfl, rfl, rfl, rfl⟩
set_option maxRecDepth 100000 in
set_option maxHeartbeats 2000000 in
theorem Same_any (m n : Mt) (bm bn : Value) (w : World) (h1 : IntsAt w bm m.blocks) (h2 : IntsAt w bn n.blocks) :
    Calls Tryz.prog 16 #[mtV m bm, mtV n bn] w fun e w' => e = .returned (.bool (sameM m n)) ∧ Below w.heap.size w w' := by
  obtain ⟨g, nx, wl, L⟩ := m
  obtain ⟨g', nx', wl', M⟩ := n
  simp only at h1 h2
  obtain ⟨a1, c1, rfl, _⟩ := id h1
  obtain ⟨a2, c2, rfl, _⟩ := id h2
  rw [show mtV ⟨g, nx, wl, L⟩ (.slice a1 L.length c1) = .agg #[.int .i64 g, .int .i64 nx, .int .i64 wl, .slice a1 L.length c1] from rfl, show mtV ⟨g', nx', wl', M⟩ (.slice a2 M.length c2) = .agg #[.int .i64 g', .int .i64 nx', .int .i64 wl', .slice a2 M.length c2] from rfl]
  have b0 := one_alloc w (.cells #[.int .i64 g, .int .i64 nx, .int .i64 wl, .slice a1 L.length c1] 24)
  have k0 := Blk.new w 24 #[.int .i64 g, .int .i64 nx, .int .i64 wl, .slice a1 L.length c1]
  have b1 := b0.alloc b0.size (.cells #[.int .i64 g', .int .i64 nx', .int .i64 wl', .slice a2 M.length c2] 24)
  have k1 := Blk.alloc k0 (.cells #[.int .i64 g', .int .i64 nx', .int .i64 wl', .slice a2 M.length c2] 24)
  have k2 := Blk.new (w.alloc (.cells #[.int .i64 g, .int .i64 nx, .int .i64 wl, .slice a1 L.length c1] 24)) 24 #[.int .i64 g', .int .i64 nx', .int .i64 wl', .slice a2 M.length c2]
  rw [World.size_alloc] at k2
  obtain ⟨⟨c0, c1', c2', c3⟩, _⟩ := cells4 k1
  obtain ⟨⟨d0, d1, d2, d3⟩, _⟩ := cells4 k2
  have Q := Lib.hid (Equal_any (h1.below b1) (h2.below b1))
  have HS := Lib.hid (show sameM ⟨g, nx, wl, L⟩ ⟨g', nx', wl', M⟩ = (g == g' && (nx == nx' && (wl == wl' && L == M))) from rfl)
  generalize sameM ⟨g, nx, wl, L⟩ ⟨g', nx', wl', M⟩ = R at *
  clear k0 k1 k2 h1 h2
  go_enter Tryz.func16, Tryz.ntmps16
  by_cases e1 : g = g'
  · have f1 : (g == g') = true := by simpa using e1
    by_cases e2 : nx = nx'
    · have f2 : (nx == nx') = true := by simpa using e2
      by_cases e3 : wl = wl'
      · have f3 : (wl == wl') = true := by simpa using e3
        have HR := Lib.hid (show R = (L == M) by rw [HS.out, f1, f2, f3]; rfl)
        clear HS e1 e2 e3
        go_wp2_with fail
        refine Q.out.mono ?_
        rintro e w2 ⟨rfl, hb2⟩
        go_wp2
        go_ret
        exact ⟨by rw [HR.out]; rfl, b1.trans (hb2.mono b1.size)⟩
      · have f3 : (wl == wl') = false := by simpa using e3
        have HR := Lib.hid (show R = false by rw [HS.out, f1, f2, f3]; rfl)
        clear HS e1 e2 e3
        go_wp2
        go_ret
        exact ⟨by rw [HR.out]; rfl, b1⟩
    · have f2 : (nx == nx') = false := by simpa using e2
      have HR := Lib.hid (show R = false by rw [HS.out, f1, f2]; rfl)
      clear HS e1 e2
      go_wp2
      go_ret
      exact ⟨by rw [HR.out]; rfl, b1⟩
  · have f1 : (g == g') = false := by simpa using e1
    have HR := Lib.hid (show R = false by rw [HS.out, f1]; rfl)
    clear HS e1
    go_wp2
    go_ret
    exact ⟨by rw [HR.out]; rfl, b1⟩
end Go.Proofs.YtgehgjalkponfaaGreatDoor
