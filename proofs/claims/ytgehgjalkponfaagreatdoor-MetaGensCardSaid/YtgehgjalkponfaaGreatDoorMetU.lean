/- The law MetaGens: the walk. -/
import Derived.Test.YtgehgjalkponfaaGreatDoorMetM
namespace Go.Proofs.YtgehgjalkponfaaGreatDoor
open Go.RowKit Go.Maps Go.WideMaps Go.ChangeShapes Go.WideShapes Go.Deep
attribute [local go_sem] bs_toList bs_size

theorem valid_gen (g x nx wl : Int) (L : List Int) (h : validM ⟨g, nx, wl, L⟩ = true) : (1 ≤ x ∧ x ≤ 3 → validM ⟨x, nx, wl, L⟩ = true) ∧ (¬ (1 ≤ x ∧ x ≤ 3) → validM ⟨x, nx, wl, L⟩ = false) := by
  obtain ⟨⟨h1, h2, h3, h4, h5⟩, h6, h7⟩ := (validM_iff _).1 h
  refine ⟨fun hx => (validM_iff _).2 ⟨⟨hx.1, hx.2, h3, h4, h5⟩, h6, h7⟩, fun hx => ?_⟩
  cases hv : validM ⟨x, nx, wl, L⟩ with
  | false => rfl
  | true =>
    obtain ⟨⟨k1, k2, _⟩, _⟩ := (validM_iff _).1 hv
    exact absurd ⟨k1, k2⟩ hx
set_option maxRecDepth 100000 in
set_option maxHeartbeats 4000000 in
theorem MetaGens_walk (cs : Array Value) (x : Int) (W : World) (hG : Gl W) (_hsz : cs.size = Tryz.prog.cellsOf 24) {H : Type} {enc : TypeId × Value → H} {d : DataW H} {p : List MemPlace}
    (k : DataW.Trod enc Tryz.prog W 0 (fun _ => true) true 24 (.agg cs) d p) (x1 : -9223372036854775808 ≤ x) (x2 : x ≤ 9223372036854775807) :
    Calls Tryz.prog 7 #[.agg cs, .int .i64 x] W fun e w' => e = .returned (.bool true) ∧ Below W.heap.size W w' := by
  obtain ⟨m, bv, e, hm, hI⟩ := meta_of_trod k
  rw [e]
  clear e k _hsz
  obtain ⟨g, nx, wl, L⟩ := m
  obtain ⟨ba, bc, rfl, hnil, hmx, hLb, hc⟩ := id hI
  simp only at hI hmx
  rw [show mtV ⟨g, nx, wl, L⟩ (.slice ba L.length bc) = .agg #[.int .i64 g, .int .i64 nx, .int .i64 wl, .slice ba L.length bc] from rfl]
  clear hc hLb hnil
  have b0 := one_alloc W (.cells #[.int .i64 g, .int .i64 nx, .int .i64 wl, .slice ba L.length bc] 24)
  have k0 := Blk.new W 24 #[.int .i64 g, .int .i64 nx, .int .i64 wl, .slice ba L.length bc]
  have q0 := Lib.hid (works_any _ (hG.below b0))
  unfold maxLen at hmx
  by_cases i1 : L.length ≤ 600
  · have f1 : decide ((600 : Int) < (L.length : Int)) = false := by simp; omega
    have f1' : decide (600 < L.length) = false := by simp; omega
    have hI1 := hI.at i1
    clear hI
    (try simp only at hI1)
    have qv := Lib.hid (fun W' h => Valid_any ⟨g, nx, wl, L⟩ (.slice ba L.length bc) W' hm h)
    rw [show mtV ⟨g, nx, wl, L⟩ (.slice ba L.length bc) = .agg #[.int .i64 g, .int .i64 nx, .int .i64 wl, .slice ba L.length bc] from rfl] at qv
    have hm2 : (⟨x, nx, wl, L⟩ : Mt).ok := ⟨⟨x1, x2⟩, hm.2⟩
    have hvg := Lib.hid (valid_gen g x nx wl L)
    have hpl := put_len ⟨x, nx, wl, L⟩
    have qp := Lib.hid (fun W' h => Put_any ⟨x, nx, wl, L⟩ (.slice ba L.length bc) W' hm2 h)
    rw [show mtV ⟨x, nx, wl, L⟩ (.slice ba L.length bc) = .agg #[.int .i64 x, .int .i64 nx, .int .i64 wl, .slice ba L.length bc] from rfl] at qp
    have qq := Lib.hid (fun W' v h1 h2 => Same_any ⟨g, nx, wl, L⟩ ⟨g, nx, wl, L⟩ v (.slice ba L.length bc) W' h1 h2)
    rw [show mtV ⟨g, nx, wl, L⟩ (.slice ba L.length bc) = .agg #[.int .i64 g, .int .i64 nx, .int .i64 wl, .slice ba L.length bc] from rfl, (sameM_iff _ _).2 rfl] at qq
    go_enter Tryz.func7, Tryz.ntmps7
    go_wp2_with fail
    refine q0.out.mono ?_
    rintro e w1 ⟨rfl, b1⟩
    have B1 := b0.trans (b1.mono b0.size)
    have k1 := Blk.below k0 b1 k0.lt
    have hI2 := hI1.below B1
    clear q0 k0
    obtain ⟨⟨c0, c1, c2, c3⟩, _⟩ := cells4 k1
    go_wp2_with fail
    refine (qv.out _ hI2).mono ?_
    rintro e w2 ⟨rfl, b2⟩
    have B2 := B1.trans (b2.mono B1.size)
    have k2 := Blk.below k1 b2 k1.lt
    have hI3 := hI2.below b2
    clear c0 c1 c2 c3 k1 hI2 hI1 qv
    cases hv : validM ⟨g, nx, wl, L⟩ with
    | false =>
      go_wp2_with fail
      go_ret
      exact ⟨rfl, B2⟩
    | true =>
      obtain ⟨hy, hn⟩ := hvg.out hv
      have b3 := one_alloc w2 (.cells #[.int .i64 x, .int .i64 nx, .int .i64 wl, .slice ba L.length bc] 24)
      have kn := Blk.new w2 24 #[.int .i64 x, .int .i64 nx, .int .i64 wl, .slice ba L.length bc]
      have k4 := Blk.below k2 b3 k2.lt
      have hI4 := hI3.below b3
      have B4 := B2.trans (b3.mono B2.size)
      obtain ⟨⟨c0, c1, c2, c3⟩, _⟩ := cells4 k2
      obtain ⟨⟨e0, e1, e2, e3⟩, _⟩ := cells4 kn
      clear b3 k2
      by_cases hx : 1 ≤ x ∧ x ≤ 3
      · have f2 : decide (x < 1) = false := by simp; omega
        have f3 : decide (3 < x) = false := by simp; omega
        have hvx := hy hx
        have HP := Lib.hid (show putMV ⟨x, nx, wl, L⟩ = .tuple #[.string (bs (putM ⟨x, nx, wl, L⟩).1), .int .i64 0] by unfold putMV; rw [put_ok _ hvx])
        have qg := Lib.hid (fun W' => Get_meta_any (putM ⟨x, nx, wl, L⟩).1 W' (by omega))
        rw [getM_put _ hvx, show (Option.some (⟨x, nx, wl, L⟩ : Mt)).getD zeroMt = ⟨x, nx, wl, L⟩ from rfl] at qg
        rw [HP.out] at qp
        generalize (putM ⟨x, nx, wl, L⟩).1 = PA at *
        clear hy hn hvg HP
        go_wp2_with fail
        refine (qp.out _ hI4).mono ?_
        rintro e w5 ⟨rfl, b5⟩
        have k5 := Blk.below k4 b5 k4.lt
        have hI5 := hI4.below b5
        have B5 := B4.trans (b5.mono B4.size)
        clear c0 c1 c2 c3 e0 e1 e2 e3 qp k4 hI4 kn
        go_wp2_with fail
        refine (qg.out _).mono ?_
        rintro e w6 ⟨nv, rfl, hN, b6⟩
        (try simp only at hN)
        obtain ⟨na, nc, rfl, _⟩ := id hN
        rw [show getMV ⟨x, nx, wl, L⟩ (.slice na L.length nc) 0 = .tuple #[.agg #[.int .i64 x, .int .i64 nx, .int .i64 wl, .slice na L.length nc], .int .i64 0] from rfl]
        have k6 := Blk.below k5 b6 k5.lt
        have b7 := one_alloc w6 (.cells #[.int .i64 g, .int .i64 nx, .int .i64 wl, .slice na L.length nc] 24)
        have kx := Blk.new w6 24 #[.int .i64 g, .int .i64 nx, .int .i64 wl, .slice na L.length nc]
        have k8 := Blk.below k6 b7 k6.lt
        have ky := Blk.alloc k6 (.cells #[.int .i64 x, .int .i64 nx, .int .i64 wl, .slice na L.length nc] 24)
        have hI8 := (hI5.below b6).below b7
        have hN8 := hN.below b7
        have B8 := (B5.trans (b6.mono B5.size)).trans (b7.mono (B5.trans (b6.mono B5.size)).size)
        obtain ⟨⟨c0, c1, c2, c3⟩, _⟩ := cells4 ky
        obtain ⟨⟨y0, y1, y2, y3⟩, _⟩ := cells4 k8
        obtain ⟨⟨e0, e1, e2, e3⟩, _⟩ := cells4 kx
        have qr := Lib.hid (qq.out _ _ hN8 hI8)
        rw [show mtV ⟨g, nx, wl, L⟩ (.slice na L.length nc) = .agg #[.int .i64 g, .int .i64 nx, .int .i64 wl, .slice na L.length nc] from rfl] at qr
        clear qq k5 k6 kx ky k8 hI5 hN8 hI8 qg hpl hm hm2 b7 hvx hv
        go_wp2_with fail
        refine (qr.out).mono ?_
        rintro e w9 ⟨rfl, b9⟩
        go_wp2_with fail
        go_ret
        exact ⟨rfl, B8.trans (b9.mono B8.size)⟩
      · have hvx := hn hx
        have HP := Lib.hid (show putMV ⟨x, nx, wl, L⟩ = .tuple #[.string ⟨#[]⟩, .int .i64 1] by unfold putMV; rw [put_bad _ hvx]; rfl)
        rw [HP.out] at qp
        clear hy hn hvg HP qq hpl hvx
        go_wp2_with fail
        refine (qp.out _ hI4).mono ?_
        rintro e w5 ⟨rfl, b5⟩
        have B5 := B4.trans (b5.mono B4.size)
        clear c0 c1 c2 c3 e0 e1 e2 e3 qp k4 hI4 kn
        by_cases h1 : x < 1
        · have f2 : decide (x < 1) = true := by simpa using h1
          clear hx h1
          go_wp2_with fail
          go_ret
          exact ⟨rfl, B5⟩
        · have f2 : decide (x < 1) = false := by simpa using h1
          have f3 : decide (3 < x) = true := by simp; omega
          clear hx h1
          go_wp2_with fail
          go_ret
          exact ⟨rfl, B5⟩
  · have f1 : decide ((600 : Int) < (L.length : Int)) = true := by simp; omega
    have f1' : decide (600 < L.length) = true := by simp; omega
    go_enter Tryz.func7, Tryz.ntmps7
    go_wp2_with fail
    refine q0.out.mono ?_
    rintro e w1 ⟨rfl, b1⟩
    have k1 := Blk.below k0 b1 k0.lt
    obtain ⟨⟨c0, c1, c2, c3⟩, _⟩ := cells4 k1
    go_wp2_with fail
    go_ret
    exact ⟨rfl, b0.trans (b1.mono b0.size)⟩
end Go.Proofs.YtgehgjalkponfaaGreatDoor
