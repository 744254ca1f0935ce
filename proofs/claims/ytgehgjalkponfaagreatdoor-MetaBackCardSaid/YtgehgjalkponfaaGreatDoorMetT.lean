/- The law MetaBack: the walk. -/
import Derived.Test.YtgehgjalkponfaaGreatDoorMetM
namespace Go.Proofs.YtgehgjalkponfaaGreatDoor
open Go.RowKit Go.Maps Go.WideMaps Go.ChangeShapes Go.WideShapes Go.Deep
attribute [local go_sem] bs_toList bs_size

theorem valid_ok (m : Mt) (h : validM m = true) : m.ok := by
  obtain ⟨⟨h1, h2, h3, h4, h5⟩, h6, _⟩ := (validM_iff m).1 h
  have hw := h6 m.wal List.mem_cons_self
  exact ⟨⟨by omega, by omega⟩, ⟨by omega, by omega⟩, by omega, by omega⟩
set_option maxRecDepth 100000 in
set_option maxHeartbeats 4000000 in
theorem MetaBack_walk (cs : Array Value) (s : List UInt8) (W : World) (hG : Gl W) (_hsz : cs.size = Tryz.prog.cellsOf 24) {H : Type} {enc : TypeId × Value → H} {d : DataW H} {p : List MemPlace}
    (k : DataW.Trod enc Tryz.prog W 0 (fun _ => true) true 24 (.agg cs) d p) (hs : s.length ≤ maxLen) :
    Calls Tryz.prog 6 #[.agg cs, .string (bs s)] W fun e w' => e = .returned (.bool true) ∧ Below W.heap.size W w' := by
  obtain ⟨m, bv, e, hm, hI⟩ := meta_of_trod k
  rw [e]
  clear e k _hsz
  have hpl := put_len m
  have hpv := Lib.hid (fun h => put_ok m h)
  have hpn := Lib.hid (fun h => put_bad m h)
  have hgp := Lib.hid (fun h => getM_put m h)
  obtain ⟨g, nx, wl, L⟩ := m
  obtain ⟨ba, bc, rfl, hnil, hmx, hLb, hc⟩ := id hI
  simp only at hI hmx
  rw [show mtV ⟨g, nx, wl, L⟩ (.slice ba L.length bc) = .agg #[.int .i64 g, .int .i64 nx, .int .i64 wl, .slice ba L.length bc] from rfl]
  clear hc hLb hnil
  have b0 := one_alloc W (.cells #[.int .i64 g, .int .i64 nx, .int .i64 wl, .slice ba L.length bc] 24)
  have k0 := Blk.new W 24 #[.int .i64 g, .int .i64 nx, .int .i64 wl, .slice ba L.length bc]
  have q0 := Lib.hid (works_any _ (hG.below b0))
  unfold maxLen at hmx hs
  by_cases i1 : L.length ≤ 600
  · have f1 : decide ((600 : Int) < (L.length : Int)) = false := by simp; omega
    have f1' : decide (600 < L.length) = false := by simp; omega
    have hI1 := hI.at i1
    clear hI
    (try simp only at hI1)
    by_cases i2 : s.length ≤ 600
    · have f2 : decide ((600 : Int) < (s.length : Int)) = false := by simp; omega
      have f2' : decide (600 < s.length) = false := by simp; omega
      have hgs := Lib.hid (getM_some s)
      have hgn := Lib.hid (getM_none s)
      have qp := Lib.hid (fun W' h => Put_any ⟨g, nx, wl, L⟩ (.slice ba L.length bc) W' hm h)
      rw [show mtV ⟨g, nx, wl, L⟩ (.slice ba L.length bc) = .agg #[.int .i64 g, .int .i64 nx, .int .i64 wl, .slice ba L.length bc] from rfl] at qp
      have qv := Lib.hid (fun W' h => Valid_any ⟨g, nx, wl, L⟩ (.slice ba L.length bc) W' hm h)
      rw [show mtV ⟨g, nx, wl, L⟩ (.slice ba L.length bc) = .agg #[.int .i64 g, .int .i64 nx, .int .i64 wl, .slice ba L.length bc] from rfl] at qv
      have qq := Lib.hid (fun W' v h1 h2 => Same_any ⟨g, nx, wl, L⟩ ⟨g, nx, wl, L⟩ (.slice ba L.length bc) v W' h1 h2)
      rw [show mtV ⟨g, nx, wl, L⟩ (.slice ba L.length bc) = .agg #[.int .i64 g, .int .i64 nx, .int .i64 wl, .slice ba L.length bc] from rfl, (sameM_iff _ _).2 rfl] at qq
      go_enter Tryz.func6, Tryz.ntmps6
      go_wp2_with fail
      refine q0.out.mono ?_
      rintro e w1 ⟨rfl, b1⟩
      have B1 := b0.trans (b1.mono b0.size)
      have k1 := Blk.below k0 b1 k0.lt
      have hI2 := hI1.below B1
      clear q0 k0
      obtain ⟨⟨c0, c1, c2, c3⟩, _⟩ := cells4 k1
      cases hv : validM ⟨g, nx, wl, L⟩ with
      | true =>
        rw [hv] at qv
        rw [show putMV ⟨g, nx, wl, L⟩ = .tuple #[.string (bs (putM ⟨g, nx, wl, L⟩).1), .int .i64 0] by unfold putMV; rw [hpv.out hv]] at qp
        have qg := Lib.hid (fun W' => Get_meta_any (putM ⟨g, nx, wl, L⟩).1 W' (by omega))
        rw [hgp.out hv, show (Option.some (⟨g, nx, wl, L⟩ : Mt)).getD zeroMt = ⟨g, nx, wl, L⟩ from rfl] at qg
        generalize (putM ⟨g, nx, wl, L⟩).1 = PA at *
        clear hpv hpn hgp
        go_wp2_with fail
        refine (qp.out _ hI2).mono ?_
        rintro e w2 ⟨rfl, b2⟩
        have B2 := B1.trans (b2.mono B1.size)
        have k2 := Blk.below k1 b2 k1.lt
        have hI3 := hI2.below b2
        clear qp k1 hI2 hI1 c0 c1 c2 c3
        go_wp2_with fail
        refine (qg.out _).mono ?_
        rintro e w3 ⟨nv, rfl, hN, b3⟩
        (try simp only at hN)
        obtain ⟨na, nc, rfl, _⟩ := id hN
        rw [show getMV ⟨g, nx, wl, L⟩ (.slice na L.length nc) 0 = .tuple #[.agg #[.int .i64 g, .int .i64 nx, .int .i64 wl, .slice na L.length nc], .int .i64 0] from rfl]
        have b4 := one_alloc w3 (.cells #[.int .i64 g, .int .i64 nx, .int .i64 wl, .slice na L.length nc] 24)
        have kn := Blk.new w3 24 #[.int .i64 g, .int .i64 nx, .int .i64 wl, .slice na L.length nc]
        have b24 := b3.trans (b4.mono b3.size)
        have k4 := Blk.below k2 b24 k2.lt
        have hI4 := hI3.below b24
        have hN4 := hN.below b4
        have B4 := B2.trans (b24.mono B2.size)
        obtain ⟨⟨c0, c1, c2, c3⟩, _⟩ := cells4 k4
        clear qg k2 hI3 b3 b24
        go_wp2_with fail
        refine (qv.out _ hI4).mono ?_
        rintro e w5 ⟨rfl, b5⟩
        have k5 := Blk.below k4 b5 k4.lt
        have kn5 := Blk.below kn b5 kn.lt
        have hI5 := hI4.below b5
        have hN5 := hN4.below b5
        have B5 := B4.trans (b5.mono B4.size)
        clear c0 c1 c2 c3 k4 hI4 hN4 qv
        obtain ⟨⟨c0, c1, c2, c3⟩, _⟩ := cells4 k5
        obtain ⟨⟨d0, d1, d2, d3⟩, _⟩ := cells4 kn5
        have qr := Lib.hid (qq.out _ _ hI5 hN5)
        rw [show mtV ⟨g, nx, wl, L⟩ (.slice na L.length nc) = .agg #[.int .i64 g, .int .i64 nx, .int .i64 wl, .slice na L.length nc] from rfl] at qr
        clear qq
        go_wp2_with fail
        refine (qr.out).mono ?_
        rintro e w6 ⟨rfl, b6⟩
        have BB := B5.trans (b6.mono B5.size)
        clear qr c0 c1 c2 c3 d0 d1 d2 d3 kn kn5 k5 hI5 hN5
        clear hN
        go_wp2_with fail
        have qs := Lib.hid (fun W' => Get_meta_any s W' (show s.length ≤ 1000000 by omega))
        refine (qs.out _).mono ?_
        rintro e w7 ⟨ov, rfl, hO, b7⟩
        have B7 := BB.trans (b7.mono BB.size)
        clear qs
        cases ho : (getM s).1 with
        | none =>
          rw [ho] at hO
          rw [show (Option.none : Option Mt).getD zeroMt = zeroMt from rfl] at hO ⊢
          obtain ⟨oa, oc, rfl, _⟩ := id hO
          have b8 := one_alloc w7 (.cells #[.int .i64 0, .int .i64 0, .int .i64 0, .slice oa 0 oc] 24)
          have k8 := Blk.new w7 24 #[.int .i64 0, .int .i64 0, .int .i64 0, .slice oa 0 oc]
          obtain ⟨⟨d0, d1, d2, d3⟩, _⟩ := cells4 k8
          have B8 := B7.trans (b8.mono B7.size)
          have qz := Lib.hid (Same_any zeroMt zeroMt _ _ _ (hO.below b8) (ints_nil _))
          rw [show sameM zeroMt zeroMt = true from rfl] at qz
          rcases hgn.out ho with h9 | h9
          · rw [h9]
            rw [show getMV zeroMt (.slice oa zeroMt.blocks.length oc) 9 = .tuple #[.agg #[.int .i64 0, .int .i64 0, .int .i64 0, .slice oa 0 oc], .int .i64 9] from rfl]
            go_wp2_with fail
            refine (qz.out).mono ?_
            rintro e w9 ⟨rfl, b9⟩
            go_wp2_with fail
            go_ret
            exact ⟨rfl, B8.trans (b9.mono B8.size)⟩
          · rw [h9]
            rw [show getMV zeroMt (.slice oa zeroMt.blocks.length oc) 10 = .tuple #[.agg #[.int .i64 0, .int .i64 0, .int .i64 0, .slice oa 0 oc], .int .i64 10] from rfl]
            go_wp2_with fail
            refine (qz.out).mono ?_
            rintro e w9 ⟨rfl, b9⟩
            go_wp2_with fail
            go_ret
            exact ⟨rfl, B8.trans (b9.mono B8.size)⟩
        | some o =>
          obtain ⟨h9, hpo, hvo⟩ := hgs.out o (getM s).2 (Prod.ext ho rfl)
          rw [ho] at hO
          rw [show (Option.some o).getD zeroMt = o from rfl] at hO ⊢
          rw [h9]
          have hko := valid_ok o hvo
          have qu := Lib.hid (fun W' h => Put_any o ov W' hko h)
          rw [show putMV o = .tuple #[.string (bs s), .int .i64 0] by unfold putMV; rw [hpo]] at qu
          have qw := Lib.hid (fun W' h => Valid_any o ov W' hko h)
          rw [hvo] at qw
          obtain ⟨og, on, ow, oL⟩ := o
          (try simp only at hO)
          obtain ⟨oa, oc, rfl, _⟩ := id hO
          rw [show mtV ⟨og, on, ow, oL⟩ (.slice oa oL.length oc) = .agg #[.int .i64 og, .int .i64 on, .int .i64 ow, .slice oa oL.length oc] from rfl] at qu qw
          rw [show getMV ⟨og, on, ow, oL⟩ (.slice oa oL.length oc) 0 = .tuple #[.agg #[.int .i64 og, .int .i64 on, .int .i64 ow, .slice oa oL.length oc], .int .i64 0] from rfl]
          have b8 := one_alloc w7 (.cells #[.int .i64 og, .int .i64 on, .int .i64 ow, .slice oa oL.length oc] 24)
          have k8 := Blk.new w7 24 #[.int .i64 og, .int .i64 on, .int .i64 ow, .slice oa oL.length oc]
          obtain ⟨⟨d0, d1, d2, d3⟩, _⟩ := cells4 k8
          have B8 := B7.trans (b8.mono B7.size)
          have hO8 := hO.below b8
          clear hpo hvo hko ho hgs hgn h9
          go_wp2_with fail
          refine (qu.out _ hO8).mono ?_
          rintro e w9 ⟨rfl, b9⟩
          have k9 := Blk.below k8 b9 k8.lt
          have hO9 := hO8.below b9
          have B9 := B8.trans (b9.mono B8.size)
          obtain ⟨⟨x0, x1, x2, x3⟩, _⟩ := cells4 k9
          clear qu d0 d1 d2 d3
          go_wp2_with fail
          refine (qw.out _ hO9).mono ?_
          rintro e w10 ⟨rfl, b10⟩
          go_wp2_with fail
          go_ret
          exact ⟨rfl, B9.trans (b10.mono B9.size)⟩
      | false =>
        rw [hv] at qv
        rw [show putMV ⟨g, nx, wl, L⟩ = .tuple #[.string ⟨#[]⟩, .int .i64 1] by unfold putMV; rw [hpn.out hv]; rfl] at qp
        have qg := Lib.hid (fun W' => Get_meta_any [] W' (by decide))
        rw [show getM [] = (none, 9) from rfl, show (Option.none : Option Mt).getD zeroMt = zeroMt from rfl, show bs [] = (⟨#[]⟩ : ByteArray) from rfl] at qg
        clear hpv hpn hgp qq hpl
        go_wp2_with fail
        refine (qp.out _ hI2).mono ?_
        rintro e w2 ⟨rfl, b2⟩
        have B2 := B1.trans (b2.mono B1.size)
        have k2 := Blk.below k1 b2 k1.lt
        have hI3 := hI2.below b2
        clear qp k1 hI2 hI1 c0 c1 c2 c3
        go_wp2_with fail
        refine (qg.out _).mono ?_
        rintro e w3 ⟨nv, rfl, hN, b3⟩
        obtain ⟨na, nc, rfl, _⟩ := id hN
        rw [show getMV zeroMt (.slice na zeroMt.blocks.length nc) 9 = .tuple #[.agg #[.int .i64 0, .int .i64 0, .int .i64 0, .slice na 0 nc], .int .i64 9] from rfl]
        have b4 := one_alloc w3 (.cells #[.int .i64 0, .int .i64 0, .int .i64 0, .slice na 0 nc] 24)
        have b24 := b3.trans (b4.mono b3.size)
        have k4 := Blk.below k2 b24 k2.lt
        have hI4 := hI3.below b24
        have B4 := B2.trans (b24.mono B2.size)
        obtain ⟨⟨c0, c1, c2, c3⟩, _⟩ := cells4 k4
        clear qg k2 hI3 b3 b24 hN
        go_wp2_with fail
        refine (qv.out _ hI4).mono ?_
        rintro e w5 ⟨rfl, b5⟩
        have BB := B4.trans (b5.mono B4.size)
        clear c0 c1 c2 c3 k4 hI4 qv
        go_wp2_with fail
        have qs := Lib.hid (fun W' => Get_meta_any s W' (show s.length ≤ 1000000 by omega))
        refine (qs.out _).mono ?_
        rintro e w7 ⟨ov, rfl, hO, b7⟩
        have B7 := BB.trans (b7.mono BB.size)
        clear qs
        cases ho : (getM s).1 with
        | none =>
          rw [ho] at hO
          rw [show (Option.none : Option Mt).getD zeroMt = zeroMt from rfl] at hO ⊢
          obtain ⟨oa, oc, rfl, _⟩ := id hO
          have b8 := one_alloc w7 (.cells #[.int .i64 0, .int .i64 0, .int .i64 0, .slice oa 0 oc] 24)
          have k8 := Blk.new w7 24 #[.int .i64 0, .int .i64 0, .int .i64 0, .slice oa 0 oc]
          obtain ⟨⟨d0, d1, d2, d3⟩, _⟩ := cells4 k8
          have B8 := B7.trans (b8.mono B7.size)
          have qz := Lib.hid (Same_any zeroMt zeroMt _ _ _ (hO.below b8) (ints_nil _))
          rw [show sameM zeroMt zeroMt = true from rfl] at qz
          rcases hgn.out ho with h9 | h9
          · rw [h9]
            rw [show getMV zeroMt (.slice oa zeroMt.blocks.length oc) 9 = .tuple #[.agg #[.int .i64 0, .int .i64 0, .int .i64 0, .slice oa 0 oc], .int .i64 9] from rfl]
            go_wp2_with fail
            refine (qz.out).mono ?_
            rintro e w9 ⟨rfl, b9⟩
            go_wp2_with fail
            go_ret
            exact ⟨rfl, B8.trans (b9.mono B8.size)⟩
          · rw [h9]
            rw [show getMV zeroMt (.slice oa zeroMt.blocks.length oc) 10 = .tuple #[.agg #[.int .i64 0, .int .i64 0, .int .i64 0, .slice oa 0 oc], .int .i64 10] from rfl]
            go_wp2_with fail
            refine (qz.out).mono ?_
            rintro e w9 ⟨rfl, b9⟩
            go_wp2_with fail
            go_ret
            exact ⟨rfl, B8.trans (b9.mono B8.size)⟩
        | some o =>
          obtain ⟨h9, hpo, hvo⟩ := hgs.out o (getM s).2 (Prod.ext ho rfl)
          rw [ho] at hO
          rw [show (Option.some o).getD zeroMt = o from rfl] at hO ⊢
          rw [h9]
          have hko := valid_ok o hvo
          have qu := Lib.hid (fun W' h => Put_any o ov W' hko h)
          rw [show putMV o = .tuple #[.string (bs s), .int .i64 0] by unfold putMV; rw [hpo]] at qu
          have qw := Lib.hid (fun W' h => Valid_any o ov W' hko h)
          rw [hvo] at qw
          obtain ⟨og, on, ow, oL⟩ := o
          (try simp only at hO)
          obtain ⟨oa, oc, rfl, _⟩ := id hO
          rw [show mtV ⟨og, on, ow, oL⟩ (.slice oa oL.length oc) = .agg #[.int .i64 og, .int .i64 on, .int .i64 ow, .slice oa oL.length oc] from rfl] at qu qw
          rw [show getMV ⟨og, on, ow, oL⟩ (.slice oa oL.length oc) 0 = .tuple #[.agg #[.int .i64 og, .int .i64 on, .int .i64 ow, .slice oa oL.length oc], .int .i64 0] from rfl]
          have b8 := one_alloc w7 (.cells #[.int .i64 og, .int .i64 on, .int .i64 ow, .slice oa oL.length oc] 24)
          have k8 := Blk.new w7 24 #[.int .i64 og, .int .i64 on, .int .i64 ow, .slice oa oL.length oc]
          obtain ⟨⟨d0, d1, d2, d3⟩, _⟩ := cells4 k8
          have B8 := B7.trans (b8.mono B7.size)
          have hO8 := hO.below b8
          clear hpo hvo hko ho hgs hgn h9
          go_wp2_with fail
          refine (qu.out _ hO8).mono ?_
          rintro e w9 ⟨rfl, b9⟩
          have k9 := Blk.below k8 b9 k8.lt
          have hO9 := hO8.below b9
          have B9 := B8.trans (b9.mono B8.size)
          obtain ⟨⟨x0, x1, x2, x3⟩, _⟩ := cells4 k9
          clear qu d0 d1 d2 d3
          go_wp2_with fail
          refine (qw.out _ hO9).mono ?_
          rintro e w10 ⟨rfl, b10⟩
          go_wp2_with fail
          go_ret
          exact ⟨rfl, B9.trans (b10.mono B9.size)⟩
    · have f2 : decide ((600 : Int) < (s.length : Int)) = true := by simp; omega
      have f2' : decide (600 < s.length) = true := by simp; omega
      go_enter Tryz.func6, Tryz.ntmps6
      go_wp2_with fail
      refine q0.out.mono ?_
      rintro e w1 ⟨rfl, b1⟩
      have k1 := Blk.below k0 b1 k0.lt
      obtain ⟨⟨c0, c1, c2, c3⟩, _⟩ := cells4 k1
      go_wp2_with fail
      go_ret
      exact ⟨rfl, b0.trans (b1.mono b0.size)⟩
  · have f1 : decide ((600 : Int) < (L.length : Int)) = true := by simp; omega
    have f1' : decide (600 < L.length) = true := by simp; omega
    go_enter Tryz.func6, Tryz.ntmps6
    go_wp2_with fail
    refine q0.out.mono ?_
    rintro e w1 ⟨rfl, b1⟩
    have k1 := Blk.below k0 b1 k0.lt
    obtain ⟨⟨c0, c1, c2, c3⟩, _⟩ := cells4 k1
    go_wp2_with fail
    go_ret
    exact ⟨rfl, b0.trans (b1.mono b0.size)⟩
end Go.Proofs.YtgehgjalkponfaaGreatDoor
