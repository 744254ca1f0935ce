/- The meta that bytes are: the walk of Get. -/
import Derived.Test.YtgehgjalkponfaaGreatDoorMetR
namespace Go.Proofs.YtgehgjalkponfaaGreatDoor
open Go.RowKit Go.Maps Go.WideMaps
attribute [local go_sem] bs_toList bs_size

def zeroMt : Mt := ⟨0, 0, 0, []⟩
theorem readM_ok (b : List UInt8) (g : Int) (h1 : -9223372036854775808 ≤ g) (h2 : g ≤ 9223372036854775807) : (readM b g).1.ok := by
  have e1 := numG_bd g 999999 (b, false)
  have e2 := numG_bd g 999999 (numG g 999999 (b, false)).2
  refine ⟨⟨h1, h2⟩, ⟨?_, ?_⟩, ?_, ?_⟩
  · show _ ≤ (numG g 999999 (b, false)).1
    omega
  · show (numG g 999999 (b, false)).1 ≤ _
    omega
  · show _ ≤ (if g = 3 then (numG g 999999 (b, false)).1 - (numG g 999999 (numG g 999999 (b, false)).2).1 else (numG g 999999 (numG g 999999 (b, false)).2).1)
    split <;> omega
  · show (if g = 3 then (numG g 999999 (b, false)).1 - (numG g 999999 (numG g 999999 (b, false)).2).1 else (numG g 999999 (numG g 999999 (b, false)).2).1) ≤ _
    split <;> omega
theorem openB_bd (s m : List UInt8) : (openB s m).1 < 256 ∧ (openB s m).2.1 < 256 ∧ (openB s m).2.2.1.length ≤ s.length := by
  unfold openB
  split
  · exact ⟨by simp, by simp, by simp⟩
  · split
    · exact ⟨by simp, by simp, by simp⟩
    · split
      · exact ⟨by simp, by simp, by simp⟩
      · split
        · exact ⟨by simp, by simp, by simp⟩
        · split
          · exact ⟨by simp, by simp, by simp⟩
          · rename_i b _ _ _ _
            have h1 := (b.getD m.length 0).toNat_lt
            have h2 := (b.getD (m.length + 1) 0).toNat_lt
            exact ⟨by simp only; omega, by simp only; omega, by simp⟩
theorem frameGet_len (s : List UInt8) (m : Nat) : (frameGet s m).1.length ≤ s.length ∧ (frameGet s m).2.1.length ≤ s.length := by
  unfold frameGet
  split
  · exact ⟨by simp, Nat.le_refl _⟩
  · split
    · exact ⟨by simp, Nat.le_refl _⟩
    · split
      · exact ⟨by simp, Nat.le_refl _⟩
      · split
        · exact ⟨by simp; omega, by simp⟩
        · exact ⟨by simp, Nat.le_refl _⟩
theorem ints_kept {w w' : World} {v : Value} {L : List Int} {b : Nat} (h : IntsAt w v L) (hk : Kept w w' (fun k => k = b)) (hne : v.ownBlock ≠ some b) : IntsAt w' v L := by
  obtain ⟨a, c, rfl, h1, h2, h3, h4⟩ := h
  refine ⟨a, c, rfl, h1, h2, h3, fun i x hx => ?_⟩
  obtain ⟨k, o, rfl, hc⟩ := h4 i x hx
  refine ⟨k, o, rfl, ?_⟩
  exact (World.cell?_of_block (hk.block k (World.block_lt_of_cell? _ _ hc) (fun e => hne (by rw [e]; rfl)))).trans hc
def getMV (m : Mt) (bv : Value) (e : Int) : Value := .tuple #[mtV m bv, .int .i64 e]
theorem ints_nil (w : World) : IntsAt w (.slice none 0 0) [] := ⟨none, 0, rfl, fun _ => rfl, by simp, (fun x hx => by cases hx), fun i x hx => by simp at hx⟩
set_option maxRecDepth 100000 in
set_option maxHeartbeats 4000000 in
theorem Get_meta_any (s : List UInt8) (w : World) (hl : s.length ≤ 1000000) :
    Calls Tryz.prog 17 #[.string (bs s)] w fun e w' => ∃ bv, e = .returned (getMV ((getM s).1.getD zeroMt) bv (getM s).2) ∧ IntsAt w' bv ((getM s).1.getD zeroMt).blocks ∧ Below w.heap.size w w' := by
  have b0 := one_alloc w (.cells #[.int .i64 0, .int .i64 0, .int .i64 0, .slice none 0 0] 24)
  have k0 := Blk.new w 24 #[.int .i64 0, .int .i64 0, .int .i64 0, .slice none 0 0]
  have qo := Lib.hid (fun W => Open_any s magicM (by omega) (by decide) W)
  have HG := Lib.hid (show getM s = match openB s magicM with
    | (g, _, rest, e) => if e ≠ 0 then (none, e)
      else if (frameGet rest 1000).2.2 ≠ 0 ∨ (frameGet rest 1000).2.1 ≠ [] ∨ doneB (readM (frameGet rest 1000).1 g).2.1 (readM (frameGet rest 1000).1 g).2.2 = false then (none, 9)
      else if putM (readM (frameGet rest 1000).1 g).1 = (s, 0) then (some (readM (frameGet rest 1000).1 g).1, 0) else (none, 9) from rfl)
  generalize getM s = GM at *
  have hob := openB_bd s magicM
  rcases hO : openB s magicM with ⟨g, fl, rest, er⟩
  rw [hO] at HG hob qo
  simp only at HG hob
  clear hO
  go_enter Tryz.func17, Tryz.ntmps17
  go_wp2_with fail
  refine (qo.out _).mono ?_
  rintro e w1 ⟨rfl, b1⟩
  rw [show openV (g, fl, rest, er) = .tuple #[.int .i64 (g : Int), .int .i64 (fl : Int), .string (bs rest), .int .i64 er] from rfl]
  have k1 := Blk.below k0 b1 k0.lt
  have B1 := b0.trans (b1.mono b0.size)
  obtain ⟨⟨c0, c1, c2, c3⟩, z0, z1, z2, z3⟩ := cells4 k1
  obtain ⟨hk1, hK1⟩ := set4 k1 (.int .i64 0) (.int .i64 0) (.int .i64 0) (.slice none 0 0)
  by_cases her : er = 0
  · subst her
    rw [if_neg (by simp)] at HG
    have qg := Lib.hid (fun W => Get_any rest 1000 (by omega) (by decide) W)
    have hfl := frameGet_len rest 1000
    rcases hF : frameGet rest 1000 with ⟨b, rest2, sh⟩
    rw [hF] at HG hfl qg
    simp only at HG hfl
    clear hF
    go_wp2_with fail
    refine (qg.out _).mono ?_
    rintro e w2 ⟨rfl, b2⟩
    rw [show frameV (b, rest2, sh) = .tuple #[.string (bs b), .string (bs rest2), .int .i64 sh] from rfl]
    have b12 := b1.trans (Below.mono b2 b1.size)
    have qr := Lib.hid (read_any b (g : Int) w2 (by omega) (by omega) (by omega))
    have hmo := readM_ok b (g : Int) (by omega) (by omega)
    rcases hM : readM b (g : Int) with ⟨⟨gn, nx, wl, L⟩, cc⟩
    rw [hM] at HG qr hmo
    simp only at HG qr hmo
    clear hM c0 c1 c2 c3 z0 z1 z2 z3 hk1 hK1 qg
    go_wp2_with fail
    refine qr.out.mono ?_
    rintro e w3 ⟨bv, rfl, hI, hown, b3⟩
    generalize hdn : doneB cc.1 cc.2 = dn at *
    obtain ⟨ba, bc, rfl, _⟩ := id hI
    have hws : w.heap.size < w2.heap.size := Nat.lt_of_lt_of_le k1.lt b2.size
    rw [show readV ⟨gn, nx, wl, L⟩ (.slice ba L.length bc) dn = .tuple #[.agg #[.int .i64 gn, .int .i64 nx, .int .i64 wl, .slice ba L.length bc], .bool dn] from rfl]
    have km := Blk.new w3 24 #[.int .i64 gn, .int .i64 nx, .int .i64 wl, .slice ba L.length bc]
    have b4 := one_alloc w3 (.cells #[.int .i64 gn, .int .i64 nx, .int .i64 wl, .slice ba L.length bc] 24)
    have b14 := (b2.trans (b3.mono b2.size)).trans (b4.mono (Nat.le_trans b2.size b3.size))
    have k4 := Blk.below k1 b14 k1.lt
    have B4 := B1.trans (b14.mono B1.size)
    have hI4 := hI.below b4
    obtain ⟨⟨m0, m1, m2, m3⟩, _⟩ := cells4 km
    obtain ⟨⟨c0, c1, c2, c3⟩, z0, z1, z2, z3⟩ := cells4 k4
    obtain ⟨hk4, hK4⟩ := set4 k4 (.int .i64 0) (.int .i64 0) (.int .i64 0) (.slice none 0 0)
    clear qr b3 b4 b14 b2 b12 hI k1
    by_cases hsh : sh = 0
    · subst hsh
      cases rest2 with
      | cons rx rr =>
        have HY := Lib.hid (show GM = (none, 9) by rw [HG.out, if_pos (.inr (.inl (by simp)))])
        have f2 : (rx :: rr).isEmpty = false := rfl
        clear HG
        go_wp2_with fail
        (try simp only [Exit.inBlock, Exit.then])
        refine bodyPost_ret (results_ct rfl _ _ w.heap.size 24 _ _ rfl hk4 Tryz.underlying24 rfl (by kernel_rfl)) rfl ?_
        refine ⟨.slice none 0 0, ?_, ?_, B4.trans (Kept.below hK4 B4.size (fun k hk => by omega))⟩
        · rw [HY.out]
          rfl
        · rw [HY.out]
          exact ints_nil _
      | nil =>
        cases dn with
        | false =>
          have HY := Lib.hid (show GM = (none, 9) by rw [HG.out, if_pos (.inr (.inr rfl))])
          clear HG
          rw [show bs [] = ⟨#[]⟩ from rfl]
          go_wp2_with fail
          (try simp only [Exit.inBlock, Exit.then])
          refine bodyPost_ret (results_ct rfl _ _ w.heap.size 24 _ _ rfl hk4 Tryz.underlying24 rfl (by kernel_rfl)) rfl ?_
          refine ⟨.slice none 0 0, ?_, ?_, B4.trans (Kept.below hK4 B4.size (fun k hk => by omega))⟩
          · rw [HY.out]
            rfl
          · rw [HY.out]
            exact ints_nil _
        | true =>
          rw [if_neg (by simp)] at HG
          have qp := Lib.hid (Put_any ⟨gn, nx, wl, L⟩ (.slice ba L.length bc) _ hmo hI4)
          rw [show mtV ⟨gn, nx, wl, L⟩ (.slice ba L.length bc) = .agg #[.int .i64 gn, .int .i64 nx, .int .i64 wl, .slice ba L.length bc] from rfl] at qp
          rw [show bs [] = ⟨#[]⟩ from rfl]
          go_wp2_with fail
          refine qp.out.mono ?_
          rintro e w5 ⟨rfl, b5⟩
          have hI5 := hI4.below b5
          have B5 := B4.trans (b5.mono B4.size)
          have km5 := Blk.below km b5 km.lt
          have k5 := Blk.below k4 b5 k4.lt
          rcases hP : putM ⟨gn, nx, wl, L⟩ with ⟨pb, pe⟩
          rw [hP] at HG
          rw [show putMV ⟨gn, nx, wl, L⟩ = .tuple #[.string (bs pb), .int .i64 pe] by unfold putMV; rw [hP]]
          obtain ⟨⟨p0, p1, p2, p3⟩, _⟩ := cells4 km5
          obtain ⟨⟨d0, d1, d2, d3⟩, y0, y1, y2, y3⟩ := cells4 k5
          obtain ⟨hk5, hK5⟩ := set4 k5 (.int .i64 0) (.int .i64 0) (.int .i64 0) (.slice none 0 0)
          obtain ⟨hk6, hK6⟩ := set4 k5 (.int .i64 gn) (.int .i64 nx) (.int .i64 wl) (.slice ba L.length bc)
          have hI6 : IntsAt _ (.slice ba L.length bc) L := ints_kept hI5 hK6 (fun e => by have := hown _ e; have := hws; omega)
          clear hP c0 c1 c2 c3 z0 z1 z2 z3 m0 m1 m2 m3 hk4 hK4 qp b5
          by_cases hpe : pe = 0
          · subst hpe
            by_cases hps : pb = s
            · subst hps
              have HY := Lib.hid (show GM = (some ⟨gn, nx, wl, L⟩, 0) by rw [HG.out, if_pos rfl])
              have f3 : (pb == pb) = true := by simp
              clear HG
              go_wp2_with fail
              (try simp only [Exit.inBlock, Exit.then])
              refine bodyPost_ret (results_ct rfl _ _ w.heap.size 24 _ _ rfl hk6 Tryz.underlying24 rfl (by kernel_rfl)) rfl ?_
              refine ⟨.slice ba L.length bc, ?_, ?_, B5.trans (Kept.below hK6 B5.size (fun k hk => by omega))⟩
              · rw [HY.out]
                rfl
              · rw [HY.out]
                exact hI6
            · have HY := Lib.hid (show GM = (none, 9) by rw [HG.out, if_neg (by simp [hps])])
              have f3 : (pb == s) = false := by simpa using hps
              clear HG hps
              go_wp2_with fail
              (try simp only [Exit.inBlock, Exit.then])
              refine bodyPost_ret (results_ct rfl _ _ w.heap.size 24 _ _ rfl hk5 Tryz.underlying24 rfl (by kernel_rfl)) rfl ?_
              refine ⟨.slice none 0 0, ?_, ?_, B5.trans (Kept.below hK5 B5.size (fun k hk => by omega))⟩
              · rw [HY.out]
                rfl
              · rw [HY.out]
                exact ints_nil _
          · have HY := Lib.hid (show GM = (none, 9) by rw [HG.out, if_neg (by simp [hpe])])
            have f3 : (pe != 0) = true := by simpa using hpe
            clear HG hpe
            go_wp2_with fail
            (try simp only [Exit.inBlock, Exit.then])
            refine bodyPost_ret (results_ct rfl _ _ w.heap.size 24 _ _ rfl hk5 Tryz.underlying24 rfl (by kernel_rfl)) rfl ?_
            refine ⟨.slice none 0 0, ?_, ?_, B5.trans (Kept.below hK5 B5.size (fun k hk => by omega))⟩
            · rw [HY.out]
              rfl
            · rw [HY.out]
              exact ints_nil _
    · have HY := Lib.hid (show GM = (none, 9) by rw [HG.out, if_pos (.inl hsh)])
      have f2 : (sh != 0) = true := by simpa using hsh
      clear HG hsh
      go_wp2_with fail
      (try simp only [Exit.inBlock, Exit.then])
      refine bodyPost_ret (results_ct rfl _ _ w.heap.size 24 _ _ rfl hk4 Tryz.underlying24 rfl (by kernel_rfl)) rfl ?_
      refine ⟨.slice none 0 0, ?_, ?_, B4.trans (Kept.below hK4 B4.size (fun k hk => by omega))⟩
      · rw [HY.out]
        rfl
      · rw [HY.out]
        exact ints_nil _
  · have f1 : (er != 0) = true := by simpa using her
    have HY := Lib.hid (show GM = (none, er) by rw [HG.out, if_pos her])
    clear HG her
    go_wp2_with fail
    (try simp only [Exit.inBlock, Exit.then])
    refine bodyPost_ret (results_ct rfl _ _ w.heap.size 24 _ _ rfl hk1 Tryz.underlying24 rfl (by kernel_rfl)) rfl ?_
    refine ⟨.slice none 0 0, ?_, ?_, B1.trans (Kept.below hK1 B1.size (fun k hk => by omega))⟩
    · rw [HY.out]
      rfl
    · rw [HY.out]
      exact ints_nil _
end Go.Proofs.YtgehgjalkponfaaGreatDoor
